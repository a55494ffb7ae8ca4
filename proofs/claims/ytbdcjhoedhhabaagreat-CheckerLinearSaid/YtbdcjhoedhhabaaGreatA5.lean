/- Contracts of the functions that the statements reach, part 5. -/
import Derived.ChangeKeysEq
import Derived.Laws.Entries
import Derived.Laws.StructEq
import Derived.IntWalk
import Derived.Test.YtbdcjhoedhhabaaGreatA4
set_option linter.unusedSimpArgs false
set_option linter.unusedVariables false

/- The executor's operations, one by one: what the model does. -/
namespace Go.Proofs.YtbdcjhoedhhabaaGreat
set_option linter.unusedSectionVars false
open Go.RowKit

/-- The tables are those of the program. -/
structure TabsOk (T : Tabs) (P : Program) : Prop where
 ty : ∀ t i, T.ty.get t = some i → P.info? t = some i
 fn : ∀ f x, T.fn.get f = some x → P.funcs[f]? = some x
 name : ∀ f x, T.fn.get f = some x → x.name ≠ "runtime.NumGoroutine"
 eqs : ∀ t, t ∈ T.eqs → P.stoodInHeld t = false ∧ P.eqGuardType P.depth t = false

/-- All blocks that the registers name are of S. -/
def RSup (S : Nat → Prop) (r : Regs) : Prop := ∀ t, (r.at t).sup S

/-- What an operation is said to do, it does. -/
def Does (ρ : Rho) (r : Regs) (m : Mem) (w : World) (res : Result Next) : Eff → Prop
 | .val v m' => ∃ ρ' w', res = .ok (.value (v.conc ρ')) w' ∧ Post ρ ρ' m m' w w' ∧ ∀ S, RSup S r → MSup S m → MSup (Wid S m m') m' ∧ v.sup (Wid S m m')
 | .skip m' => ∃ ρ' w', res = .ok .skip w' ∧ Post ρ ρ' m m' w w' ∧ ∀ S, RSup S r → MSup S m → MSup (Wid S m m') m'
 | .call f vs => res = .ok (.enter f (concs ρ vs).toArray) w ∧ ∀ S, RSup S r → MSup S m → sups S vs

theorem Does.pure {ρ : Rho} {r : Regs} {m : Mem} {w : World} {res : Result Next} {v : AV} (hm : MemOk ρ m w) (h : res = .ok (.value (v.conc ρ)) w)
 (hs : ∀ S, RSup S r → MSup S m → v.sup S) : Does ρ r m w res (.val v m) :=
 ⟨ρ, w, h, Post.refl hm, fun S h1 h2 => ⟨h2.mono fun _ h => .inl h, sup_mono (fun _ h => .inl h) v (hs S h1 h2)⟩⟩

theorem av0_sup (S : Nat → Prop) (v : Value) (x : AV) (h : av0 v = some x) : x.sup S := by
 unfold av0 at h
 split at h <;> first | (injection h with h; subst h; trivial) | cases h

theorem mapM_sup (S : Nat → Prop) {d : Nat} (ih : ∀ v x, avOf d v = some x → x.sup S) : ∀ (l : List Value) (xs : List AV), l.mapM (avOf d) = some xs → sups S xs
 | [], xs, h => by simp at h; subst h; trivial
 | v :: l, xs, h => by
   simp only [List.mapM_cons, Option.bind_eq_bind, Option.bind_eq_some_iff] at h
   obtain ⟨x, hx, ys, hy, e⟩ := h
   injection e with e
   subst e
   exact ⟨ih v x hx, mapM_sup S ih l ys hy⟩

theorem avOf_sup (S : Nat → Prop) : ∀ (d : Nat) (v : Value) (x : AV), avOf d v = some x → x.sup S
 | 0, v, x, h => av0_sup S v x h
 | d + 1, v, x, h => by
   have ih := mapM_sup S (avOf_sup S d)
   unfold avOf at h
   split at h
   ·simp only [Option.bind_eq_some_iff, Option.map_eq_some_iff] at h
    obtain ⟨fs, h1, cs, h2, e⟩ := h
    subst e
    exact ⟨ih _ _ h1, ih _ _ h2⟩
   ·simp only [Option.map_eq_some_iff] at h
    obtain ⟨cs, h2, e⟩ := h
    subst e
    exact ih _ _ h2
   ·simp only [Option.map_eq_some_iff] at h
    obtain ⟨cs, h2, e⟩ := h
    subst e
    exact ih _ _ h2
   ·exact av0_sup S v x h

theorem evA_sup {S : Nat → Prop} {r : Regs} (hr : RSup S r) {x : Operand} {v : AV} (e : evA r x = some v) : v.sup S := by
 cases x with
 | tmp t => injection e with e; subst e; exact hr t
 | const c => exact avOf_sup S 3 c v e
 | global g => cases e
 | func f => injection e with e; subst e; exact ⟨trivial, trivial⟩

section
variable {T : Tabs} {P : Program} (H : TabsOk T P)
include H

theorem TabsOk.un {t : Nat} {d : TypeDesc} (h : T.un t = some d) : P.underlying t = some d := by
 unfold Tabs.un at h
 split at h
 ·rename_i i hi
  have e := H.ty t i hi
  unfold Program.underlying
  rw [e]
  split at h
  ·rename_i n u hd
   simp only [Option.map_eq_some_iff] at h
   obtain ⟨j, hj, e2⟩ := h
   obtain ⟨di, _⟩ := i
   simp only at hd
   subst hd
   simp only [H.ty u j hj, Option.map_some, e2]
  ·rename_i hd
   injection h with h
   subst h
   split
   ·rename_i hx
    injection hx with hx
    subst hx
    exact absurd rfl (hd _ _)
   ·rename_i j _ hx
    injection hx with hx
    subst hx
    rfl
   ·rename_i hx; cases hx
 ·cases h

theorem TabsOk.size {t : Nat} {i : TypeInfo} (h : T.ty.get t = some i) (w : World) : (sizeOf t).run P w = .ok i.size w := by
 unfold sizeOf
 rw [Sem.run_bind, run_typeInfo w (H.ty t i h)]
 rfl

theorem TabsOk.agg {t : Nat} {b : Bool} (h : T.isAgg t = some b) (w : World) : (Go.isAgg t).run P w = .ok b w := by
 unfold Tabs.isAgg at h
 unfold Go.isAgg
 split at h
 ·rename_i hu; injection h with h; subst h; rw [Sem.run_bind, run_underlying (H.un hu)]; rfl
 ·rename_i hu; injection h with h; subst h; rw [Sem.run_bind, run_underlying (H.un hu)]; rfl
 ·rename_i d h1 h2 hu
  injection h with h
  subst h
  rw [Sem.run_bind, run_underlying (H.un hu)]
  cases d <;> first | rfl | exact (h1 _ rfl).elim | exact (h2 _ _ rfl).elim
 ·cases h

theorem TabsOk.zero_run {t : Nat} {z : AV} (ρ : Rho) (h : T.zero t = some z) (w : World) : (zeroValue t).run P w = .ok (z.conc ρ) w := by
 unfold Tabs.zero at h
 simp only [Option.bind_eq_some_iff] at h
 obtain ⟨i, hi, v, hv, e⟩ := h
 unfold zeroValue
 rw [Sem.run_bind, run_typeInfo w (H.ty t i hi)]
 simp only [Result.andThen_ok, hv, avOf_conc ρ 3 v z e]
 rfl

end

section
variable {T : Tabs} {P : Program} (H : TabsOk T P) {ρ : Rho} {N : Nat} {r : Regs} {m : Mem} {a : Act} {w : World} (hr : RegOk ρ N r a) (hm : MemOk ρ m w) {o : Oper} {e : Eff}
include hr hm

theorem move_sound {x : Operand} (ho : o.op = .move x) (h : opA T r m (.move x) = some e) : Does ρ r m w ((execOp a.eval o).run P w) e := by
 simp only [opA, opMove, Option.map_eq_some_iff] at h
 obtain ⟨v, hv, rfl⟩ := h
 refine Does.pure hm ?_ fun S h1 _ => evA_sup h1 hv
 simp only [execOp, ho, hr.ev hv]
 rfl

theorem assign_sound {x : Operand} (ho : o.op = .assign x) (h : opA T r m (.assign x) = some e) : Does ρ r m w ((execOp a.eval o).run P w) e := by
 simp only [opA, opAssign, Option.map_eq_some_iff] at h
 obtain ⟨v, hv, rfl⟩ := h
 refine Does.pure hm ?_ fun S h1 _ => evA_sup h1 hv
 simp only [execOp, ho, hr.ev hv]
 rfl

theorem pick_sound {c x y : Operand} (ho : o.op = .pick c x y) (h : opA T r m (.pick c x y) = some e) : Does ρ r m w ((execOp a.eval o).run P w) e := by
 simp only [opA, opPick] at h
 split at h
 ·rename_i hc
  simp only [Option.map_eq_some_iff] at h
  obtain ⟨v, hv, rfl⟩ := h
  refine Does.pure hm ?_ fun S h1 _ => evA_sup h1 hv
  simp only [execOp, ho, hr.ev hc, AV.conc, hr.ev hv]
  rfl
 ·rename_i hc
  simp only [Option.map_eq_some_iff] at h
  obtain ⟨v, hv, rfl⟩ := h
  refine Does.pure hm ?_ fun S h1 _ => evA_sup h1 hv
  simp only [execOp, ho, hr.ev hc, AV.conc, hr.ev hv]
  rfl
 ·cases h

include H in
theorem loadA_sound {t b off : Nat} {v : AV} (h : loadA T m t b off = some v) : (loadVar t ⟨(ρ b).addr, off + (ρ b).shift, none⟩).run P w = .ok (v.conc ρ) w := by
 unfold loadA at h
 unfold loadVar
 split at h
 ·rename_i i hg hi
  simp only [Option.map_eq_some_iff] at h
  obtain ⟨l, hl, rfl⟩ := h
  rw [Sem.run_bind, H.agg hg]
  simp only [Result.andThen_ok, if_true, Sem.run_bind, H.size hi, loadCells_sound hm hl]
  rfl
 ·rename_i i hg hi
  split at h
  ·rename_i u hl
   injection h with h
   subst h
   obtain ⟨_, hc⟩ := cells_read hm hl
   have h0 := hc 0 (u.conc ρ) rfl
   rw [addr_zero] at h0
   rw [Sem.run_bind, H.agg hg]
   simp only [Result.andThen_ok, Bool.false_eq_true, if_false, run_load, h0]
  ·cases h
 ·cases h

theorem loadA_sup {S : Nat → Prop} (hS : MSup S m) {t b off : Nat} {v : AV} (h : loadA T m t b off = some v) : v.sup S := by
 unfold loadA at h
 split at h
 ·simp only [Option.map_eq_some_iff] at h
  obtain ⟨l, hl, rfl⟩ := h
  exact cellsAt_sup hS hl
 ·split at h
  ·rename_i u hl
   injection h with h
   subst h
   exact (cellsAt_sup hS hl).1
  ·cases h
 ·cases h

include H in
theorem load_sound {t : Nat} {x : Operand} (ho : o.op = .load t x) (h : opA T r m (.load t x) = some e) : Does ρ r m w ((execOp a.eval o).run P w) e := by
 simp only [opA, opLoad] at h
 split at h
 ·rename_i b off hx
  simp only [Option.map_eq_some_iff] at h
  obtain ⟨v, hv, rfl⟩ := h
  refine Does.pure hm ?_ fun S _ h2 => loadA_sup hr hm h2 hv
  simp only [execOp, ho, hr.ev hx, AV.conc, Instr.loadAt, Instr.sureAddr, Sem.run_bind, Sem.run_pure, Result.andThen_ok, loadA_sound H hr hm hv]
 ·cases h

theorem new_does (cs : List AV) (hs : ∀ S, RSup S r → MSup S m → sups S cs) (hl : sups (fun b => b < m.next) cs) {vs : Array Value} (hv : vs.toList = concs ρ cs) {t : TypeId} {res : Result Next}
 (he : res = .ok (.value (.pointer (some ⟨w.heap.size, 0, none⟩))) (w.alloc (.cells vs t))) : Does ρ r m w res (.val (.ptr m.next 0) (m.new (.cells cs 0))) := by
 have hvs : vs = (concs ρ cs).toArray := by rw [← hv]
 subst hvs
 refine ⟨ρ.put m.next ⟨w.heap.size, 0, 0⟩, _, ?_, post_new hm cs hl 0 t, fun S h1 h2 => ⟨?_, .inr ⟨Nat.le_refl _, Nat.lt_succ_self _⟩⟩⟩
 ·rw [he, AV.conc, Rho.put_at]; rfl
 ·intro b k e
  simp only [Mem.new, Tr.get_put] at e
  split at e
  ·injection e with e
   subst e
   exact sups_mono (fun _ h => .inl h) cs (hs S h1 h2)
  ·exact Blk.sup_mono (fun _ h => .inl h) (h2 b k e)

theorem zero_sup {S : Nat → Prop} {t : Nat} {z : AV} (h : T.zero t = some z) : z.sup S := by
 unfold Tabs.zero at h
 simp only [Option.bind_eq_some_iff] at h
 obtain ⟨i, hi, v, hv, e⟩ := h
 exact avOf_sup S 3 v z e

include H in
theorem alloc_sound {t : Nat} (ho : o.op = .alloc t) (h : opA T r m (.alloc t) = some e) : Does ρ r m w ((execOp a.eval o).run P w) e := by
 simp only [opA, opAlloc, Option.map_eq_some_iff] at h
 obtain ⟨z, hz, rfl⟩ := h
 refine new_does (vs := (z.conc ρ).cells) (t := t) hr hm z.cells (fun S _ _ => sup_cells (zero_sup hr hm hz)) (sup_cells (zero_sup hr hm hz)) (conc_cells ρ z) ?_
 simp only [execOp, ho, Instr.alloc, Sem.run_bind, H.zero_run ρ hz, Result.andThen_ok, newVar, newRow]
 rfl

theorem box_sound (hs : RSup (fun b => b < m.next) r) {t : Nat} {x : Operand} (ho : o.op = .box t x) (h : opA T r m (.box t x) = some e) : Does ρ r m w ((execOp a.eval o).run P w) e := by
 simp only [opA, opBox, Option.map_eq_some_iff] at h
 obtain ⟨v, hv, rfl⟩ := h
 refine new_does (vs := (v.conc ρ).cells) (t := t) hr hm v.cells (fun S h1 _ => sup_cells (evA_sup h1 hv)) (sup_cells (evA_sup hs hv)) (conc_cells ρ v) ?_
 simp only [execOp, ho, hr.ev hv, Instr.box, newVar, newRow]
 rfl

/-- Cells of a live block are written: the supports. -/
theorem set_sup {S : Nat → Prop} (hS : MSup S m) {b off el : Nat} {cs vs cs' : List AV} (hb : m.blks.get b = some (.cells cs el)) (hp : putCells cs off vs = some cs') (hv : sups S vs) :
 MSup (Wid S m (m.set b (some (.cells cs' el)))) (m.set b (some (.cells cs' el))) := by
 obtain ⟨h1, _, _⟩ := putCells_spec cs off vs cs' hp
 intro c k e
 simp only [Mem.set, Tr.get_put] at e
 split at e
 ·injection e with e
  subst e
  have hc : sups S cs := hS b _ hb
  refine sups_mono (S := S) (fun _ h => .inl h) cs' ?_
  rw [h1]
  refine sups_of fun v hx => ?_
  rcases List.mem_append.1 hx with hx | hx
  ·rcases List.mem_append.1 hx with hx | hx
   ·exact sups_mem hc v (List.mem_of_mem_take hx)
   ·exact sups_mem hv v hx
  ·exact sups_mem hc v (List.mem_of_mem_drop hx)
 ·exact Blk.sup_mono (fun _ h => .inl h) (hS c k e)

include H in
theorem store_sound (hs : RSup (fun b => b < m.next) r) {t : Nat} {x y : Operand} (ho : o.op = .store t x y) (h : opA T r m (.store t x y) = some e) : Does ρ r m w ((execOp a.eval o).run P w) e := by
 simp only [opA, opStore] at h
 split at h
 ·rename_i b off v hx hy
  simp only [Option.map_eq_some_iff] at h
  obtain ⟨m', h, rfl⟩ := h
  unfold storeA at h
  split at h
  ·rename_i i cs el hi hb
   cases hn : Nat.beq v.cells.length i.size with
   | false => rw [hn] at h; cases h
   | true =>
     rw [hn] at h
     simp only [cond_true, Option.map_eq_some_iff] at h
     obtain ⟨cs', hp, rfl⟩ := h
     obtain ⟨w', h1, h2⟩ := storeCells_sound (P := P) hm hb hp (sup_cells (evA_sup hs hy))
     refine ⟨ρ, w', ?_, h2, fun S h3 h4 => set_sup hr hm h4 hb hp (sup_cells (evA_sup h3 hy))⟩
     have hz : (v.conc ρ).cells.size = i.size := by rw [← Array.length_toList, conc_cells, concs_len]; exact Nat.eq_of_beq_eq_true hn
     simp only [execOp, ho, hr.ev hx, hr.ev hy, AV.conc, Instr.storeAt, Instr.sureAddr, Sem.run_bind, Sem.run_pure, Result.andThen_ok, storeVar, H.size hi, hz, ne_eq, not_true_eq_false, if_false, conc_cells, h1]
  ·cases h
 ·cases h

end

end Go.Proofs.YtbdcjhoedhhabaaGreat

/- The executor's arithmetic and comparisons: what the model reckons. -/
namespace Go.Proofs.YtbdcjhoedhhabaaGreat
open Go.RowKit

theorem ieq_eq (a b : Int) : ieq a b = (a == b) := by
 cases a with
 | ofNat a => cases b with
   | ofNat b => rw [Bool.eq_iff_iff]; simp only [ieq, Nat.beq_eq, beq_iff_eq, Int.ofNat_eq_natCast]; omega
   | negSucc b => rfl
 | negSucc a => cases b with
   | ofNat b => rfl
   | negSucc b => rw [Bool.eq_iff_iff]; simp [ieq]

theorem ile_eq (a b : Int) : ile a b = decide (a ≤ b) := by
 rw [Bool.eq_iff_iff, decide_eq_true_iff]
 cases a with
 | ofNat a => cases b with
   | ofNat b => simp [ile]
   | negSucc b => simp only [ile, Bool.false_eq_true, false_iff, Int.ofNat_eq_natCast]; omega
 | negSucc a => cases b with
   | ofNat b => simp only [ile, true_iff, Int.ofNat_eq_natCast]; omega
   | negSucc b => simp only [ile, Nat.ble_eq]; omega

theorem kindEq_of {j k : IntKind} (h : kindEq j k = true) : j = k := by
 cases j <;> cases k <;> first | rfl | cases h

theorem i64_small (n : Int) (h1 : -9223372036854775808 ≤ n) (h2 : n ≤ 9223372036854775807) : IntKind.i64.wrap n = n := by rw [IntKind.wrap_i64]; omega

theorem small_le {a : Nat} (h : small a = true) : a ≤ 9223372036854775807 := Nat.le_of_ble_eq_true h

theorem wrapA_eq (k : IntKind) (n : Int) : wrapA k n = k.wrap n := by
 unfold wrapA
 split
 ·rename_i a
  cases h : small a with
  | false => exact cond_false _ _
  | true =>
    have := small_le h
    have e := i64_small (Int.ofNat a) (by simp only [Int.ofNat_eq_natCast]; omega) (by simp only [Int.ofNat_eq_natCast]; omega)
    exact e.symm
 ·rename_i a
  cases h : small a with
  | false => exact cond_false _ _
  | true =>
    have := small_le h
    have e := i64_small (Int.negSucc a) (by rw [Int.negSucc_eq]; omega) (by rw [Int.negSucc_eq]; omega)
    exact e.symm
 ·rfl

/-- A value without addresses. -/
def AV.flat : AV → Prop
 | .bool _ | .int _ _ | .str _ => True
 | _ => False

theorem AV.flat.sup {v : AV} (h : v.flat) (S : Nat → Prop) : v.sup S := by
 cases v <;> first | trivial | exact h.elim

section
variable {P : Program} (ρ : Rho) (w : World)

theorem shiftA_sound {op : BinOp} {k j : IntKind} {a b : Int} {v : AV} (h : shiftA op k a b = some v) : (Op.shift op k a j b).run P w = .ok (v.conc ρ) w ∧ v.flat := by
 cases b with
 | negSucc b => cases h
 | ofNat b =>
   have h0 : ¬ (Int.ofNat b < 0) := by simp only [Int.ofNat_eq_natCast]; omega
   have h1 : (Int.ofNat b).toNat = b := rfl
   cases op <;> cases h
   all_goals
    simp only [Op.shift, h0, if_false, h1, wrapA_eq, AV.conc, AV.flat, and_true]
    rfl

theorem arithA_sound {op : BinOp} {k : IntKind} {a b : Int} {v : AV} (h : arithA op k a b = some v) (h1 : op ≠ .shl) (h2 : op ≠ .shr) (t : TypeId) :
 (binOp op t (.int k a) (.int k b)).run P w = .ok (v.conc ρ) w ∧ v.flat := by
 cases op <;> first | exact absurd rfl h1 | exact absurd rfl h2 | skip
 case quo =>
  simp only [arithA, ieq_eq] at h
  cases hb : (b == 0) with
  | true => rw [hb] at h; cases h
  | false =>
    rw [hb] at h
    injection h with h
    subst h
    simp at hb
    simp only [binOp, ne_eq, not_true_eq_false, if_false, Op.intDiv, hb, wrapA_eq, AV.conc, AV.flat, and_true]
    rfl
 case rem =>
  simp only [arithA, ieq_eq] at h
  cases hb : (b == 0) with
  | true => rw [hb] at h; cases h
  | false =>
    rw [hb] at h
    injection h with h
    subst h
    simp at hb
    simp only [binOp, ne_eq, not_true_eq_false, if_false, Op.intDiv, hb, AV.conc, AV.flat, and_true]
    rfl
 all_goals cases h
 all_goals
  simp only [binOp, ne_eq, not_true_eq_false, if_false, Op.intArith, Op.intBits, Op.intCmp, wrapA_eq, ieq_eq, ile_eq, AV.conc, AV.flat, and_true]
  first
  | rfl
  | (simp only [Sem.run_pure]
     congr 2
     first
     | rfl
     | (rw [Bool.eq_iff_iff]; simp; try omega))

theorem eqGuard_conc (op : BinOp) (t : TypeId) (x y : Operand) {a b : AV} (h : ∀ xs ys, a = .agg xs → b = .agg ys → False) : (eqGuard op t x y (a.conc ρ) (b.conc ρ)).run P w = .ok () w := by
 cases a <;> cases b <;> first | exact (h _ _ rfl rfl).elim | (cases op <;> rfl)

theorem intA_sound {op : BinOp} {k j : IntKind} {a b : Int} {v : AV} (h : intA op k a j b = some v) (t : TypeId) : (binOp op t (.int k a) (.int j b)).run P w = .ok (v.conc ρ) w ∧ v.flat := by
 unfold intA at h
 split at h
 ·exact shiftA_sound (j := j) ρ w h
 ·exact shiftA_sound (j := j) ρ w h
 ·rename_i h1 h2
  cases hk : kindEq k j with
  | false => rw [hk] at h; cases h
  | true =>
    rw [hk] at h
    have := kindEq_of hk
    subst this
    exact arithA_sound ρ w h h1 h2 t

theorem toList_bytes (a : ByteArray) : a.toList = a.data.toList := ByteArray.toList_eq a

theorem strA_sound {op : BinOp} {a b : ByteArray} {v : AV} (h : strA op a b = some v) (t : TypeId) : (binOp op t (.string a) (.string b)).run P w = .ok (v.conc ρ) w ∧ v.flat := by
 cases op <;> cases h
 all_goals
  simp only [binOp, Op.stringOp, toList_bytes, AV.conc, AV.flat, and_true]
  rfl

theorem eqOp_flat {op : BinOp} {b : Bool} {v : AV} (h : eqOp op b = some v) : (op = .eql ∧ v = .bool b) ∨ (op = .neq ∧ v = .bool !b) := by
 cases op <;> cases h
 ·exact .inl ⟨rfl, rfl⟩
 ·exact .inr ⟨rfl, rfl⟩

end
end Go.Proofs.YtbdcjhoedhhabaaGreat

/- The executor's operations, one by one: comparisons, parts of values, addresses. -/
namespace Go.Proofs.YtbdcjhoedhhabaaGreat
set_option linter.unusedSectionVars false
open Go.RowKit

theorem concs_at (ρ : Rho) (cs : List AV) (i : Nat) : (concs ρ cs)[i]? = (cs[i]?).map (AV.conc ρ) := by simp [concs_eq]

section
variable {T : Tabs} {P : Program} (H : TabsOk T P) {ρ : Rho} {w : World}
include H

theorem eqPlain_sound {t : Nat} {x y : AV} {b : Bool} (h : eqPlain T t x y = some b) (d : Nat) :
 (∃ a, Go.isAgg t = a ∧ a.run P w = .ok false w) ∧ (Op.equalIn (d + 1) t (x.conc ρ) (y.conc ρ)).run P w = .ok b w := by
 unfold eqPlain at h
 split at h
 ·rename_i k j a k' c hu
  cases hk : kindEq j k' with
  | false => rw [hk] at h; cases h
  | true =>
    rw [hk] at h
    injection h with h
    subst h
    have := kindEq_of hk
    subst this
    refine ⟨⟨_, rfl, ?_⟩, ?_⟩
    ·unfold Go.isAgg; rw [Sem.run_bind, run_underlying (H.un hu)]; rfl
    ·rw [ieq_eq]; exact run_equalIn_int w d t j k a c (H.un hu)
 ·rename_i a c hu
  injection h with h
  subst h
  refine ⟨⟨_, rfl, ?_⟩, run_equalIn_bool' w d t a c (H.un hu)⟩
  unfold Go.isAgg; rw [Sem.run_bind, run_underlying (H.un hu)]; rfl
 ·rename_i a c hu
  injection h with h
  subst h
  refine ⟨⟨_, rfl, ?_⟩, ?_⟩
  ·unfold Go.isAgg; rw [Sem.run_bind, run_underlying (H.un hu)]; rfl
  ·rw [← toList_bytes, ← toList_bytes]; exact run_equalIn_string w d t a c (H.un hu)
 ·cases h

theorem part_plain {t : Nat} {x y : AV} {b : Bool} (h : eqPlain T t x y = some b) {cs : List AV} {off : Nat} {z : AV} (hz : cs[off]? = some z) :
 (part t (concs ρ cs).toArray off).run P w = .ok (z.conc ρ) w := by
 obtain ⟨⟨a, ha, hr⟩, _⟩ := eqPlain_sound H (ρ := ρ) (w := w) h 0
 unfold part
 rw [Sem.run_bind, ha, hr]
 have e : (concs ρ cs).toArray[off]? = some (z.conc ρ) := by rw [List.getElem?_toArray, concs_at, hz]; rfl
 simp only [Result.andThen_ok, Bool.false_eq_true, if_false, e]
 rfl

theorem eqFields_sound {xs ys : List AV} (d : Nat) : ∀ {fs : List Field} {b : Bool}, eqFields T xs ys fs = some b → (Op.eqFields (d + 1) (concs ρ xs).toArray (concs ρ ys).toArray fs).run P w = .ok b w
 | [], b, h => by injection h with h; subst h; rfl
 | f :: fs, b, h => by
   rw [eqFields] at h
   cases hn : f.name == "_" with
   | true => rw [hn] at h; cases h
   | false =>
     rw [hn] at h
     simp only [Bool.not_false, cond_true] at h
     have hne : f.name ≠ "_" := by simpa using hn
     split at h
     ·rename_i x y hx hy
      have step : ∀ b', eqPlain T f.type x y = some b' → (Op.eqFields (d + 1) (concs ρ xs).toArray (concs ρ ys).toArray (f :: fs)).run P w =
       (if (!b') = true then (pure false : Sem Bool) else Op.eqFields (d + 1) (concs ρ xs).toArray (concs ρ ys).toArray fs).run P w := by
       intro b' hb
       rw [Op.eqFields, if_pos hne]
       rw [Sem.run_bind, part_plain H hb hx, Result.andThen_ok, Sem.run_bind, part_plain H hb hy, Result.andThen_ok, Sem.run_bind, (eqPlain_sound H hb d).2, Result.andThen_ok]
      split at h
      ·rename_i hb
       rw [step _ hb]
       exact eqFields_sound d h
      ·rename_i r hne
       cases b with
       | true => exact (hne h).elim
       | false => rw [step _ h]; rfl
     ·cases h

theorem eqElems_sound {e : Nat} {xs ys : List AV} (d : Nat) : ∀ {n i : Nat} {b : Bool}, eqElems T e xs ys n i = some b → (Op.eqItems (d + 1) e 1 (concs ρ xs).toArray (concs ρ ys).toArray (List.range' i n)).run P w = .ok b w
 | 0, i, b, h => by injection h with h; subst h; rfl
 | n + 1, i, b, h => by
   rw [eqElems] at h
   split at h
   ·rename_i x y hx hy
    have step : ∀ b', eqPlain T e x y = some b' → (Op.eqItems (d + 1) e 1 (concs ρ xs).toArray (concs ρ ys).toArray (List.range' i (n + 1))).run P w =
     (if (!b') = true then (pure false : Sem Bool) else Op.eqItems (d + 1) e 1 (concs ρ xs).toArray (concs ρ ys).toArray (List.range' (i + 1) n)).run P w := by
     intro b' hb
     rw [List.range'_succ, Op.eqItems, Nat.mul_one]
     rw [Sem.run_bind, part_plain H hb hx, Result.andThen_ok, Sem.run_bind, part_plain H hb hy, Result.andThen_ok, Sem.run_bind, (eqPlain_sound H hb d).2, Result.andThen_ok]
    split at h
    ·rename_i hb
     rw [step _ hb]
     exact eqElems_sound d h
    ·rename_i r hne
     cases b with
     | true => exact (hne h).elim
     | false => rw [step _ h]; rfl
   ·cases h

theorem eqAgg_sound {t : Nat} {xs ys : List AV} {b : Bool} (h : eqAgg T t xs ys = some b) : P.eqGuardType P.depth t = false ∧ (Op.equalIn 10000 t (.agg (concs ρ xs).toArray) (.agg (concs ρ ys).toArray)).run P w = .ok b w := by
 unfold eqAgg at h
 cases he : T.eqs.any (Nat.beq t) with
 | false => rw [he] at h; cases h
 | true =>
   rw [he] at h
   obtain ⟨u, hu, hb⟩ := List.any_eq_true.1 he
   have := Nat.eq_of_beq_eq_true hb
   subst this
   obtain ⟨h1, h2⟩ := H.eqs t hu
   refine ⟨h2, ?_⟩
   simp only [cond_true] at h
   split at h
   ·rename_i fs hu
    have hf : P.fieldsOf t = fs := by unfold Program.fieldsOf; rw [H.un hu]
    rw [run_equalIn_agg w 9999 t _ _ (by rw [hf]; exact H.un hu) h1, hf]
    exact eqFields_sound H 9998 h
   ·rename_i n e hu
    split at h
    ·rename_i hs
     unfold sizeA at hs
     simp only [Option.map_eq_some_iff] at hs
     obtain ⟨i, hi, hsz⟩ := hs
     have hc : P.cellsOf e = 1 := by unfold Program.cellsOf; rw [H.ty e i hi]; exact hsz
     rw [run_equalIn_array w 9999 _ _ (H.un hu) (H.ty e i hi), hc, List.range_eq_range']
     exact eqElems_sound H 9998 h
    ·cases h
   ·cases h

theorem nil_sound {t : Nat} {e : TypeId} (hu : P.underlying t = some (.slice e)) {a b : AV} {c : Bool} (h : eqNil a b = some c) {op : BinOp} {v : AV} (hv : eqOp op c = some v) :
 (binOp op t (a.conc ρ) (b.conc ρ)).run P w = .ok (v.conc ρ) w := by
 have key : (Op.equal t (a.conc ρ) (b.conc ρ)).run P w = .ok c w := by
  show (Op.equalIn (9999 + 1) t (a.conc ρ) (b.conc ρ)).run P w = .ok c w
  generalize 9999 = d
  cases a <;> cases b <;> cases h <;>
   (rw [Op.equalIn, Sem.run_bind, run_underlying hu]; rfl)
 rcases eqOp_flat hv with ⟨rfl, rfl⟩ | ⟨rfl, rfl⟩ <;> cases a <;> cases b <;> cases h <;>
  simp only [AV.conc] at key ⊢ <;> simp only [binOp, Sem.run_bind, key, Result.andThen_ok] <;> rfl

theorem cmpA_sound {t : Nat} {op : BinOp} {a b v : AV} (h : cmpA T t op a b = some v) (x y : Operand) :
 (do eqGuard op t x y (a.conc ρ) (b.conc ρ); binOp op t (a.conc ρ) (b.conc ρ) : Sem Value).run P w = .ok (v.conc ρ) w ∧ v.flat := by
 unfold cmpA at h
 split at h
 ·obtain ⟨h1, h2⟩ := intA_sound (P := P) ρ w h t
  refine ⟨?_, h2⟩
  rw [Sem.run_bind, eqGuard_conc ρ w op t x y (by intro _ _ e; cases e), Result.andThen_ok]
  exact h1
 ·rename_i a b
  split at h
  ·rename_i hu
   refine ⟨?_, by rcases eqOp_flat h with ⟨_, rfl⟩ | ⟨_, rfl⟩ <;> trivial⟩
   rw [Sem.run_bind, eqGuard_conc ρ w op t x y (by intro _ _ e; cases e), Result.andThen_ok]
   have key : (Op.equal t (.bool a) (.bool b)).run P w = .ok (a == b) w := run_equalIn_bool w 9999 t a b (H.un hu)
   rcases eqOp_flat h with ⟨rfl, rfl⟩ | ⟨rfl, rfl⟩ <;> simp only [AV.conc, binOp, Sem.run_bind, key, Result.andThen_ok] <;> rfl
  ·cases h
 ·obtain ⟨h1, h2⟩ := strA_sound (P := P) ρ w h t
  refine ⟨?_, h2⟩
  rw [Sem.run_bind, eqGuard_conc ρ w op t x y (by intro _ _ e; cases e), Result.andThen_ok]
  exact h1
 ·simp only [Option.bind_eq_some_iff] at h
  obtain ⟨c, hc, h⟩ := h
  obtain ⟨h1, h2⟩ := eqAgg_sound H (ρ := ρ) (w := w) hc
  refine ⟨?_, by rcases eqOp_flat h with ⟨_, rfl⟩ | ⟨_, rfl⟩ <;> trivial⟩
  simp only [AV.conc]
  rw [Sem.run_bind, run_eqGuard_agg w op t x y _ _ h1, Result.andThen_ok]
  rcases eqOp_flat h with ⟨rfl, rfl⟩ | ⟨rfl, rfl⟩
  ·rw [run_eql_struct, h2]; rfl
  ·rw [run_neq_struct, h2]; rfl
 ·rename_i h1 h2 h3 h4
  split at h
  ·rename_i e hu
   simp only [Option.bind_eq_some_iff] at h
   obtain ⟨c, hc, h⟩ := h
   refine ⟨?_, by rcases eqOp_flat h with ⟨_, rfl⟩ | ⟨_, rfl⟩ <;> trivial⟩
   rw [Sem.run_bind, eqGuard_conc ρ w op t x y (fun xs ys e1 e2 => h4 xs ys e1 e2), Result.andThen_ok]
   exact nil_sound H (H.un hu) hc h
  ·cases h

end

section
variable {T : Tabs} {P : Program} (H : TabsOk T P) {ρ : Rho} {N : Nat} {r : Regs} {m : Mem} {a : Act} {w : World} (hr : RegOk ρ N r a) (hm : MemOk ρ m w) {o : Oper} {e : Eff}
include hr hm

include H in
theorem binOp_sound {op : BinOp} {t : Nat} {x y : Operand} {u : Nat} (ho : o.op = .binOp op t x y u) (h : opA T r m (.binOp op t x y u) = some e) : Does ρ r m w ((execOp a.eval o).run P w) e := by
 simp only [opA, opBinOp] at h
 split at h
 ·rename_i b c hb hc
  simp only [Option.map_eq_some_iff] at h
  obtain ⟨v, hv, rfl⟩ := h
  obtain ⟨h1, h2⟩ := cmpA_sound H (ρ := ρ) (w := w) hv x y
  refine Does.pure hm ?_ fun S _ _ => h2.sup S
  simp only [execOp, ho, hr.ev hb, hr.ev hc]
  rw [Sem.run_bind, h1]
  rfl
 ·cases h

theorem unOp_sound {op : UnOp} {t : Nat} {x : Operand} (ho : o.op = .unOp op t x) (h : opA T r m (.unOp op t x) = some e) : Does ρ r m w ((execOp a.eval o).run P w) e := by
 simp only [opA, opUnOp, Option.bind_eq_some_iff, Option.map_eq_some_iff] at h
 obtain ⟨b, hb, v, hv, rfl⟩ := h
 have key : (Op.unary op (b.conc ρ)).run P w = .ok (v.conc ρ) w ∧ v.flat := by
  unfold unA at hv
  split at hv <;> cases hv
  ·exact ⟨rfl, trivial⟩
  ·rw [wrapA_eq]; exact ⟨rfl, trivial⟩
  ·exact ⟨rfl, trivial⟩
 refine Does.pure hm ?_ fun S _ _ => key.2.sup S
 simp only [execOp, ho, hr.ev hb]
 rw [Sem.run_bind, key.1]
 rfl

include H in
theorem convert_sound {s d : Nat} {x : Operand} (ho : o.op = .convert s d x) (h : opA T r m (.convert s d x) = some e) : Does ρ r m w ((execOp a.eval o).run P w) e := by
 simp only [opA, opConvert] at h
 split at h
 ·rename_i k j n hu hx
  cases hs : T.un s with
  | none => rw [hs] at h; cases h
  | some us =>
    rw [hs] at h
    injection h with h
    subst h
    refine Does.pure hm ?_ fun S _ _ => trivial
    simp only [execOp, ho, hr.ev hx, AV.conc, wrapA_eq]
    rw [Sem.run_bind]
    unfold Go.convert
    rw [Sem.run_bind, run_underlying (H.un hs), Result.andThen_ok, Sem.run_bind, run_underlying (H.un hu)]
    rfl
 ·cases h

theorem nilCheck_sound {x : Operand} (ho : o.op = .nilCheck x) (h : opA T r m (.nilCheck x) = some e) : Does ρ r m w ((execOp a.eval o).run P w) e := by
 simp only [opA, opNilCheck] at h
 split at h
 ·rename_i b off hx
  injection h with h
  subst h
  refine Does.pure hm ?_ fun S h1 _ => evA_sup h1 hx
  simp only [execOp, ho, hr.ev hx, AV.conc]
  rfl
 ·rename_i f fs cs hx
  injection h with h
  subst h
  refine Does.pure hm ?_ fun S h1 _ => evA_sup h1 hx
  simp only [execOp, ho, hr.ev hx, AV.conc]
  rfl
 ·cases h

theorem extract_sound {x : Operand} {i : Nat} (ho : o.op = .extract x i) (h : opA T r m (.extract x i) = some e) : Does ρ r m w ((execOp a.eval o).run P w) e := by
 simp only [opA, opExtract] at h
 split at h
 ·rename_i vs hx
  simp only [Option.map_eq_some_iff] at h
  obtain ⟨v, hv, rfl⟩ := h
  refine Does.pure hm ?_ fun S h1 _ => sups_mem (evA_sup h1 hx) v (List.mem_of_getElem? hv)
  have e : (concs ρ vs).toArray[i]? = some (v.conc ρ) := by rw [List.getElem?_toArray, concs_at, hv]; rfl
  simp only [execOp, ho, hr.ev hx, AV.conc, Instr.extract, e]
  rfl
 ·cases h

theorem evL_sup {S : Nat → Prop} (hS : RSup S r) : ∀ {l : List Operand} {vs : List AV}, evL r l = some vs → sups S vs
 | [], vs, e => by injection e with e; subst e; trivial
 | x :: l, vs, e => by
   unfold evL at e
   split at e
   ·rename_i v hv
    split at e
    ·rename_i us hu
     injection e with e
     subst e
     exact ⟨evA_sup hS hv, evL_sup hS hu⟩
    ·cases e
   ·cases e

theorem evs_arr {l : Array Operand} {vs : List AV} (h : evL r l.toList = some vs) : l.map a.eval = (concs ρ vs).toArray := by
 apply Array.ext'
 rw [Array.toList_map]
 exact hr.evs h

theorem makeFunc_sound {f : FuncId} {fs cs : Array Operand} (ho : o.op = .makeFunc (.func f) fs cs) (h : opA T r m (.makeFunc (.func f) fs cs) = some e) : Does ρ r m w ((execOp a.eval o).run P w) e := by
 change (match evL r fs.toList, evL r cs.toList with | some fs, some cs => some (.val (.fn f fs cs) m) | _, _ => none) = some e at h
 split at h
 ·rename_i us vs hu hv
  injection h with h
  subst h
  refine Does.pure hm ?_ fun S h1 _ => ⟨evL_sup hr hm h1 hu, evL_sup hr hm h1 hv⟩
  simp only [execOp, ho, evs_arr hr hm hu, evs_arr hr hm hv, AV.conc]
  rfl
 ·cases h

end
end Go.Proofs.YtbdcjhoedhhabaaGreat

