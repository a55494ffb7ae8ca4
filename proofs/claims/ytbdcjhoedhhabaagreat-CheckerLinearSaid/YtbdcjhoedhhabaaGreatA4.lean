/- Contracts of the functions that the statements reach, part 4. -/
import Derived.Laws.Cells
import Derived.Laws.CopyRow
import Derived.Test.YtbdcjhoedhhabaaGreatA2
import Derived.Test.YtbdcjhoedhhabaaGreatA3
set_option linter.unusedSimpArgs false
set_option linter.unusedVariables false

/- What an abstract value and an abstract memory stand for. -/
namespace Go.Proofs.YtbdcjhoedhhabaaGreat
open Go.RowKit

/-- Where a block lies: its number, the first of its cells, and by how many elements its capacity passes what is known. -/
structure Pl where
 addr : Nat
 shift : Nat
 extra : Nat

abbrev Rho := Nat → Pl

mutual
def AV.conc (ρ : Rho) : AV → Value
 | .bool b => .bool b
 | .int k n => .int k n
 | .str s => .string s
 | .nilPtr => .pointer none
 | .ptr b off => .pointer (some ⟨(ρ b).addr, off + (ρ b).shift, none⟩)
 | .nilSl => .slice none 0 0
 | .sl b off len cap op => .slice (some ⟨(ρ b).addr, off + (ρ b).shift, none⟩) len (cap + bif op then (ρ b).extra else 0)
 | .nilMap => .map none
 | .mp b => .map (some (ρ b).addr)
 | .nilFn => .nilFunc
 | .fn f fs cs => .func (.func f) (concs ρ fs).toArray (concs ρ cs).toArray
 | .agg cs => .agg (concs ρ cs).toArray
 | .tup cs => .tuple (concs ρ cs).toArray
def concs (ρ : Rho) : List AV → List Value
 | [] => []
 | c :: cs => c.conc ρ :: concs ρ cs
end

theorem concs_eq (ρ : Rho) : ∀ cs, concs ρ cs = cs.map (AV.conc ρ)
 | [] => rfl
 | c :: cs => by rw [concs, concs_eq ρ cs]; rfl

theorem conc_undef (ρ : Rho) : AV.undef.conc ρ = undef := by simp [AV.undef, AV.conc, concs, undef]

theorem conc_cells (ρ : Rho) (v : AV) : (v.conc ρ).cells.toList = concs ρ v.cells := by
 cases v <;> simp [AV.conc, Value.cells, AV.cells, concs]

theorem mapM_conc (ρ : Rho) {d : Nat} (ih : ∀ v x, avOf d v = some x → x.conc ρ = v) : ∀ (l : List Value) (xs : List AV), l.mapM (avOf d) = some xs → concs ρ xs = l
 | [], xs, h => by simp at h; subst h; rfl
 | v :: l, xs, h => by
   simp only [List.mapM_cons, Option.bind_eq_bind, Option.bind_eq_some_iff] at h
   obtain ⟨x, hx, ys, hy, e⟩ := h
   injection e with e
   subst e
   rw [concs, ih v x hx, mapM_conc ρ ih l ys hy]

theorem av0_conc (ρ : Rho) (v : Value) (x : AV) (h : av0 v = some x) : x.conc ρ = v := by
 unfold av0 at h
 split at h <;> first | (injection h with h; subst h; rfl) | cases h

theorem avOf_conc (ρ : Rho) : ∀ (d : Nat) (v : Value) (x : AV), avOf d v = some x → x.conc ρ = v
 | 0, v, x, h => av0_conc ρ v x h
 | d + 1, v, x, h => by
   have ih := mapM_conc ρ (avOf_conc ρ d)
   unfold avOf at h
   split at h
   ·simp only [Option.bind_eq_some_iff, Option.map_eq_some_iff] at h
    obtain ⟨fs, h1, cs, h2, e⟩ := h
    subst e
    rw [AV.conc, ih _ _ h1, ih _ _ h2]
   ·simp only [Option.map_eq_some_iff] at h
    obtain ⟨cs, h2, e⟩ := h
    subst e
    rw [AV.conc, ih _ _ h2]
   ·simp only [Option.map_eq_some_iff] at h
    obtain ⟨cs, h2, e⟩ := h
    subst e
    rw [AV.conc, ih _ _ h2]
   ·exact av0_conc ρ v x h

mutual
/-- All blocks that a value names are of S. -/
def AV.sup (S : Nat → Prop) : AV → Prop
 | .ptr b _ => S b
 | .sl b _ _ _ _ => S b
 | .mp b => S b
 | .fn _ fs cs => sups S fs ∧ sups S cs
 | .agg cs => sups S cs
 | .tup cs => sups S cs
 | .bool _ | .int _ _ | .str _ | .nilPtr | .nilSl | .nilMap | .nilFn => True
def sups (S : Nat → Prop) : List AV → Prop
 | [] => True
 | c :: cs => c.sup S ∧ sups S cs
end

mutual
theorem conc_congr {ρ σ : Rho} {S : Nat → Prop} (h : ∀ b, S b → ρ b = σ b) : ∀ v : AV, v.sup S → v.conc ρ = v.conc σ
 | .ptr b off, hs => by rw [AV.sup] at hs; rw [AV.conc, AV.conc, h b hs]
 | .sl b off n c o, hs => by rw [AV.sup] at hs; rw [AV.conc, AV.conc, h b hs]
 | .mp b, hs => by rw [AV.sup] at hs; rw [AV.conc, AV.conc, h b hs]
 | .fn f fs cs, hs => by rw [AV.sup] at hs; rw [AV.conc, AV.conc, concs_congr h fs hs.1, concs_congr h cs hs.2]
 | .agg cs, hs => by rw [AV.sup] at hs; rw [AV.conc, AV.conc, concs_congr h cs hs]
 | .tup cs, hs => by rw [AV.sup] at hs; rw [AV.conc, AV.conc, concs_congr h cs hs]
 | .bool _, _ => rfl
 | .int _ _, _ => rfl
 | .str _, _ => rfl
 | .nilPtr, _ => rfl
 | .nilSl, _ => rfl
 | .nilMap, _ => rfl
 | .nilFn, _ => rfl
theorem concs_congr {ρ σ : Rho} {S : Nat → Prop} (h : ∀ b, S b → ρ b = σ b) : ∀ vs : List AV, sups S vs → concs ρ vs = concs σ vs
 | [], _ => rfl
 | v :: vs, hs => by rw [sups] at hs; rw [concs, concs, conc_congr h v hs.1, concs_congr h vs hs.2]
end

mutual
theorem sup_mono {S S' : Nat → Prop} (h : ∀ b, S b → S' b) : ∀ v : AV, v.sup S → v.sup S'
 | .ptr b off, hs => by rw [AV.sup] at hs ⊢; exact h b hs
 | .sl b off n c o, hs => by rw [AV.sup] at hs ⊢; exact h b hs
 | .mp b, hs => by rw [AV.sup] at hs ⊢; exact h b hs
 | .fn f fs cs, hs => by rw [AV.sup] at hs ⊢; exact ⟨sups_mono h fs hs.1, sups_mono h cs hs.2⟩
 | .agg cs, hs => by rw [AV.sup] at hs ⊢; exact sups_mono h cs hs
 | .tup cs, hs => by rw [AV.sup] at hs ⊢; exact sups_mono h cs hs
 | .bool _, _ => trivial
 | .int _ _, _ => trivial
 | .str _, _ => trivial
 | .nilPtr, _ => trivial
 | .nilSl, _ => trivial
 | .nilMap, _ => trivial
 | .nilFn, _ => trivial
theorem sups_mono {S S' : Nat → Prop} (h : ∀ b, S b → S' b) : ∀ vs : List AV, sups S vs → sups S' vs
 | [], _ => trivial
 | v :: vs, hs => by rw [sups] at hs ⊢; exact ⟨sup_mono h v hs.1, sups_mono h vs hs.2⟩
end

def entryOf (ρ : Rho) (e : AV × AV × Nat) : MapEntry := { key := e.1.conc ρ, val := e.2.1.conc ρ, born := e.2.2 }

/-- What a block of the memory says of the world. -/
def BlkOk (ρ : Rho) (w : World) (b : Nat) : Blk → Prop
 | .cells cs el => ∃ pre post e, w.heap[(ρ b).addr]? = some (.cells (pre ++ concs ρ cs ++ post).toArray e (0, 0)) ∧ pre.length = (ρ b).shift ∧ (ρ b).extra * el ≤ post.length
 | .map es c => w.heap[(ρ b).addr]? = some (.map (es.map (entryOf ρ)).toArray c)

/-- All blocks that a block's cells name are of S. -/
def Blk.sup (S : Nat → Prop) : Blk → Prop
 | .cells cs _ => sups S cs
 | .map es _ => ∀ e ∈ es, e.1.sup S ∧ e.2.1.sup S

def MSup (S : Nat → Prop) (m : Mem) : Prop := ∀ b k, m.blks.get b = some k → k.sup S

structure MemOk (ρ : Rho) (m : Mem) (w : World) : Prop where
 lt : ∀ b k, m.blks.get b = some k → b < m.next
 ok : ∀ b k, m.blks.get b = some k → BlkOk ρ w b k
 sup : MSup (fun b => b < m.next) m
 one : ∀ b k c l, m.blks.get b = some k → m.blks.get c = some l → b ≠ c → (ρ b).addr ≠ (ρ c).addr

structure RegOk (ρ : Rho) (N : Nat) (r : Regs) (a : Act) : Prop where
 size : a.tmps.size = N
 none : a.defers = []
 at_ : ∀ t, a.tmps.getD t undef = (r.at t).conc ρ

theorem RegOk.ev {ρ : Rho} {N : Nat} {r : Regs} {a : Act} (h : RegOk ρ N r a) {x : Operand} {v : AV} (e : evA r x = some v) : a.eval x = v.conc ρ := by
 cases x with
 | tmp t => injection e with e; subst e; exact h.at_ t
 | const c => exact (avOf_conc ρ 3 c v e).symm
 | global g => cases e
 | func f => injection e with e; subst e; rfl

theorem RegOk.evs {ρ : Rho} {N : Nat} {r : Regs} {a : Act} (h : RegOk ρ N r a) : ∀ {l : List Operand} {vs : List AV}, evL r l = some vs → l.map a.eval = concs ρ vs
 | [], vs, e => by injection e with e; subst e; rfl
 | x :: l, vs, e => by
   unfold evL at e
   split at e
   ·rename_i v hv
    split at e
    ·rename_i us hu
     injection e with e
     subst e
     rw [List.map_cons, h.ev hv, h.evs hu, concs]
    ·cases e
   ·cases e

theorem RegOk.put {ρ : Rho} {N : Nat} {r r' : Regs} {a : Act} (h : RegOk ρ N r a) {dst : Option Nat} {v : AV} (e : putR N r dst v = some r') : RegOk ρ N r' (a.put dst (v.conc ρ)) := by
 cases dst with
 | none => injection e with e; subst e; exact h
 | some t =>
   unfold putR at e
   simp only at e
   cases hb : Nat.blt t N with
   | false => rw [hb] at e; cases e
   | true =>
     rw [hb] at e
     injection e with e
     subst e
     have ht : t < a.tmps.size := by rw [h.size]; exact Nat.le_of_ble_eq_true hb
     refine ⟨by simp [Act.put, h.size], h.none, fun i => ?_⟩
     unfold Regs.at
     rw [Tr.get_put]
     by_cases hi : i = t
     ·subst hi; simp [Act.put, ht]
     ·rw [if_neg hi]
      have := h.at_ i
      unfold Regs.at at this
      rw [← this]
      simp only [Act.put, Array.getD_eq_getD_getElem?, Array.getElem?_setIfInBounds]
      rw [if_neg (fun e => hi e.symm)]

/-- The addresses of the live blocks. -/
def Lv (ρ : Rho) (m : Mem) (x : Nat) : Prop := ∃ b k, m.blks.get b = some k ∧ (ρ b).addr = x

/-- The ids of S, and those that are new. -/
def Wid (S : Nat → Prop) (m m' : Mem) (b : Nat) : Prop := S b ∨ (m.next ≤ b ∧ b < m'.next)

/-- How a piece of a run leaves the memory. -/
structure Post (ρ ρ' : Rho) (m m' : Mem) (w w' : World) : Prop where
 mem : MemOk ρ' m' w'
 same : ∀ b, b < m.next ∨ m'.next ≤ b → ρ' b = ρ b
 next : m.next ≤ m'.next
 keep : Keep (Lv ρ m) w w'
 live : ∀ b k, m'.blks.get b = some k → w.heap.size ≤ (ρ' b).addr ∨ Lv ρ m (ρ' b).addr
 wr : ∀ b, b ∈ m.wr → b ∈ m'.wr
 old : ∀ b, b < m.next → b ∉ m'.wr → m'.blks.get b = m.blks.get b
 was : ∀ b k, m'.blks.get b = some k → b < m.next → ∃ l, m.blks.get b = some l

theorem BlkOk.lt {ρ : Rho} {w : World} {b : Nat} {k : Blk} (h : BlkOk ρ w b k) : (ρ b).addr < w.heap.size := by
 cases k with
 | cells cs el => obtain ⟨pre, post, e, hw, _⟩ := h; exact (Array.getElem?_eq_some_iff.1 hw).1
 | map es c => exact (Array.getElem?_eq_some_iff.1 h).1

theorem Blk.sup_mono {S S' : Nat → Prop} (h : ∀ b, S b → S' b) {k : Blk} (hk : k.sup S) : k.sup S' := by
 cases k with
 | cells cs el => exact sups_mono h cs hk
 | map es c => exact fun e he => ⟨_root_.Go.Proofs.YtbdcjhoedhhabaaGreat.sup_mono h _ (hk e he).1, _root_.Go.Proofs.YtbdcjhoedhhabaaGreat.sup_mono h _ (hk e he).2⟩

theorem MSup.mono {S S' : Nat → Prop} (h : ∀ b, S b → S' b) {m : Mem} (hm : MSup S m) : MSup S' m := fun b k e => Blk.sup_mono h (hm b k e)

theorem Post.refl {ρ : Rho} {m : Mem} {w : World} (h : MemOk ρ m w) : Post ρ ρ m m w w :=
 ⟨h, fun _ _ => rfl, Nat.le_refl _, Keep.refl _ _, fun b k e => .inr ⟨b, k, e, rfl⟩, fun _ h => h, fun _ _ _ => rfl, fun _ k e _ => ⟨k, e⟩⟩

theorem Post.trans {ρ ρ1 ρ2 : Rho} {m m1 m2 : Mem} {w w1 w2 : World} (h : Post ρ ρ1 m m1 w w1) (k : Post ρ1 ρ2 m1 m2 w1 w2) : Post ρ ρ2 m m2 w w2 where
 mem := k.mem
 same b hb := (k.same b (by have := h.next; have := k.next; omega)).trans (h.same b (by have := h.next; have := k.next; omega))
 next := Nat.le_trans h.next k.next
 keep := ⟨Nat.le_trans h.keep.size k.keep.size, fun x hx hn => (k.keep.block x (Nat.lt_of_lt_of_le hx h.keep.size) (fun ⟨b, l, hb, e⟩ => by
  subst e
  rcases h.live b l hb with h1 | h1
  ·omega
  ·exact hn h1)).trans (h.keep.block x hx hn), k.keep.env.1.trans h.keep.env.1, k.keep.env.2.1.trans h.keep.env.2.1, k.keep.env.2.2.trans h.keep.env.2.2⟩
 live b l hb := by
  rcases k.live b l hb with h1 | ⟨c, l', hc, e⟩
  ·exact .inl (Nat.le_trans h.keep.size h1)
  ·rw [← e]; exact h.live c l' hc
 wr b hb := k.wr b (h.wr b hb)
 old b hb hn := (k.old b (Nat.lt_of_lt_of_le hb h.next) hn).trans (h.old b hb (fun h1 => hn (k.wr b h1)))
 was b l e hb := by
  obtain ⟨l1, e1⟩ := k.was b l e (Nat.lt_of_lt_of_le hb h.next)
  exact h.was b l1 e1 hb

theorem Wid.trans {S : Nat → Prop} {m m1 m2 : Mem} (h : m.next ≤ m1.next) (k : m1.next ≤ m2.next) : ∀ b, Wid (Wid S m m1) m1 m2 b → Wid S m m2 b := by
 intro b hb
 rcases hb with (hb | hb) | hb
 ·exact .inl hb
 ·exact .inr ⟨hb.1, by omega⟩
 ·exact .inr ⟨by omega, hb.2⟩

/- The executor's memory: reading and writing cells. -/

theorem putCells_spec : ∀ (cs : List AV) (off : Nat) (vs cs' : List AV), putCells cs off vs = some cs' →
 cs' = cs.take off ++ vs ++ cs.drop (off + vs.length) ∧ off + vs.length ≤ cs.length ∧ ∀ v ∈ vs, v.one = true
 | cs, 0, [], cs', h => by
   have : cs = cs' := by cases cs <;> (injection h)
   subst this
   simp
 | c :: cs, 0, v :: vs, cs', h => by
   rw [putCells] at h
   cases ho : v.one with
   | false => rw [ho] at h; cases h
   | true =>
     rw [ho] at h
     simp only [cond_true, Option.map_eq_some_iff] at h
     obtain ⟨r, hr, e⟩ := h
     obtain ⟨h1, h2, h3⟩ := putCells_spec cs 0 vs r hr
     subst e
     refine ⟨?_, by simp only [List.length_cons]; omega, fun x hx => ?_⟩
     ·rw [h1]; simp
     ·rcases List.mem_cons.1 hx with rfl | hx
      ·exact ho
      ·exact h3 x hx
 | c :: cs, n + 1, vs, cs', h => by
   rw [putCells] at h
   simp only [Option.map_eq_some_iff] at h
   obtain ⟨r, hr, e⟩ := h
   obtain ⟨h1, h2, h3⟩ := putCells_spec cs n vs r hr
   subst e
   refine ⟨?_, by simp only [List.length_cons]; omega, h3⟩
   rw [h1, show n + 1 + vs.length = (n + vs.length) + 1 by omega]
   simp
 | [], n + 1, vs, cs', h => by cases vs <;> cases h
 | [], 0, v :: vs, cs', h => by cases h

theorem concs_append (ρ : Rho) : ∀ (x y : List AV), concs ρ (x ++ y) = concs ρ x ++ concs ρ y := by simp [concs_eq]

theorem concs_take (ρ : Rho) (x : List AV) (n : Nat) : concs ρ (x.take n) = (concs ρ x).take n := by simp [concs_eq]

theorem concs_drop (ρ : Rho) (x : List AV) (n : Nat) : concs ρ (x.drop n) = (concs ρ x).drop n := by simp [concs_eq]

theorem concs_len (ρ : Rho) (x : List AV) : (concs ρ x).length = x.length := by simp [concs_eq]

theorem add_at (b o n : Nat) : (⟨b, o, none⟩ : Addr).add n = ⟨b, o + n, none⟩ := by
 unfold Addr.add
 split
 ·subst_vars; rfl
 ·rfl

theorem one_conc (ρ : Rho) (v : AV) (h : v.one = true) : (v.conc ρ).oneCell' = true := by
 cases v <;> first | rfl | cases h

theorem cellsAt_spec {m : Mem} {b off n : Nat} {l : List AV} (h : cellsAt m b off n = some l) : ∃ cs el, m.blks.get b = some (.cells cs el) ∧ l = (cs.drop off).take n ∧ l.length = n := by
 unfold cellsAt at h
 split at h
 ·rename_i cs el hc
  simp only at h
  cases hb : Nat.beq ((cs.drop off).take n).length n with
  | false => rw [hb] at h; cases h
  | true =>
    rw [hb] at h
    injection h with h
    exact ⟨cs, el, hc, h.symm, by rw [← h]; exact Nat.eq_of_beq_eq_true hb⟩
 ·cases h

theorem cells_read {ρ : Rho} {m : Mem} {w : World} (hm : MemOk ρ m w) {b off n : Nat} {l : List AV} (h : cellsAt m b off n = some l) :
 l.length = n ∧ ∀ j v, (concs ρ l)[j]? = some v → w.cell? ((⟨(ρ b).addr, off + (ρ b).shift, none⟩ : Addr).add j) = some v := by
 obtain ⟨cs, el, hc, hl, hn⟩ := cellsAt_spec h
 obtain ⟨pre, post, e, hw, hp, _⟩ := hm.ok b _ hc
 refine ⟨hn, fun j v hj => ?_⟩
 have hlt : j < n := by rw [← hn, ← concs_len ρ]; exact (List.getElem?_eq_some_iff.1 hj).1
 rw [add_at]
 rw [hl, concs_take, concs_drop, List.getElem?_take, if_pos hlt, List.getElem?_drop] at hj
 have hlt2 := (List.getElem?_eq_some_iff.1 hj).1
 simp only [World.cell?, hw, Option.isSome_none, Bool.false_eq_true, if_false, List.getElem?_toArray]
 rw [List.append_assoc, List.getElem?_append_right (by omega), List.getElem?_append_left (by omega), ← hj]
 congr 1
 omega

theorem loadCells_sound {P : Program} {ρ : Rho} {m : Mem} {w : World} (hm : MemOk ρ m w) {b off n : Nat} {l : List AV} (h : cellsAt m b off n = some l) :
 (loadCells ⟨(ρ b).addr, off + (ρ b).shift, none⟩ n).run P w = .ok (concs ρ l).toArray w := by
 obtain ⟨hn, hr⟩ := cells_read hm h
 have := run_loadCells_list (P := P) w ⟨(ρ b).addr, off + (ρ b).shift, none⟩ (concs ρ l) hr
 rwa [concs_len, hn] at this

/-- The place of one block more. -/
def Rho.put (ρ : Rho) (n : Nat) (p : Pl) : Rho := fun b => if b = n then p else ρ b

theorem Rho.put_at (ρ : Rho) (n : Nat) (p : Pl) : ρ.put n p n = p := if_pos rfl

theorem Rho.put_ne (ρ : Rho) {n b : Nat} (p : Pl) (h : b ≠ n) : ρ.put n p b = ρ b := if_neg h

theorem BlkOk.congr {ρ σ : Rho} {w w' : World} {b : Nat} {k : Blk} {S : Nat → Prop} (h : BlkOk ρ w b k) (e : ρ b = σ b) (hS : ∀ c, S c → ρ c = σ c) (hk : k.sup S)
 (hw : w'.heap[(ρ b).addr]? = w.heap[(ρ b).addr]?) : BlkOk σ w' b k := by
 cases k with
 | cells cs el =>
   obtain ⟨pre, post, t, h1, h2, h3⟩ := h
   exact ⟨pre, post, t, by rw [← e, hw, h1, concs_congr hS cs hk], by rw [← e]; exact h2, by rw [← e]; exact h3⟩
 | map es c =>
   unfold BlkOk at h ⊢
   rw [← e, hw, h]
   congr 3
   apply List.map_congr_left
   intro x hx
   obtain ⟨h1, h2⟩ := hk x hx
   simp only [entryOf, conc_congr hS _ h1, conc_congr hS _ h2]

theorem put_lt {ρ : Rho} {n : Nat} {p : Pl} : ∀ c, c < n → ρ c = ρ.put n p c := fun c hc => (Rho.put_ne ρ p (by omega)).symm

/-- A block of the memory at a new place of the world. -/
theorem post_fresh {ρ : Rho} {m : Mem} {w w' : World} (h : MemOk ρ m w) (k : Blk) (hs : k.sup (fun b => b < m.next)) (p : Pl) (hb : Below w.heap.size w w')
 (hp : w.heap.size ≤ p.addr) (hk : BlkOk (ρ.put m.next p) w' m.next k) : Post ρ (ρ.put m.next p) m (m.new k) w w' where
 mem := by
  have hg : ∀ b l, (m.new k).blks.get b = some l → (b = m.next ∧ l = k) ∨ (b ≠ m.next ∧ m.blks.get b = some l) := by
   intro b l e
   simp only [Mem.new, Tr.get_put] at e
   split at e
   ·rename_i hb; injection e with e; exact .inl ⟨hb, e.symm⟩
   ·rename_i hb; exact .inr ⟨hb, e⟩
  refine ⟨fun b l e => ?_, fun b l e => ?_, fun b l e => ?_, fun b l c l' e e' hne => ?_⟩
  ·show b < m.next + 1
   rcases hg b l e with ⟨h1, _⟩ | ⟨_, h1⟩
   ·omega
   ·have := h.lt b l h1; omega
  ·rcases hg b l e with ⟨h1, h2⟩ | ⟨h0, h1⟩
   ·subst h1; subst h2; exact hk
   ·exact (h.ok b l h1).congr (Rho.put_ne ρ p h0).symm put_lt (h.sup b l h1) (hb.block _ (h.ok b l h1).lt)
  ·rcases hg b l e with ⟨h1, h2⟩ | ⟨h0, h1⟩
   ·subst h2; exact Blk.sup_mono (fun b hb => by show b < m.next + 1; omega) hs
   ·exact Blk.sup_mono (fun b hb => by show b < m.next + 1; omega) (h.sup b l h1)
  ·rcases hg b l e with ⟨h1, _⟩ | ⟨h0, h1⟩ <;> rcases hg c l' e' with ⟨h1', _⟩ | ⟨h0', h1'⟩
   ·omega
   ·subst h1; rw [Rho.put_at, Rho.put_ne ρ p h0']; have := (h.ok c l' h1').lt; omega
   ·subst h1'; rw [Rho.put_at, Rho.put_ne ρ p h0]; have := (h.ok b l h1).lt; omega
   ·rw [Rho.put_ne ρ p h0, Rho.put_ne ρ p h0']; exact h.one b l c l' h1 h1' hne
 same b hb := Rho.put_ne ρ p (by simp only [Mem.new] at hb; omega)
 next := Nat.le_succ _
 keep := Keep.of_below hb
 live b l e := by
  simp only [Mem.new, Tr.get_put] at e
  split at e
  ·rename_i hb; subst hb; rw [Rho.put_at]; exact .inl hp
  ·rename_i hb; exact .inr ⟨b, l, e, (congrArg Pl.addr (Rho.put_ne ρ p hb)).symm⟩
 wr b hb := hb
 old b hb _ := by
  simp only [Mem.new, Tr.get_put]
  rw [if_neg (by omega)]
 was b l e hb := by
  simp only [Mem.new, Tr.get_put] at e
  rw [if_neg (by omega)] at e
  exact ⟨l, e⟩

theorem post_new {ρ : Rho} {m : Mem} {w : World} (h : MemOk ρ m w) (cs : List AV) (hs : sups (fun b => b < m.next) cs) (el : Nat) (e : TypeId) :
 Post ρ (ρ.put m.next ⟨w.heap.size, 0, 0⟩) m (m.new (.cells cs el)) w (w.alloc (.cells (concs ρ cs).toArray e)) := by
 refine post_fresh h (.cells cs el) hs ⟨w.heap.size, 0, 0⟩ ((Below.refl _ _).alloc (Nat.le_refl _) _) (Nat.le_refl _) ⟨[], [], e, ?_, ?_, ?_⟩
 ·rw [Rho.put_at, heap_alloc_new, concs_congr (put_lt (p := ⟨w.heap.size, 0, 0⟩)) cs hs]; simp
 ·rw [Rho.put_at]; rfl
 ·rw [Rho.put_at]; simp

/-- A live block written anew, or given up. -/
theorem post_set {ρ : Rho} {m : Mem} {w w' : World} (h : MemOk ρ m w) {b : Nat} {k : Blk} (hb : m.blks.get b = some k) (o : Option Blk)
 (ho : ∀ k', o = some k' → k'.sup (fun b => b < m.next) ∧ BlkOk ρ w' b k') (hw : Keep (fun x => x = (ρ b).addr) w w') : Post ρ ρ m (m.set b o) w w' where
 mem := by
  have hg : ∀ c l, (m.set b o).blks.get c = some l → (c = b ∧ o = some l) ∨ (c ≠ b ∧ m.blks.get c = some l) := by
   intro c l e
   simp only [Mem.set, Tr.get_put] at e
   split at e
   ·rename_i hc; exact .inl ⟨hc, e⟩
   ·rename_i hc; exact .inr ⟨hc, e⟩
  refine ⟨fun c l e => ?_, fun c l e => ?_, fun c l e => ?_, fun c l d l' e e' hne => ?_⟩
  ·show c < m.next
   rcases hg c l e with ⟨h1, _⟩ | ⟨_, h1⟩
   ·rw [h1]; exact h.lt b k hb
   ·exact h.lt c l h1
  ·rcases hg c l e with ⟨h1, h2⟩ | ⟨h0, h1⟩
   ·subst h1; exact (ho l h2).2
   ·have hlt := (h.ok c l h1).lt
    exact (h.ok c l h1).congr rfl (fun _ _ => rfl) (h.sup c l h1) (hw.block _ hlt (h.one c l b k h1 hb h0))
  ·rcases hg c l e with ⟨h1, h2⟩ | ⟨h0, h1⟩
   ·exact (ho l h2).1
   ·exact h.sup c l h1
  ·have hl : ∀ c l, (m.set b o).blks.get c = some l → ∃ l', m.blks.get c = some l' := by
    intro c l e
    rcases hg c l e with ⟨h1, _⟩ | ⟨_, h1⟩
    ·exact ⟨k, by rw [h1]; exact hb⟩
    ·exact ⟨l, h1⟩
   obtain ⟨u, hu⟩ := hl c l e
   obtain ⟨v, hv⟩ := hl d l' e'
   exact h.one c u d v hu hv hne
 same _ _ := rfl
 next := Nat.le_refl _
 keep := hw.weak fun x _ e => ⟨b, k, hb, e.symm⟩
 live c l e := by
  simp only [Mem.set, Tr.get_put] at e
  split at e
  ·rename_i hc; exact .inr ⟨b, k, hb, by rw [hc]⟩
  ·exact .inr ⟨c, l, e, rfl⟩
 wr c hc := List.mem_cons_of_mem _ hc
 old c _ hn := by
  simp only [Mem.set, Tr.get_put]
  rw [if_neg (fun e => hn (by rw [e]; exact List.mem_cons_self))]
 was c l e _ := by
  simp only [Mem.set, Tr.get_put] at e
  split at e
  ·rename_i hc; exact ⟨k, by rw [hc]; exact hb⟩
  ·exact ⟨l, e⟩

theorem sups_of {S : Nat → Prop} : ∀ {l : List AV}, (∀ v ∈ l, v.sup S) → sups S l
 | [], _ => trivial
 | v :: l, h => ⟨h v List.mem_cons_self, sups_of fun x hx => h x (List.mem_cons_of_mem _ hx)⟩

theorem sups_mem {S : Nat → Prop} : ∀ {l : List AV}, sups S l → ∀ v ∈ l, v.sup S
 | v :: l, h, x, hx => by
   rcases List.mem_cons.1 hx with rfl | hx
   ·exact h.1
   ·exact sups_mem h.2 x hx

theorem sup_cells {S : Nat → Prop} {v : AV} (h : v.sup S) : sups S v.cells := by
 cases v <;> first | exact h | exact ⟨h, trivial⟩ | exact ⟨trivial, trivial⟩

theorem cellsAt_sup {S : Nat → Prop} {m : Mem} (hm : MSup S m) {b off n : Nat} {l : List AV} (h : cellsAt m b off n = some l) : sups S l := by
 obtain ⟨cs, el, hc, hl, _⟩ := cellsAt_spec h
 have hs : sups S cs := hm b _ hc
 rw [hl]
 exact sups_of fun v hv => sups_mem hs v (List.mem_of_mem_drop (List.mem_of_mem_take hv))

theorem splice_mid (pre cs post vs : List Value) (off : Nat) (h : off + vs.length ≤ cs.length) :
 (pre ++ cs ++ post).take (off + pre.length) ++ vs ++ (pre ++ cs ++ post).drop (off + pre.length + vs.length) = pre ++ (cs.take off ++ vs ++ cs.drop (off + vs.length)) ++ post := by
 have e1 : (pre ++ cs ++ post).take (off + pre.length) = pre ++ cs.take off := by
  rw [List.append_assoc, List.take_append, List.take_of_length_le (by omega), Nat.add_sub_cancel, List.take_append_of_le_length (by omega)]
 have e2 : (pre ++ cs ++ post).drop (off + pre.length + vs.length) = cs.drop (off + vs.length) ++ post := by
  rw [List.append_assoc, List.drop_append, List.drop_of_length_le (by omega), List.nil_append, show off + pre.length + vs.length - pre.length = off + vs.length by omega, List.drop_append_of_le_length (by omega)]
 rw [e1, e2]
 simp

/-- Cells of a live block are written. -/
theorem storeCells_sound {P : Program} {ρ : Rho} {m : Mem} {w : World} (hm : MemOk ρ m w) {b off el : Nat} {cs vs cs' : List AV} (hb : m.blks.get b = some (.cells cs el))
 (hp : putCells cs off vs = some cs') (hs : sups (fun b => b < m.next) vs) :
 ∃ w', (storeCells ⟨(ρ b).addr, off + (ρ b).shift, none⟩ (concs ρ vs)).run P w = .ok () w' ∧ Post ρ ρ m (m.set b (some (.cells cs' el))) w w' := by
 obtain ⟨h1, h2, h3⟩ := putCells_spec cs off vs cs' hp
 obtain ⟨pre, post, e, hw, hq, hx⟩ := hm.ok b _ hb
 have hlt := (Array.getElem?_eq_some_iff.1 hw).1
 have hst := run_storeCells_at (P := P) (ρ b).addr (off + (ρ b).shift) e (concs ρ vs) 0 _ w hw (by simp only [concs_len, List.size_toArray, List.length_append]; omega)
  (fun v hv => by rw [concs_eq] at hv; obtain ⟨u, hu, rfl⟩ := List.mem_map.1 hv; exact one_conc ρ u (h3 u hu))
 refine ⟨_, hst, post_set hm hb _ (fun k' hk' => ?_) ⟨by simp, fun x _ hx => setRow_other _ _ _ _ hx, rfl, rfl, rfl⟩⟩
 injection hk' with hk'
 subst hk'
 refine ⟨?_, pre, post, e, ?_, hq, hx⟩
 ·rw [h1]
  have hc : sups (fun b => b < m.next) cs := hm.sup b _ hb
  refine sups_of fun v hv => ?_
  rcases List.mem_append.1 hv with hv | hv
  ·rcases List.mem_append.1 hv with hv | hv
   ·exact sups_mem hc v (List.mem_of_mem_take hv)
   ·exact sups_mem hs v hv
  ·exact sups_mem hc v (List.mem_of_mem_drop hv)
 ·rw [setRow_heap _ _ _ _ _ _ hw]
  simp only [Nat.add_zero]
  rw [← hq, splice_mid pre (concs ρ cs) post (concs ρ vs) off (by simp only [concs_len]; omega), h1]
  simp only [concs_append, concs_take, concs_drop, concs_len]

end Go.Proofs.YtbdcjhoedhhabaaGreat

