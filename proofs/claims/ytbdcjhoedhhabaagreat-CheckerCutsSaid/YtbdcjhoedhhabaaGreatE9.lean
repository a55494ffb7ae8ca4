/- Contracts of the functions that the statements reach, part 9. -/
import Derived.Control
import Derived.Test.YtbdcjhoedhhabaaGreatE8
set_option linter.unusedSimpArgs false
set_option linter.unusedVariables false

/- The executor: operations with their calls, and regions whose order is given. -/
namespace Go.Proofs.YtbdcjhoedhhabaaGreat
set_option linter.unusedSectionVars false
open Go.RowKit

/-- What is known of the registers and the memory behind a piece of a run. -/
def After (ρ ρ' : Rho) (m m' : Mem) (w w' : World) (r r' : Regs) : Prop := Post ρ ρ' m m' w w' ∧ ∀ S, RSup S r → MSup S m → MSup (Wid S m m') m' ∧ RSup (Wid S m m') r'

theorem After.refl {ρ : Rho} {m : Mem} {w : World} {r : Regs} (h : MemOk ρ m w) : After ρ ρ m m w w r r :=
 ⟨Post.refl h, fun S h1 h2 => ⟨h2.mono fun _ h => .inl h, fun t => sup_mono (fun _ h => .inl h) _ (h1 t)⟩⟩

theorem After.trans {ρ ρ1 ρ2 : Rho} {m m1 m2 : Mem} {w w1 w2 : World} {r r1 r2 : Regs} (h : After ρ ρ1 m m1 w w1 r r1) (k : After ρ1 ρ2 m1 m2 w1 w2 r1 r2) : After ρ ρ2 m m2 w w2 r r2 :=
 ⟨h.1.trans k.1, fun S h1 h2 => by
  obtain ⟨a1, a2⟩ := h.2 S h1 h2
  obtain ⟨b1, b2⟩ := k.2 _ a2 a1
  have := Wid.trans (S := S) h.1.next k.1.next
  exact ⟨b1.mono this, fun t => sup_mono this _ (b2 t)⟩⟩

theorem After.rsup {ρ ρ' : Rho} {m m' : Mem} {w w' : World} {r r' : Regs} (h : After ρ ρ' m m' w w' r r') (hs : RSup (fun b => b < m.next) r) (hm : MemOk ρ m w) : RSup (fun b => b < m'.next) r' := fun t => by
 refine sup_mono (fun b hb => ?_) _ ((h.2 _ hs hm.sup).2 t)
 rcases hb with hb | hb
 ·have := h.1.next
  have hb : b < m.next := hb
  omega
 ·exact hb.2

/-- What a call that the executor has run does. -/
def CallsOk (T : Tabs) (P : Program) (call : CallA) : Prop :=
 ∀ f vs m v m', call f vs m = some (v, m') → (∃ fn c, T.fn.get f = some fn ∧ fn.body = some c) ∧ ∀ ρ w, sups (fun b => b < m.next) vs → MemOk ρ m w →
   Calls P f (concs ρ vs).toArray w fun e w' => ∃ ρ', e = .returned (v.conc ρ') ∧ Post ρ ρ' m m' w w' ∧ ∀ S, sups S vs → MSup S m → MSup (Wid S m m') m' ∧ v.sup (Wid S m m')

theorem RSup.put {S : Nat → Prop} {N : Nat} {r r' : Regs} {dst : Option Nat} {v : AV} (h : putR N r dst v = some r') (hr : RSup S r) (hv : v.sup S) : RSup S r' := by
 cases dst with
 | none => injection h with h; subst h; exact hr
 | some t =>
   unfold putR at h
   simp only at h
   cases hb : Nat.blt t N with
   | false => rw [hb] at h; cases h
   | true =>
     rw [hb] at h
     injection h with h
     subst h
     intro i
     unfold Regs.at
     rw [Tr.get_put]
     by_cases hi : i = t
     ·rw [if_pos hi]; exact hv
     ·rw [if_neg hi]; exact hr i

section
variable {T : Tabs} {P : Program} (H : TabsOk T P) {call : CallA} (hc : CallsOk T P call)
include H hc

/-- An operation with its call: what it leaves, in whatever state the executor's picture fits. -/
theorem doA_like {r : Regs} {m m' : Mem} {o : Oper} {v : AV} (h : doA T call r m o.op = some (v, m')) {ρ : Rho} {N : Nat} {a a0 : Act} {w : World} (hr : RegOk ρ N r a0) (ha : execOp a.eval o = execOp a0.eval o) (hm : MemOk ρ m w) (hs : RSup (fun b => b < m.next) r)
 {K : Act → World → Prop} {Q : Exit → Act → World → Prop}
 (hK : ∀ ρ' w', Post ρ ρ' m m' w w' → (∀ S, RSup S r → MSup S m → MSup (Wid S m m') m' ∧ v.sup (Wid S m m')) → K (a.put o.dst (v.conc ρ')) w') : o.wp P a w K Q := by
 unfold doA at h
 cases he : opA T r m o.op with
 | none => rw [he] at h; cases h
 | some e =>
   rw [he] at h
   have hcall : ∀ f vs, e = .call f vs → ∃ fn c, T.fn.get f = some fn ∧ fn.body = some c := by
    rintro f vs rfl
    exact (hc f vs m v m' h).1
   have hd := opA_sound H hr hm hs he hcall
   unfold Oper.wp
   rw [ha]
   cases e with
   | val u m1 =>
     injection h with h
     injection h with h1 h2
     subst h1; subst h2
     obtain ⟨ρ', w', h1, h2, h3⟩ := hd
     rw [h1]
     exact hK ρ' w' h2 h3
   | skip m1 =>
     injection h with h
     injection h with h1 h2
     subst h1; subst h2
     obtain ⟨ρ', w', h1, h2, h3⟩ := hd
     rw [h1]
     have := hK ρ' w' h2 fun S a1 a2 => ⟨h3 S a1 a2, trivial⟩
     rw [conc_undef] at this
     exact this
   | call f vs =>
     obtain ⟨h1, h2⟩ := hd
     rw [h1, Oper.upon_enter]
     refine Calls.mono ((hc f vs m v m' h).2 ρ w (h2 _ hs hm.sup) hm) fun e w' he => ?_
     obtain ⟨ρ', rfl, k1, k2⟩ := he
     exact hK ρ' w' k1 fun S a1 a2 => k2 S (h2 S a1 a2) a2

theorem doA_sound {r : Regs} {m m' : Mem} {o : Oper} {v : AV} (h : doA T call r m o.op = some (v, m')) {ρ : Rho} {N : Nat} {a : Act} {w : World} (hr : RegOk ρ N r a) (hm : MemOk ρ m w) (hs : RSup (fun b => b < m.next) r)
 {K : Act → World → Prop} {Q : Exit → Act → World → Prop}
 (hK : ∀ ρ' w', Post ρ ρ' m m' w w' → (∀ S, RSup S r → MSup S m → MSup (Wid S m m') m' ∧ v.sup (Wid S m m')) → K (a.put o.dst (v.conc ρ')) w') : o.wp P a w K Q := doA_like H hc h hr rfl hm hs hK

theorem wantedA_eq {ops : Array Oper} {ρ : Rho} {N : Nat} {r : Regs} {a : Act} (hr : RegOk ρ N r a) (o : Oper) : wantedA ops.toList r o = Region.wanted o (yielded ops a.tmps) := by
 unfold wantedA Region.wanted
 cases hg : o.guard with
 | none => rfl
 | some p =>
   obtain ⟨j, want⟩ := p
   simp only
   unfold yielded
   rw [Array.getElem?_toList]
   cases hj : ops[j]? with
   | none => simp
   | some q =>
     simp only [Option.bind_some]
     cases hd : q.dst with
     | none => simp
     | some t =>
       simp only [Option.bind_some]
       have ht := hr.at_ t
       rw [Array.getD_eq_getD_getElem?] at ht
       cases hx : a.tmps[t]? with
       | none =>
         rw [hx, Option.getD_none] at ht
         cases hv : r.at t <;> rw [hv] at ht <;> simp [AV.conc, undef] at ht ⊢
       | some x =>
         rw [hx, Option.getD_some] at ht
         rw [ht]
         cases hv : r.at t <;> simp [AV.conc]

theorem opsA_sound {ops : Array Oper} {N : Nat} {Q : Exit → Act → World → Prop} : ∀ {l : List Oper} {k : Nat}, ops.toList.drop k = l → ∀ {r r' : Regs} {m m' : Mem}, opsA T call N ops.toList l r m = some (r', m') →
 ∀ {ρ : Rho} {a : Act} {w : World}, RegOk ρ N r a → MemOk ρ m w → RSup (fun b => b < m.next) r →
 (∀ ρ' a' w', RegOk ρ' N r' a' → After ρ ρ' m m' w w' r r' → Q .normal a' w') → wpOps P ops Q (List.range' k l.length) a w
 | [], k, hl, r, r', m, m', h, ρ, a, w, hr, hm, hs, hQ => by
   injection h with h
   injection h with h1 h2
   subst h1; subst h2
   exact hQ ρ a w hr (After.refl hm)
 | o :: l, k, hl, r, r', m, m', h, ρ, a, w, hr, hm, hs, hQ => by
   have hk : ops[k]? = some o := by
    rw [← Array.getElem?_toList, ← List.head?_drop, hl]; rfl
   have hl' : ops.toList.drop (k + 1) = l := by rw [← List.tail_drop, hl]; rfl
   rw [List.length_cons, List.range'_succ]
   unfold wpOps
   simp only [hk]
   rw [opsA] at h
   have hwant := wantedA_eq H hc hr o (ops := ops)
   cases hw : wantedA ops.toList r o with
   | true =>
     rw [hw] at h hwant
     rw [if_pos hwant.symm]
     simp only [cond_true] at h
     unfold stepA at h
     cases hd : doA T call r m o.op with
     | none => rw [hd] at h; cases h
     | some p =>
       obtain ⟨v, m1⟩ := p
       rw [hd] at h
       simp only at h
       cases hp : putR N r o.dst v with
       | none => rw [hp] at h; cases h
       | some r1 =>
         rw [hp] at h
         simp only [Option.map_some] at h
         refine .inl (doA_sound H hc hd hr hm hs fun ρ1 w1 h1 h2 => ?_)
         have hr1 : RegOk ρ1 N r1 (a.put o.dst (v.conc ρ1)) := by
          refine RegOk.put (r := r) ⟨hr.size, hr.none, fun t => ?_⟩ hp
          rw [hr.at_ t]
          exact conc_congr (fun b hb => (h1.same b (.inl hb)).symm) _ (hs t)
         have haft : After ρ ρ1 m m1 w w1 r r1 := ⟨h1, fun S s1 s2 => ⟨(h2 S s1 s2).1, RSup.put hp (fun t => sup_mono (fun _ h => .inl h) _ (s1 t)) (h2 S s1 s2).2⟩⟩
         exact opsA_sound hl' h hr1 h1.mem (haft.rsup hs hm) fun ρ' a' w' k1 k2 => hQ ρ' a' w' k1 (haft.trans k2)
   | false =>
     rw [hw] at h hwant
     rw [if_neg (by rw [← hwant]; simp)]
     simp only [cond_false] at h
     cases hp : putR N r o.dst .undef with
     | none => rw [hp] at h; cases h
     | some r1 =>
       rw [hp] at h
       simp only [Option.map_some] at h
       have hr1 : RegOk ρ N r1 (a.put o.dst undef) := by
        rw [← conc_undef ρ]
        exact RegOk.put hr hp
       have haft : After ρ ρ m m w w r r1 := ⟨Post.refl hm, fun S s1 s2 => ⟨s2.mono fun _ h => .inl h, RSup.put hp (fun t => sup_mono (fun _ h => .inl h) _ (s1 t)) trivial⟩⟩
       exact opsA_sound hl' h hr1 hm (haft.rsup hs hm) fun ρ' a' w' k1 k2 => hQ ρ' a' w' k1 (haft.trans k2)

end
end Go.Proofs.YtbdcjhoedhhabaaGreat

/- The executor: what holds of its memories in any world; a piece of memory within a greater one. -/
namespace Go.Proofs.YtbdcjhoedhhabaaGreat
set_option linter.unusedSectionVars false
open Go.RowKit

/-- A memory that is well formed: ids below the next one. -/
structure MWf (m : Mem) : Prop where
 lt : ∀ b k, m.blks.get b = some k → b < m.next
 sup : MSup (fun b => b < m.next) m

theorem MemOk.wf {ρ : Rho} {m : Mem} {w : World} (h : MemOk ρ m w) : MWf m := ⟨h.lt, h.sup⟩

/-- The registers beyond a function's number hold nothing. -/
def RBd (N : Nat) (r : Regs) : Prop := ∀ t, N ≤ t → r.at t = .undef

theorem conc_undef_inv {ρ : Rho} {x : AV} (h : x.conc ρ = undef) : x = .undef := by
 cases x <;> simp [AV.conc, undef] at h
 rename_i l
 cases l with
 | nil => rfl
 | cons a l => simp [concs] at h

theorem RegOk.bd {ρ : Rho} {N : Nat} {r : Regs} {a : Act} (h : RegOk ρ N r a) : RBd N r := fun t ht => by
 have := h.at_ t
 rw [Array.getD_eq_getD_getElem?, Array.getElem?_eq_none (by rw [h.size]; exact ht)] at this
 exact conc_undef_inv this.symm

theorem RBd.put {N : Nat} {r r' : Regs} {dst : Option Nat} {v : AV} (h : RBd N r) (e : putR N r dst v = some r') : RBd N r' := by
 cases dst with
 | none => injection e with e; subst e; exact h
 | some t =>
   unfold putR at e
   simp only at e
   cases hb : Nat.blt t N with
   | false => rw [hb] at e; cases e
   | true =>
     rw [hb] at e
     injection e with e
     subst e
     have hlt : t < N := Nat.le_of_ble_eq_true hb
     intro i hi
     unfold Regs.at
     rw [Tr.get_put, if_neg (by omega)]
     exact h i hi

/-- The plain world of a memory: every block at its own number. -/
def plainObj (ρ : Rho) : Option Blk → Obj
 | some (.cells cs _) => .cells (concs ρ cs).toArray 0
 | some (.map es c) => .map (es.map (entryOf ρ)).toArray c
 | none => .cells #[] 0

theorem canon {m : Mem} (h : MWf m) : ∃ ρ w, MemOk ρ m w := by
 let ρ : Rho := fun b => ⟨b, 0, 0⟩
 let w : World := { (default : World) with heap := Array.ofFn (n := m.next) fun i => plainObj ρ (m.blks.get i.val) }
 have hw : ∀ b, b < m.next → w.heap[b]? = some (plainObj ρ (m.blks.get b)) := by
  intro b hb
  show (Array.ofFn (n := m.next) fun i => plainObj ρ (m.blks.get i.val))[b]? = _
  rw [Array.getElem?_ofFn, dif_pos hb]
 refine ⟨ρ, w, h.lt, fun b k e => ?_, h.sup, fun b k c l e1 e2 hne => hne⟩
 have hb := h.lt b k e
 cases k with
 | cells cs el => exact ⟨[], [], 0, by rw [hw b hb, e]; simp [plainObj], rfl, by simp [ρ]⟩
 | map es c => show _ = _; rw [hw b hb, e]; rfl

theorem canon_act (ρ : Rho) {N : Nat} {r : Regs} (h : RBd N r) : ∃ a, RegOk ρ N r a := by
 refine ⟨⟨Array.ofFn (n := N) fun i => (r.at i.val).conc ρ, []⟩, by simp, rfl, fun t => ?_⟩
 simp only [Array.getD_eq_getD_getElem?, Array.getElem?_ofFn]
 by_cases ht : t < N
 ·rw [dif_pos ht]; rfl
 ·rw [dif_neg ht, h t (by omega), conc_undef]; rfl

theorem Oper.wp_out {P : Program} {o : Oper} {a : Act} {w : World} {F : Prop} (h : o.wp P a w (fun _ _ => F) (fun _ _ _ => False)) : F := by
 unfold Oper.wp at h
 generalize (execOp a.eval o).run P w = res at h
 cases res with
 | ok n w' =>
   cases n <;> simp only [Oper.upon] at h
   case value => exact h
   case skip => exact h
   case defer => exact h
   case enter =>
    obtain ⟨e, w', fr, hR, _⟩ := h []
    cases e with
    | returned v => exact hR
    | panicked c => exact hR.elim
    | outgrown => obtain ⟨_, _, hf⟩ := hR; exact hf.elim
   case row => obtain ⟨v, w', hR, _⟩ := h default []; exact hR
 | halt x w' => cases x <;> simp only [Oper.upon] at h

section
variable {T : Tabs} {P : Program} (H : TabsOk T P) {call : CallA} (hc : CallsOk T P call)
include H hc

/-- What an operation does to the executor's memory, world or no world. -/
theorem doA_pure {r : Regs} {m m' : Mem} {op : Op} {v : AV} (h : doA T call r m op = some (v, m')) (hm : MWf m) (hs : RSup (fun b => b < m.next) r) {N : Nat} (hb : RBd N r) :
 m.next ≤ m'.next ∧ MWf m' ∧ (∀ b, b ∈ m.wr → b ∈ m'.wr) ∧ (∀ b, b < m.next → b ∉ m'.wr → m'.blks.get b = m.blks.get b) ∧ (∀ b k, m'.blks.get b = some k → b < m.next → ∃ l, m.blks.get b = some l) ∧
 ∀ S, RSup S r → MSup S m → MSup (Wid S m m') m' ∧ v.sup (Wid S m m') := by
 obtain ⟨ρ, w, hok⟩ := canon hm
 obtain ⟨a, hr⟩ := canon_act ρ hb
 refine Oper.wp_out (P := P) (o := { (default : Oper) with op := op }) (a := a) (w := w) ?_
 exact doA_sound H hc (o := { (default : Oper) with op := op }) h hr hok hs fun ρ' w' h1 h2 => ⟨h1.next, h1.mem.wf, h1.wr, h1.old, h1.was, h2⟩

end

/-- Blocks and what they stand for in a world; ids of S. -/
structure GOk (ρ : Rho) (g : Nat → Option Blk) (S : Nat → Prop) (w : World) : Prop where
 live : ∀ b k, g b = some k → S b ∧ k.sup S ∧ BlkOk ρ w b k
 one : ∀ b k c l, g b = some k → g c = some l → b ≠ c → (ρ b).addr ≠ (ρ c).addr

/-- A piece of the memory has run on; the whole. -/
theorem GOk.frame {ρ ρ' : Rho} {g : Nat → Option Blk} {S : Nat → Prop} {w w' : World} (hg : GOk ρ g S w) {pre post : Mem} (hm : MemOk ρ pre w) (hsub : ∀ b k, pre.blks.get b = some k → g b = some k)
 (hp : Post ρ ρ' pre post w w') (hsup : MSup (Wid S pre post) post) (hfresh : ∀ b, S b → b < pre.next ∨ post.next ≤ b) {g' : Nat → Option Blk}
 (hg' : ∀ b, (((pre.next ≤ b ∧ b < post.next) ∨ b ∈ post.wr) ∧ g' b = post.blks.get b) ∨ (¬ ((pre.next ≤ b ∧ b < post.next) ∨ b ∈ post.wr) ∧ g' b = g b)) : GOk ρ' g' (Wid S pre post) w' := by
 -- a live block of the whole is one of the piece, or lies beside it
 have split : ∀ b k, g' b = some k → post.blks.get b = some k ∨ (g b = some k ∧ pre.blks.get b = none ∧ ¬ (pre.next ≤ b ∧ b < post.next)) := by
  intro b k e
  rcases hg' b with ⟨_, h2⟩ | ⟨h1, h2⟩
  ·rw [h2] at e; exact .inl e
  ·rw [h2] at e
   cases hq : pre.blks.get b with
   | none => exact .inr ⟨e, rfl, fun hh => h1 (.inl hh)⟩
   | some l =>
     have h3 := hsub b l hq
     rw [e] at h3
     injection h3 with h3
     subst h3
     left
     rw [hp.old b (hm.lt b _ hq) (fun hh => h1 (.inr hh))]
     exact hq
 have beside : ∀ b k, g b = some k → pre.blks.get b = none → ∀ x, Lv ρ pre x → (ρ b).addr ≠ x := by
  rintro b k e hn x ⟨c, l, hc, rfl⟩
  refine hg.one b k c l e (hsub c l hc) fun h => ?_
  subst h
  rw [hc] at hn
  cases hn
 have rho : ∀ b, S b → ρ b = ρ' b := fun b hb => (hp.same b (hfresh b hb)).symm
 have side : ∀ b k, g b = some k → pre.blks.get b = none → BlkOk ρ' w' b k := by
  intro b k e hn
  obtain ⟨s1, s2, s3⟩ := hg.live b k e
  exact s3.congr (rho b s1) rho s2 (hp.keep.block _ s3.lt fun hl => beside b k e hn _ hl rfl)
 refine ⟨fun b k e => ?_, fun b k c l e1 e2 hne => ?_⟩
 ·rcases split b k e with h | ⟨h1, h2, h3⟩
  ·refine ⟨?_, hsup b k h, hp.mem.ok b k h⟩
   have hlt := hp.mem.lt b k h
   by_cases hb : b < pre.next
   ·obtain ⟨l, hl⟩ := hp.was b k h hb
    exact .inl (hg.live b l (hsub b l hl)).1
   ·exact .inr ⟨by omega, hlt⟩
  ·obtain ⟨s1, s2, _⟩ := hg.live b k h1
   exact ⟨.inl s1, Blk.sup_mono (fun _ h => .inl h) s2, side b k h1 h2⟩
 ·have cross : ∀ b k c l, post.blks.get b = some k → g c = some l → pre.blks.get c = none → (ρ' b).addr ≠ (ρ' c).addr := by
   intro b k c l h1 h2 h3 heq
   obtain ⟨s1, s2, s3⟩ := hg.live c l h2
   rw [← rho c s1] at heq
   rcases hp.live b k h1 with h4 | h4
   ·have := s3.lt; omega
   ·exact beside c l h2 h3 _ h4 heq.symm
  rcases split b k e1 with h1 | ⟨h1, h2, _⟩ <;> rcases split c l e2 with h3 | ⟨h3, h4, _⟩
  ·exact hp.mem.one b k c l h1 h3 hne
  ·exact cross b k c l h1 h3 h4
  ·exact fun h => cross c l b k h3 h1 h2 h.symm
  ·rw [← rho b (hg.live b k h1).1, ← rho c (hg.live c l h3).1]
   exact hg.one b k c l h1 h3 hne

/-! ### Operands alone count -/

section
variable {r r' : Regs}

theorem evA_congr {x : Operand} (h : ∀ t, x = .tmp t → r.at t = r'.at t) : evA r x = evA r' x := by
 cases x with
 | tmp t => show some _ = some _; rw [h t rfl]
 | _ => rfl

theorem evL_congr : ∀ {l : List Operand}, (∀ t, Operand.tmp t ∈ l → r.at t = r'.at t) → evL r l = evL r' l
 | [], _ => rfl
 | x :: l, h => by
   rw [evL, evL, evA_congr (x := x) fun t e => h t (by rw [e]; exact List.mem_cons_self), evL_congr (l := l) fun t ht => h t (List.mem_cons_of_mem _ ht)]

theorem evParts_congr : ∀ {l : List (Nat × Operand)}, (∀ t, Operand.tmp t ∈ l.map (·.2) → r.at t = r'.at t) → evParts r l = evParts r' l
 | [], _ => rfl
 | (i, x) :: l, h => by
   rw [evParts, evParts, evA_congr (x := x) fun t e => h t (by rw [e]; exact List.mem_cons_self), evParts_congr (l := l) fun t ht => h t (List.mem_cons_of_mem _ ht)]

theorem optNat_congr {x : Option Operand} (h : ∀ t, x = some (.tmp t) → r.at t = r'.at t) : optNat r x = optNat r' x := by
 cases x with
 | none => rfl
 | some x => rw [optNat, optNat, evA_congr (x := x) fun t e => h t (by rw [e])]

theorem opA_congr (T : Tabs) (m : Mem) {op : Op} (h : ∀ t, Operand.tmp t ∈ op.operands → r.at t = r'.at t) : opA T r m op = opA T r' m op := by
 have one : ∀ x : Operand, x ∈ op.operands → evA r x = evA r' x := fun x hx => evA_congr fun t e => h t (by rw [← e]; exact hx)
 cases op with
 | move x => simp only [opA, opMove, one x (by simp [Op.operands])]
 | assign x => simp only [opA, opAssign, one x (by simp [Op.operands])]
 | pick c x y => simp only [opA, opPick, one c (by simp [Op.operands]), one x (by simp [Op.operands]), one y (by simp [Op.operands])]
 | alloc t => rfl
 | box t x => simp only [opA, opBox, one x (by simp [Op.operands])]
 | build t ps => simp only [opA, opBuild, evParts_congr (l := ps.toList) fun t ht => h t (by simpa [Op.operands] using ht)]
 | buildSlice t n ps => simp only [opA, opBuildSlice, evParts_congr (l := ps.toList) fun t ht => h t (by simpa [Op.operands] using ht)]
 | load t x => simp only [opA, opLoad, one x (by simp [Op.operands])]
 | store t x y => simp only [opA, opStore, one x (by simp [Op.operands]), one y (by simp [Op.operands])]
 | nilCheck x => simp only [opA, opNilCheck, one x (by simp [Op.operands])]
 | binOp op t x y u => simp only [opA, opBinOp, one x (by simp [Op.operands]), one y (by simp [Op.operands])]
 | unOp op t x => simp only [opA, opUnOp, one x (by simp [Op.operands])]
 | convert s d x => simp only [opA, opConvert, one x (by simp [Op.operands])]
 | makeFunc f fs cs =>
   cases f with
   | func f =>
     show opMakeFunc T r m f fs cs = opMakeFunc T r' m f fs cs
     simp only [opMakeFunc, evL_congr (l := fs.toList) fun t ht => h t (by simp [Op.operands]; exact .inl (by simpa using ht)), evL_congr (l := cs.toList) fun t ht => h t (by simp [Op.operands]; exact .inr (by simpa using ht))]
   | _ => rfl
 | makeMap t x => cases x <;> rfl
 | makeSlice t l c => simp only [opA, opMakeSlice, one l (by simp [Op.operands]), one c (by simp [Op.operands])]
 | slice t x lo hi mx =>
   cases mx with
   | none => simp only [opA, opSlice, one x (by simp [Op.operands]), optNat_congr (x := lo) fun t e => h t (by rw [e]; simp [Op.operands]), optNat_congr (x := hi) fun t e => h t (by rw [e]; simp [Op.operands])]
   | some mx => rfl
 | fieldAddr s x f => simp only [opA, opFieldAddr, one x (by simp [Op.operands])]
 | field s x f => simp only [opA, opField, one x (by simp [Op.operands])]
 | indexAddr t x ix => simp only [opA, opIndexAddr, one x (by simp [Op.operands]), one ix (by simp [Op.operands])]
 | index t x ix => simp only [opA, opIndex, one x (by simp [Op.operands]), one ix (by simp [Op.operands])]
 | lookup t x k ok => simp only [opA, opLookup, one x (by simp [Op.operands]), one k (by simp [Op.operands])]
 | mapUpdate t x k v => simp only [opA, opMapUpdate, one x (by simp [Op.operands]), one k (by simp [Op.operands]), one v (by simp [Op.operands])]
 | mapEntry t x k => simp only [opA, opMapEntry, one x (by simp [Op.operands]), one k (by simp [Op.operands])]
 | entryStore t x s v => simp only [opA, opEntryStore, one x (by simp [Op.operands]), one s (by simp [Op.operands]), one v (by simp [Op.operands])]
 | extract x i => simp only [opA, opExtract, one x (by simp [Op.operands])]
 | call c =>
   have e1 : evL r c.args.toList = evL r' c.args.toList := evL_congr fun t ht => h t (by simp [Op.operands, Call.operands]; exact .inr (by simpa using ht))
   simp only [opA, opCall, e1]
   cases evL r' c.args.toList with
   | none => cases c.callee <;> rfl
   | some vs =>
     cases hcal : c.callee with
     | value f =>
       show (match evA r f with | some (.fn f fs cs) => some (Eff.call f (fs ++ vs ++ cs)) | _ => none) = (match evA r' f with | some (.fn f fs cs) => some (Eff.call f (fs ++ vs ++ cs)) | _ => none)
       rw [one f (by simp [Op.operands, Call.operands, hcal])]
     | _ => rfl
 | _ => rfl

end
end Go.Proofs.YtbdcjhoedhhabaaGreat

