/- Contracts of the functions that the statements reach, part 22. -/
import Derived.Test.YtpeglenapmkdfaaGreatRows
import Derived.Test.YtpeglenapmkdfaaGreatM15
import Derived.Test.YtpeglenapmkdfaaGreatM21
set_option linter.unusedSimpArgs false
set_option linter.unusedVariables false

/- The tableau in memory. -/
namespace Go.Proofs.YtpeglenapmkdfaaGreat
open Go.RowKit

/-- The blocks of a tableau: itself, signs, rows, cost, basis, and each row's. -/
structure Lay where
  p : Nat
  gs : Nat
  gr : Nat
  gc : Nat
  gb : Nat
  G : Nat → Nat
def Lay.X (l : Lay) (m : Nat) : Nat → Prop := fun b => b = l.p ∨ b = l.gs ∨ b = l.gr ∨ b = l.gc ∨ b = l.gb ∨ ∃ i, i < m ∧ b = l.G i
/-- No two are one. -/
structure Lay.Dis (l : Lay) (m : Nat) : Prop where
  d1 : l.p ≠ l.gs ∧ l.p ≠ l.gr ∧ l.p ≠ l.gc ∧ l.p ≠ l.gb
  d2 : l.gs ≠ l.gr ∧ l.gs ≠ l.gc ∧ l.gs ≠ l.gb
  d3 : l.gr ≠ l.gc ∧ l.gr ≠ l.gb ∧ l.gc ≠ l.gb
  d4 : ∀ i, i < m → l.G i ≠ l.p ∧ l.G i ≠ l.gs ∧ l.G i ≠ l.gr ∧ l.G i ≠ l.gc ∧ l.G i ≠ l.gb
  d5 : ∀ i, i < m → ∀ k, k < m → i ≠ k → l.G i ≠ l.G k
/-- The parts of a tableau that a pivot does not write: itself, signs, rows' heads. -/
structure Fix (w : World) (l : Lay) (m n : Nat) (sg : Nat → Int) : Prop where
  box : ∃ cs cr cb, Loc w l.p 92 #[.int .i64 n, .slice (some ⟨l.gs, 0, none⟩) m cs, .slice (some ⟨l.gr, 0, none⟩) m cr, .slice (some ⟨l.gc, 0, none⟩) (n + m + 1) (n + m + 1), .slice (some ⟨l.gb, 0, none⟩) m cb] ∧ m ≤ cs ∧ m ≤ cr ∧ m ≤ cb
  sgn : ∃ ss : Array Value, Loc w l.gs 3 ss ∧ ∀ i, i < m → ss[i]? = some (.int .i64 (sg i))
  row : ∃ rr : Array Value, Loc w l.gr 23 rr ∧ ∀ i, i < m → rr[i]? = some (.slice (some ⟨l.G i, 0, none⟩) (n + m + 1) (n + m + 1))
/-- A row of the tableau, the cost or another. -/
def Rw (w : World) (X : Nat → Prop) (g N : Nat) (f : Nat → Rat) : Prop := ∃ rs, Line w g rs ∧ rs.length = N ∧ ValV w X rs f
/-- The cost: fractions that need not be canonical. -/
def Rc (w : World) (X : Nat → Prop) (g N : Nat) (f : Nat → Rat) : Prop := ∃ rs, Line w g rs ∧ rs.length = N ∧ ValL 100000 w X rs f
/-- The basis. -/
def Bas (w : World) (g m : Nat) (b : Nat → Nat) : Prop := ∃ bb : Array Value, Loc w g 3 bb ∧ ∀ i, i < m → bb[i]? = some (.int .i64 (b i))
/-- The tableau. -/
structure Tab (w : World) (l : Lay) (m n : Nat) (S : St) (k : Nat → Rat) (sg : Nat → Int) : Prop where
  fix : Fix w l m n sg
  rows : ∀ i, i < m → Rw w (l.X m) (l.G i) (n + m + 1) (S.T i)
  cost : Rc w (l.X m) l.gc (n + m + 1) k
  bas : Bas w l.gb m S.b
  dis : l.Dis m

section
variable {w w' : World} {l : Lay} {m n : Nat} {sg : Nat → Int} {X Y : Nat → Prop} {g N : Nat} {f f' : Nat → Rat} {b : Nat → Nat}
theorem Fix.keep (h : Fix w l m n sg) (hk : Keep X w w') (h1 : ¬ X l.p) (h2 : ¬ X l.gs) (h3 : ¬ X l.gr) : Fix w' l m n sg := by
  obtain ⟨⟨cs, cr, cb, a, hc⟩, ⟨ss, b, hs⟩, ⟨rr, c, hr⟩⟩ := h
  exact ⟨⟨cs, cr, cb, a.keep hk h1, hc⟩, ⟨ss, b.keep hk h2, hs⟩, ⟨rr, c.keep hk h3, hr⟩⟩
theorem Rw.keep (h : Rw w X g N f) (hk : Keep X w w') (hY : Keep Y w w') (h1 : ¬ Y g) : Rw w' X g N f := by
  obtain ⟨rs, a, b, c⟩ := h
  exact ⟨rs, Loc.keep a hY h1, b, c.keep hk⟩
theorem Rw.congr (h : Rw w X g N f) (hf : ∀ i, i < N → f' i = f i) : Rw w X g N f' := by
  obtain ⟨rs, a, b, c⟩ := h
  exact ⟨rs, a, b, c.congr (by rw [b]; exact hf)⟩
theorem Rw.lt (h : Rw w X g N f) : g < w.heap.size := let ⟨_, a, _⟩ := h; a.lt
theorem Rc.keep (h : Rc w X g N f) (hk : Keep X w w') (hY : Keep Y w w') (h1 : ¬ Y g) : Rc w' X g N f := by
  obtain ⟨rs, a, b, c⟩ := h
  exact ⟨rs, Loc.keep a hY h1, b, c.keep hk⟩
theorem Rc.congr (h : Rc w X g N f) (hf : ∀ i, i < N → f' i = f i) : Rc w X g N f' := by
  obtain ⟨rs, a, b, c⟩ := h
  exact ⟨rs, a, b, fun i r hr => by rw [hf i (by rw [← b]; exact (List.getElem?_eq_some_iff.1 hr).1)]; exact c i r hr⟩
theorem Rc.lt (h : Rc w X g N f) : g < w.heap.size := let ⟨_, a, _⟩ := h; a.lt
theorem Rc.at (h : Rc w X g N f) {c : Nat} (hc : c < N) : ∃ (b : Bool) (A : Option Addr) (p d : Nat) (b' : Bool) (A' : Option Addr) (p' d' : Nat), w.cell? ⟨g, c * 4, none⟩ = some (.bool b) ∧ w.cell? ⟨g, c * 4 + 1, none⟩ = some (.slice A p d) ∧ w.cell? ⟨g, c * 4 + 2, none⟩ = some (.bool b') ∧ w.cell? ⟨g, c * 4 + 3, none⟩ = some (.slice A' p' d') ∧
    RatL 100000 w X (.agg #[.bool b, .slice A p d, .bool b', .slice A' p' d']) (f c) ∧ ∀ i, w.frozen? ⟨g, i, none⟩ = false := by
  obtain ⟨rs, a, hn, hv⟩ := h
  have hr := List.getElem?_eq_getElem (l := rs) (i := c) (by omega)
  obtain ⟨c0, c1, c2, c3⟩ := a.cells hr
  exact ⟨_, _, _, _, _, _, _, _, c0, c1, c2, c3, hv c _ hr, a.frz⟩
theorem Bas.keep (h : Bas w g m b) (hk : Keep X w w') (h1 : ¬ X g) : Bas w' g m b := by
  obtain ⟨bb, a, c⟩ := h
  exact ⟨bb, a.keep hk h1, c⟩
/-- The cells of a row at one column. -/
theorem Rw.at (h : Rw w X g N f) {c : Nat} (hc : c < N) : ∃ (b : Bool) (A : Option Addr) (p d : Nat) (b' : Bool) (A' : Option Addr) (p' d' : Nat), w.cell? ⟨g, c * 4, none⟩ = some (.bool b) ∧ w.cell? ⟨g, c * 4 + 1, none⟩ = some (.slice A p d) ∧ w.cell? ⟨g, c * 4 + 2, none⟩ = some (.bool b') ∧ w.cell? ⟨g, c * 4 + 3, none⟩ = some (.slice A' p' d') ∧
    RatV w X (.agg #[.bool b, .slice A p d, .bool b', .slice A' p' d']) (f c) ∧ ∀ i, w.frozen? ⟨g, i, none⟩ = false := by
  obtain ⟨rs, a, hn, hv⟩ := h
  have hr := List.getElem?_eq_getElem (l := rs) (i := c) (by omega)
  obtain ⟨c0, c1, c2, c3⟩ := a.cells hr
  exact ⟨_, _, _, _, _, _, _, _, c0, c1, c2, c3, hv c _ hr, a.frz⟩
/-- A row with one column stored. -/
theorem Rw.put (hw : Rw w' X g N f) {c : Nat} (hc : c < N) (r : R4) (hr : RatV ((((w'.setCell ⟨g, c * 4, none⟩ (.bool r.b)).setCell ⟨g, c * 4 + 1, none⟩ (.slice r.A r.m r.c)).setCell ⟨g, c * 4 + 2, none⟩ (.bool r.b')).setCell ⟨g, c * 4 + 3, none⟩ (.slice r.A' r.m' r.c')) X r.v (f' c))
    (hf : ∀ i, i ≠ c → f' i = f i) (hX : X g) : Rw ((((w'.setCell ⟨g, c * 4, none⟩ (.bool r.b)).setCell ⟨g, c * 4 + 1, none⟩ (.slice r.A r.m r.c)).setCell ⟨g, c * 4 + 2, none⟩ (.bool r.b')).setCell ⟨g, c * 4 + 3, none⟩ (.slice r.A' r.m' r.c')) X g N f' := by
  obtain ⟨rs, a, hn, hv⟩ := hw
  refine ⟨rs.set c r, a.put (by omega) r, by simpa using hn, ValV.set (f := f) (hv.keep ?_) hr hf⟩
  exact ((((Keep.refl X w').set (.inl hX) _).set (.inl hX) _).set (.inl hX) _).set (.inl hX) _
end
end Go.Proofs.YtpeglenapmkdfaaGreat

/- Lists of one-cell elements that grow by append. -/
namespace Go.Proofs.YtpeglenapmkdfaaGreat
open Go.RowKit

/-- A list of one-cell elements that lies in a block of its own, at or above base. -/
def Own1 (w : World) (base : Nat) (e : TypeId) (v : Value) (us : List Value) : Prop := w.ownsRow base e 1 v us.length us

section
variable {w w' : World} {base : Nat} {v : Value} {us : List Value} {X : Nat → Prop} {e : TypeId}
theorem Own1.nil (w : World) (base : Nat) (e : TypeId) : Own1 w base e (.slice none 0 0) [] := World.ownsRow_nil _ _ _ _
theorem Own1.lt (h : Own1 w base e v us) {g : Nat} (hg : v.ownBlock = some g) : g < w.heap.size ∧ base ≤ g := by
  rcases h.2 with ⟨h', _⟩ | ⟨g', cap', cur, h', hb, hg', _, _, hsz, htake⟩
  · rw [h'] at hg; cases hg
  · rw [h'] at hg; injection hg with hg; subst hg
    exact ⟨(Array.getElem?_eq_some_iff.1 hg').1, hb⟩
theorem Own1.below (h : Own1 w base e v us) (hb : Below w.heap.size w w') : Own1 w' base e v us := by
  refine ⟨h.1, ?_⟩
  rcases h.2 with ⟨h', hn⟩ | ⟨g', cap', cur, h', h3, hg', h1, h2, hsz, htake⟩
  · exact .inl ⟨h', hn⟩
  · exact .inr ⟨g', cap', cur, h', h3, by rw [hb.block g' (Array.getElem?_eq_some_iff.1 hg').1]; exact hg', h1, h2, hsz, htake⟩
theorem Own1.keep (h : Own1 w base e v us) (hb : Keep X w w') (hX : ∀ g, v.ownBlock = some g → ¬ X g) : Own1 w' base e v us := by
  refine ⟨h.1, ?_⟩
  rcases h.2 with ⟨h', hn⟩ | ⟨g', cap', cur, h', h3, hg', h1, h2, hsz, htake⟩
  · exact .inl ⟨h', hn⟩
  · exact .inr ⟨g', cap', cur, h', h3, by rw [hb.block g' (Array.getElem?_eq_some_iff.1 hg').1 (hX g' (by rw [h']; rfl))]; exact hg', h1, h2, hsz, htake⟩
theorem Own1.stay (h : Own1 w base e v us) (hb : ∀ g, v.ownBlock = some g → Stay g w w') : Own1 w' base e v us := by
  refine ⟨h.1, ?_⟩
  rcases h.2 with ⟨h', hn⟩ | ⟨g', cap', cur, h', h3, hg', h1, h2, hsz, htake⟩
  · exact .inl ⟨h', hn⟩
  · exact .inr ⟨g', cap', cur, h', h3, by rw [(hb g' (by rw [h']; rfl) (Array.getElem?_eq_some_iff.1 hg').1).1]; exact hg', h1, h2, hsz, htake⟩
/-- The shape of such a list that is not empty. -/
theorem Own1.op (h : Own1 w base e v us) : (v = .slice none 0 0 ∧ us = []) ∨ ∃ (g cap : Nat) (cur : Array Value), v = .slice (some ⟨g, 0, none⟩) us.length cap ∧ base ≤ g ∧ us.length ≤ cap ∧ Loc w g e cur ∧ ∀ (i : Nat) (u : Value), us[i]? = some u → cur[i]? = some u := by
  have hl := h.1
  rcases h.2 with ⟨h', hn⟩ | ⟨g', cap', cur, h', h3, hg', h1, h2, hsz, htake⟩
  · exact .inl ⟨h', List.length_eq_zero_iff.1 hn⟩
  · refine .inr ⟨g', cap', cur, h', h3, h1, hg', fun i u hu => ?_⟩
    have hi := (List.getElem?_eq_some_iff.1 hu).1
    rw [← htake, List.getElem?_take] at hu
    split at hu
    · simpa using hu
    · cases hu
end

theorem ValL.up {k j : Nat} {w : World} {X : Nat → Prop} {rs : List R4} {f : Nat → Rat} (h : ValL k w X rs f) (hj : k ≤ j) : ValL j w X rs f := fun i r hr => (h i r hr).mono hj
/-- The first d values are canonical. -/
def ValP (d : Nat) (w : World) (X : Nat → Prop) (rs : List R4) (f : Nat → Rat) : Prop := ∀ i r, i < d → rs[i]? = some r → RatV w X r.v (f i)
theorem ValP.keep {d : Nat} {w w' : World} {X : Nat → Prop} {rs : List R4} {f : Nat → Rat} (h : ValP d w X rs f) (hk : Keep X w w') : ValP d w' X rs f := fun i r hi hr => (h i r hi hr).keep hk
theorem ValP.zero (w : World) (X : Nat → Prop) (rs : List R4) (f : Nat → Rat) : ValP 0 w X rs f := fun i r hi _ => absurd hi (Nat.not_lt_zero i)
theorem ValP.set {d : Nat} {w : World} {X : Nat → Prop} {rs : List R4} {f : Nat → Rat} (h : ValP d w X rs f) {r : R4} (hr : RatV w X r.v (f d)) : ValP (d + 1) w X (rs.set d r) f := fun j q hj hq => by
  by_cases hjd : j = d
  · subst hjd
    rw [List.getElem?_set] at hq
    split at hq
    · split at hq
      · injection hq with hq; subst hq; exact hr
      · simp at hq
    · exact absurd rfl ‹_›
  · rw [List.getElem?_set_ne (fun e => hjd e.symm)] at hq
    exact h j q (by omega) hq
theorem ValP.all {d : Nat} {w : World} {X : Nat → Prop} {rs : List R4} {f : Nat → Rat} (h : ValP d w X rs f) (hd : rs.length = d) : ValV w X rs f := fun i r hr => h i r (by rw [← hd]; exact (List.getElem?_eq_some_iff.1 hr).1) hr

/-- One element appended. -/
theorem wp_push1 {o : Oper} {a : Act} {K : Act → World → Prop} {Q : Exit → Act → World → Prop} {t e : TypeId} {z : Value} {bytes : Nat} (w : World) (s x : Operand) (ho : o.op = .call { callee := .builtin .append, args := #[s, x], argTypes := #[t, t] })
    (ht : Tryz.prog.underlying t = some (.slice e)) (hE : (Tryz.prog.info? e).map (fun i => (i.zero, i.size, i.bytes)) = some (some z, 1, bytes)) (hzs : z.cells.size = 1) (hb : bytes ≤ 64)
    (base : Nat) (v : Value) (us : List Value) (hs : a.eval s = v) (hown : Own1 w base e v us) (H : Nat) (u : Value) (hx : a.eval x = .slice (some ⟨H, 0, none⟩) 1 1) (hH : w.heap[H]? = some (.cells #[u] e (0, 0))) (hu : u.oneCell' = true)
    (hn : us.length ≤ 1000) (hbase : base ≤ w.heap.size)
    (h : ∀ g cap w', Own1 w' base e (.slice (some ⟨g, 0, none⟩) (us.length + 1) cap) (us ++ [u]) → w.grownBy w' v.ownBlock → (v.ownBlock = some g ∨ g = w.heap.size) → g < w'.heap.size → K (a.put o.dst (.slice (some ⟨g, 0, none⟩) (us.length + 1) cap)) w') :
    Oper.wp Tryz.prog o a w K Q := by
  obtain ⟨i, hi, hz0, hz1, hz2⟩ := info_parts hE
  refine wp_append_lies w s x t ho base e i z 1 bytes ht hi hz0 hz1 hz2 hzs (by omega) v us.length us hs hown ⟨H, 0, none⟩ 1 1 [u] hx (by simp) (fun j u' hu' => World.news_of_block hH j u' (by simpa using hu')) (by simpa using hu) (by omega) (by unfold maxLen; omega) (by have := Nat.mul_le_mul (show us.length + 1 ≤ 1001 by omega) hb; omega) hbase _ rfl ?_
  intro g cap w' h1 h2 h3 h4
  refine h g cap w' ?_ h2 h3 h4
  unfold Own1
  rw [List.length_append]
  exact h1
theorem step_push1 {ops : Array Oper} {o : Oper} {a : Act} {K : Act → World → Prop} {Q : Exit → Act → World → Prop} {E : Prop} {t e : TypeId} {z : Value} {bytes : Nat} (w : World) (hgd : o.guard = none) (s x : Operand) (ho : o.op = .call { callee := .builtin .append, args := #[s, x], argTypes := #[t, t] })
    (ht : Tryz.prog.underlying t = some (.slice e)) (hE : (Tryz.prog.info? e).map (fun i => (i.zero, i.size, i.bytes)) = some (some z, 1, bytes)) (hzs : z.cells.size = 1) (hb : bytes ≤ 64)
    (base : Nat) (v : Value) (us : List Value) (hs : a.eval s = v) (hown : Own1 w base e v us) (H : Nat) (u : Value) (hx : a.eval x = .slice (some ⟨H, 0, none⟩) 1 1) (hH : w.heap[H]? = some (.cells #[u] e (0, 0))) (hu : u.oneCell' = true)
    (hn : us.length ≤ 1000) (hbase : base ≤ w.heap.size)
    (h : ∀ g cap w', Own1 w' base e (.slice (some ⟨g, 0, none⟩) (us.length + 1) cap) (us ++ [u]) → w.grownBy w' v.ownBlock → (v.ownBlock = some g ∨ g = w.heap.size) → g < w'.heap.size → K (a.put o.dst (.slice (some ⟨g, 0, none⟩) (us.length + 1) cap)) w') :
    if Region.wanted o (yielded ops a.tmps) = true then Oper.wp Tryz.prog o a w K Q else E := by
  have hw : Region.wanted o (yielded ops a.tmps) = true := by simp [Region.wanted, hgd]
  rw [if_pos hw]
  exact wp_push1 w s x ho ht hE hzs hb base v us hs hown H u hx hH hu hn hbase h

theorem info_int1 : (Tryz.prog.info? 3).map (fun i => (i.zero, i.size, i.bytes)) = some (some (.int .i64 0), 1, 8) := by kernel_rfl
theorem info_list1 : (Tryz.prog.info? 23).map (fun i => (i.zero, i.size, i.bytes)) = some (some (.slice none 0 0), 1, 24) := by kernel_rfl
end Go.Proofs.YtpeglenapmkdfaaGreat

/- What the tableau tells: points, Farkas vectors, optima, rays. -/
namespace Go.Proofs.YtpeglenapmkdfaaGreat

/-- The cost of the first phase: the sum of the artificial unknowns. -/
def d1 (m n : Nat) : Nat → Rat := fun c => if n ≤ c ∧ c < n + m then 1 else 0
/-- The cost of the second phase. -/
def d2 (n : Nat) (k : Nat → Rat) : Nat → Rat := fun c => if c < n then k c else 0
/-- The basic solution. -/
def pt (m n : Nat) (S : St) : Nat → Rat := fun j => sm m (fun i => if S.b i = j then S.T i (n + m) else 0)
/-- The direction in which the unknown j grows. -/
def ry (m : Nat) (S : St) (j : Nat) : Nat → Rat := fun c => (if c = j then 1 else 0) - sm m (fun i => if S.b i = c then S.T i j else 0)
/-- The dual vector of the tableau. -/
def du (m n : Nat) (d : Nat → Rat) (S : St) : Nat → Rat := fun l => d (n + l) - rho m d S.T S.b (n + l)
/-- Basic artificial unknowns are 0. -/
def Zer (m n : Nat) (S : St) : Prop := ∀ i, i < m → n ≤ S.b i → S.T i (n + m) = 0
/-- So are the first k rows' coefficients where an artificial unknown is basic. -/
def Non (m n k : Nat) (S : St) : Prop := ∀ i, i < k → i < m → n ≤ S.b i → ∀ j, j < n → S.T i j = 0

section
variable {m n k : Nat} {T0 : Nat → Nat → Rat} {d : Nat → Rat} {S : St}

theorem Good.dual (G : Good m n T0 S.T S.b) {c : Nat} (hc : c ≤ n + m) : rho m d S.T S.b c = d c - sm m (fun l => du m n d S l * T0 l c) := by
  have e : ∀ l, du m n d S l = sm m (fun i => d (S.b i) * S.T i (n + l)) := fun l => by unfold du rho; grind
  have e2 : sm m (fun l => du m n d S l * T0 l c) = sm m (fun i => d (S.b i) * S.T i c) := by
    rw [sm_congr (g := fun l => sm m (fun i => d (S.b i) * (S.T i (n + l) * T0 l c))) (fun l _ => by
      rw [e l, Rat.mul_comm, ← sm_mul]
      exact sm_congr (fun i _ => by grind)), sm_swap]
    exact sm_congr (fun i hi => by rw [sm_mul, ← G.fw i hi c hc])
  rw [e2]; rfl

/-- A sum over the columns below n that are basic. -/
theorem pick (b : Nat → Nat) (x v : Nat → Rat) (n m : Nat) : sm n (fun j => v j * sm m (fun i => if b i = j then x i else 0)) = sm m (fun i => if b i < n then v (b i) * x i else 0) := by
  rw [sm_congr (g := fun j => sm m (fun i => v j * (if b i = j then x i else 0))) (fun j _ => by rw [sm_mul]), sm_swap]
  refine sm_congr (fun i _ => ?_)
  by_cases h : b i < n
  · rw [if_pos h, sm_one _ (b i) h (fun j _ hne => by rw [if_neg (fun e => hne e.symm)]; grind), if_pos rfl]
  · rw [if_neg h]
    exact sm_zero (fun j hj => by rw [if_neg (by omega)]; grind)

theorem pt_nonneg (hF : Feas m n S) (j : Nat) : 0 ≤ pt m n S j := sm_nonneg (fun i hi => by
  by_cases h : S.b i = j
  · rw [if_pos h]; exact hF i hi
  · rw [if_neg h]; exact Rat.le_refl)

theorem pt_solves (G : Good m n T0 S.T S.b) (hZ : Zer m n S) {l : Nat} (hl : l < m) : sm n (fun j => T0 l j * pt m n S j) = T0 l (n + m) := by
  unfold pt
  rw [pick, G.bw l hl (n + m) (Nat.le_refl _)]
  refine sm_congr (fun i hi => ?_)
  by_cases h : S.b i < n
  · rw [if_pos h]
  · rw [if_neg h, hZ i hi (by omega)]; grind

theorem d2_right (k : Nat → Rat) : d2 n k (n + m) = 0 := by unfold d2; rw [if_neg (by omega)]

theorem pt_cost (k : Nat → Rat) : sm n (fun j => k j * pt m n S j) = -rho m (d2 n k) S.T S.b (n + m) := by
  unfold pt rho
  rw [pick, d2_right]
  have : sm m (fun i => d2 n k (S.b i) * S.T i (n + m)) = sm m (fun i => if S.b i < n then k (S.b i) * S.T i (n + m) else 0) := sm_congr (fun i _ => by
    unfold d2
    by_cases h : S.b i < n
    · rw [if_pos h, if_pos h]
    · rw [if_neg h, if_neg h]; grind)
  rw [this]; grind

/-! The first phase. -/
theorem d1_right : d1 m n (n + m) = 0 := by unfold d1; rw [if_neg (by omega)]
theorem d1_nonneg (c : Nat) : 0 ≤ d1 m n c := by unfold d1; split <;> decide
theorem p1_le (hF : Feas m n S) : rho m (d1 m n) S.T S.b (n + m) ≤ 0 := by
  have : 0 ≤ sm m (fun i => d1 m n (S.b i) * S.T i (n + m)) := sm_nonneg (fun i hi => Rat.mul_nonneg (d1_nonneg _) (hF i hi))
  unfold rho
  rw [d1_right]; grind
theorem p1_zero (G : Good m n T0 S.T S.b) (hF : Feas m n S) (h : rho m (d1 m n) S.T S.b (n + m) = 0) : Zer m n S := fun i hi hb => by
  unfold rho at h
  rw [d1_right] at h
  have h2 := sm_zero_all (m := m) (f := fun i => d1 m n (S.b i) * S.T i (n + m)) (fun i hi => Rat.mul_nonneg (d1_nonneg _) (hF i hi)) (by grind) i hi
  have h3 : d1 m n (S.b i) = 1 := by unfold d1; rw [if_pos ⟨hb, G.lt i hi⟩]
  rw [h3] at h2
  grind
/-- The first phase is bounded. -/
theorem p1_bound {j : Nat} (hj : In m n (d1 m n) S j) : ∃ i, i < m ∧ 0 < S.T i j := by
  have h0 : d1 m n j = 0 := by unfold d1; rw [if_neg (by have := hj.1; omega)]
  have h1 := hj.2.1
  unfold rho at h1
  rw [h0] at h1
  obtain ⟨i, hi, hp⟩ := sm_pos (m := m) (f := fun i => d1 m n (S.b i) * S.T i j) (by grind)
  exact ⟨i, hi, pos_of_mul (d1_nonneg _) hp⟩

/-! Between the phases. -/
theorem Zer.at (hZ : Zer m n S) {r j : Nat} (hr : r < m) (h0 : S.T r (n + m) = 0) : Zer m n (S.at r j) ∧ ∀ i, (S.at r j).T i (n + m) = if i = r then 0 else S.T i (n + m) := by
  have e : ∀ i, (S.at r j).T i (n + m) = if i = r then 0 else S.T i (n + m) := fun i => by
    show piv S.T r j i (n + m) = _
    unfold piv
    rw [h0]
    by_cases h : i = r
    · rw [if_pos h, if_pos h]; grind
    · rw [if_neg h, if_neg h]; grind
  refine ⟨fun i hi hb => ?_, e⟩
  rw [e]
  by_cases h : i = r
  · rw [if_pos h]
  · rw [if_neg h]
    refine hZ i hi ?_
    have : (S.at r j).b i = S.b i := by show bup S.b r j i = _; unfold bup; rw [if_neg h]
    rw [this] at hb; exact hb
theorem Feas.deg (hF : Feas m n S) (hZ : Zer m n S) {r j : Nat} (hr : r < m) (h0 : S.T r (n + m) = 0) : Feas m n (S.at r j) := fun i hi => by
  rw [(hZ.at hr h0).2]
  by_cases h : i = r
  · rw [if_pos h]; exact Rat.le_refl
  · rw [if_neg h]; exact hF i hi
theorem Non.at (hN : Non m n k S) {r j : Nat} (hj : j < n) : Non m n k (S.at r j) := fun i hk hi hb c hc => by
  have hir : i ≠ r := fun h => by
    have : (S.at r j).b i = j := by show bup S.b r j i = _; unfold bup; rw [if_pos h]
    omega
  have hb' : (S.at r j).b i = S.b i := by show bup S.b r j i = _; unfold bup; rw [if_neg hir]
  rw [hb'] at hb
  show piv S.T r j i c = 0
  unfold piv
  rw [if_neg hir, hN i hk hi hb c hc, hN i hk hi hb j hj]; grind
theorem Non.succ_at (hN : Non m n k S) {j : Nat} (hj : j < n) : Non m n (k + 1) (S.at k j) := fun i hk hi hb c hc => by
  by_cases h : i = k
  · have : (S.at k j).b i = j := by show bup S.b k j i = _; unfold bup; rw [if_pos h]
    omega
  · exact (hN.at hj) i (by omega) hi hb c hc
theorem Non.succ (hN : Non m n k S) (h : n ≤ S.b k → ∀ j, j < n → S.T k j = 0) : Non m n (k + 1) S := fun i hk hi hb c hc => by
  by_cases he : i = k
  · subst he; exact h hb c hc
  · exact hN i (by omega) hi hb c hc
/-- The second phase keeps both. -/
theorem Zer.bl (hZ : Zer m n S) {r j : Nat} (hN : Non m n m S) (hj : j < n) : Zer m n (S.at r j) := fun i hi hb => by
  have hir : i ≠ r := fun h => by
    have : (S.at r j).b i = j := by show bup S.b r j i = _; unfold bup; rw [if_pos h]
    omega
  have hb' : (S.at r j).b i = S.b i := by show bup S.b r j i = _; unfold bup; rw [if_neg hir]
  rw [hb'] at hb
  show piv S.T r j i (n + m) = 0
  unfold piv
  rw [if_neg hir, hZ i hi hb, hN i hi hi hb j hj]; grind

/-! The ray. -/
theorem ry_sum (G : Good m n T0 S.T S.b) (v : Nat → Rat) {j : Nat} (hj : j < n) : sm n (fun c => v c * ry m S j c) = v j - sm m (fun i => if S.b i < n then v (S.b i) * S.T i j else 0) := by
  unfold ry
  rw [sm_congr (g := fun c => v c * (if c = j then 1 else 0) - v c * sm m (fun i => if S.b i = c then S.T i j else 0)) (fun c _ => by grind), sm_sub, pick,
    sm_one _ j hj (fun i _ hne => by rw [if_neg hne]; grind), if_pos rfl]; grind
theorem ry_solves (G : Good m n T0 S.T S.b) (hN : Non m n m S) {j l : Nat} (hj : j < n) (hl : l < m) : sm n (fun c => T0 l c * ry m S j c) = 0 := by
  rw [ry_sum G _ hj, G.bw l hl j (by omega)]
  rw [sm_congr (g := fun i => if S.b i < n then T0 l (S.b i) * S.T i j else 0) (fun i hi => by
    by_cases h : S.b i < n
    · rw [if_pos h]
    · rw [if_neg h, hN i hi hi (by omega) j hj]; grind)]; grind
theorem ry_cost (G : Good m n T0 S.T S.b) (k : Nat → Rat) {j : Nat} (hj : j < n) : sm n (fun c => k c * ry m S j c) = rho m (d2 n k) S.T S.b j := by
  rw [ry_sum G _ hj]
  unfold rho
  rw [sm_congr (f := fun i => d2 n k (S.b i) * S.T i j) (g := fun i => if S.b i < n then k (S.b i) * S.T i j else 0) (fun i _ => by
    unfold d2
    by_cases h : S.b i < n
    · rw [if_pos h, if_pos h]
    · rw [if_neg h, if_neg h]; grind)]
  unfold d2
  rw [if_pos hj]
theorem ry_nonneg {j : Nat} (hno : ∀ i, i < m → ¬ 0 < S.T i j) (c : Nat) : 0 ≤ ry m S j c := by
  have : 0 ≤ sm m (fun i => -(if S.b i = c then S.T i j else 0)) := sm_nonneg (fun i hi => by
    have := hno i hi
    by_cases h : S.b i = c
    · rw [if_pos h]; grind
    · rw [if_neg h]; decide)
  rw [sm_neg] at this
  unfold ry
  have h2 : (0 : Rat) ≤ if c = j then 1 else 0 := by split <;> decide
  grind
end
end Go.Proofs.YtpeglenapmkdfaaGreat

/- The entries of every tableau are small: Siegel's pigeonhole. -/
namespace Go.Proofs.YtpeglenapmkdfaaGreat

def smI : Nat → (Nat → Int) → Int
  | 0, _ => 0
  | m + 1, f => smI m f + f m
theorem smI_cast (f : Nat → Int) : ∀ m, ((smI m f : Int) : Rat) = sm m (fun i => ((f i : Int) : Rat))
  | 0 => rfl
  | m + 1 => by unfold smI; rw [sm_succ, Rat.intCast_add, smI_cast f m]
theorem smI_sub (f g : Nat → Int) : ∀ m, smI m (fun i => f i - g i) = smI m f - smI m g
  | 0 => rfl
  | m + 1 => by unfold smI; rw [smI_sub f g m]; dsimp only; omega
theorem smI_congr {f g : Nat → Int} : ∀ {m : Nat}, (∀ i, i < m → f i = g i) → smI m f = smI m g
  | 0, _ => rfl
  | m + 1, h => by unfold smI; rw [smI_congr (m := m) (fun i hi => h i (by omega)), h m (by omega)]
theorem smI_abs (f : Nat → Int) (A : Nat) : ∀ m, (∀ i, i < m → (f i).natAbs ≤ A) → (smI m f).natAbs ≤ m * A
  | 0, _ => by simp [smI]
  | m + 1, h => by
    unfold smI
    have h1 := smI_abs f A m (fun i hi => h i (by omega))
    have h2 := h m (by omega)
    rw [Nat.add_mul]
    omega

/-- A number's digits to the base B. -/
theorem digits_inj (B : Nat) (hB : 0 < B) : ∀ (k s t : Nat), s < B ^ k → t < B ^ k → (∀ i, i < k → s / B ^ i % B = t / B ^ i % B) → s = t
  | 0, s, t, hs, ht, _ => by simp at hs ht; omega
  | k + 1, s, t, hs, ht, h => by
    have h0 := h 0 (by omega)
    simp at h0
    have hd : s / B = t / B := digits_inj B hB k (s / B) (t / B) (by rw [Nat.pow_succ, Nat.mul_comm] at hs; exact Nat.div_lt_of_lt_mul hs) (by rw [Nat.pow_succ, Nat.mul_comm] at ht; exact Nat.div_lt_of_lt_mul ht) (fun i hi => by
      have := h (i + 1) (by omega)
      rwa [Nat.pow_succ, Nat.mul_comm, ← Nat.div_div_eq_div_mul, ← Nat.div_div_eq_div_mul] at this)
    have e1 := Nat.div_add_mod s B
    have e2 := Nat.div_add_mod t B
    rw [hd, h0] at e1
    omega

theorem siegel (m a : Nat) (ha : 0 < a) (M : Nat → Nat → Int) (hM : ∀ l, l < m → ∀ i, i < m + 1 → (M l i).natAbs ≤ a) :
    ∃ z : Nat → Int, (∃ i, i < m + 1 ∧ z i ≠ 0) ∧ (∀ i, i < m + 1 → (z i).natAbs ≤ (2 * ((m + 1) * a)) ^ m) ∧ ∀ l, l < m → smI (m + 1) (fun i => M l i * z i) = 0 := by
  obtain ⟨Q, hQ⟩ : ∃ Q, (m + 1) * a = Q := ⟨_, rfl⟩
  have hQ0 : 0 < Q := by rw [← hQ]; exact Nat.mul_pos (by omega) ha
  obtain ⟨X, hX⟩ : ∃ X, (2 * Q) ^ m = X := ⟨_, rfl⟩
  rw [hQ, hX]
  let x : Nat → Nat → Nat := fun t i => t / (X + 1) ^ i % (X + 1)
  have hx : ∀ t i, x t i ≤ X := fun t i => by have := Nat.mod_lt (t / (X + 1) ^ i) (show 0 < X + 1 by omega); show t / (X + 1) ^ i % (X + 1) ≤ X; omega
  let v : Nat → Nat → Int := fun t l => smI (m + 1) (fun i => M l i * (x t i : Int))
  have hv : ∀ t l, l < m → (v t l).natAbs ≤ Q * X := fun t l hl => by
    have := smI_abs (fun i => M l i * (x t i : Int)) (a * X) (m + 1) (fun i hi => by
      rw [Int.natAbs_mul, Int.natAbs_natCast]
      exact Nat.mul_le_mul (hM l hl i hi) (hx t i))
    rw [← Nat.mul_assoc, hQ] at this
    exact this
  let code : Nat → Nat := fun t => enc (2 * (Q * X) + 1) (fun l => (v t l + (Q * X : Nat)).toNat) m
  have hd : ∀ t l, l < m → (v t l + (Q * X : Nat)).toNat < 2 * (Q * X) + 1 := fun t l hl => by have := hv t l hl; omega
  have hN : (2 * (Q * X) + 1) ^ m < (X + 1) ^ (m + 1) := by
    have h1 : (2 * (Q * X) + 1) ^ m ≤ (2 * Q * (X + 1)) ^ m := Nat.pow_le_pow_left (by rw [Nat.mul_add, Nat.mul_assoc]; omega) m
    rw [Nat.mul_pow, hX] at h1
    have h2 : X * (X + 1) ^ m < (X + 1) * (X + 1) ^ m := Nat.mul_lt_mul_of_pos_right (by omega) (Nat.pow_pos (by omega))
    rw [Nat.pow_succ, Nat.mul_comm ((X + 1) ^ m)]
    omega
  obtain ⟨s, t, hst, ht, he⟩ := pig _ code (fun t _ => enc_lt _ _ m (hd t))
  have hval := enc_inj _ _ _ m (hd s) (hd t) he
  refine ⟨fun i => (x s i : Int) - (x t i : Int), ?_, fun i _ => by have := hx s i; have := hx t i; show ((x s i : Int) - (x t i : Int)).natAbs ≤ X; omega, fun l hl => ?_⟩
  · refine Classical.byContradiction fun hno => ?_
    have := digits_inj (X + 1) (by omega) (m + 1) s t (by omega) (by omega) (fun i hi => by
      by_cases h : (x s i : Int) - (x t i : Int) = 0
      · have : x s i = x t i := by omega
        exact this
      · exact absurd ⟨i, hi, h⟩ hno)
    omega
  · have h1 := hval l hl
    have h2 := hv s l hl
    have h3 := hv t l hl
    have h4 : v s l = v t l := by omega
    rw [smI_congr (g := fun i => M l i * (x s i : Int) - M l i * (x t i : Int)) (fun i _ => by rw [Int.mul_sub]), smI_sub]
    show v s l - v t l = 0
    omega

/-- The start's rows, each times a positive integer, are integers of at most a. -/
def Whole (m n a : Nat) (T0 : Nat → Nat → Rat) : Prop := ∃ (D : Nat → Nat) (I : Nat → Nat → Int), ∀ l, l < m → 0 < D l ∧ ∀ c, c ≤ n + m → (I l c).natAbs ≤ a ∧ ((D l : Nat) : Rat) * T0 l c = ((I l c : Int) : Rat)

theorem Good.size {m n a k : Nat} {T0 T : Nat → Nat → Rat} {b : Nat → Nat} (G : Good m n T0 T b) (ha : 0 < a) (hW : Whole m n a T0) (hk : (2 * ((m + 1) * a)) ^ m < 4294967296 ^ k) (hk1 : 1 ≤ k) :
    ∀ i, i < m → ∀ c, c ≤ n + m → Rsz k (T i c) := fun i hi c hc => by
  obtain ⟨D, I, hDI⟩ := hW
  obtain ⟨z, ⟨i0, hi0, hz0⟩, hz, hs⟩ := siegel m a ha (fun l i => I l (if i = m then c else b i)) (fun l hl i hi => by
    by_cases him : i = m
    · rw [if_pos him]; exact ((hDI l hl).2 c hc).1
    · rw [if_neg him]; exact ((hDI l hl).2 (b i) (by have := G.lt i (by omega); omega)).1)
  have h0 : ∀ l, l < m → sm m (fun i => T0 l (b i) * (z i : Rat)) + T0 l c * (z m : Rat) = 0 := fun l hl => by
    have h1 := congrArg (fun q : Int => (q : Rat)) (hs l hl)
    rw [smI_cast, sm_succ] at h1
    have hD := (hDI l hl).1
    have e : sm m (fun i => ((I l (if i = m then c else b i) * z i : Int) : Rat)) = (D l : Rat) * sm m (fun i => T0 l (b i) * (z i : Rat)) := by
      rw [← sm_mul]
      refine sm_congr (fun i hi => ?_)
      rw [if_neg (by omega), Rat.intCast_mul, ← ((hDI l hl).2 (b i) (by have := G.lt i hi; omega)).2]; grind
    rw [e, if_pos rfl, Rat.intCast_mul, ← ((hDI l hl).2 c hc).2] at h1
    have hD2 : (D l : Rat) ≠ 0 := by
      intro h
      have : ((D l : Nat) : Rat) = ((0 : Nat) : Rat) := h
      rw [Rat.natCast_inj] at this
      omega
    have h3 : (D l : Rat) * (sm m (fun i => T0 l (b i) * (z i : Rat)) + T0 l c * (z m : Rat)) = 0 := by
      have : ((0 : Int) : Rat) = 0 := rfl
      grind
    rcases Rat.mul_eq_zero.1 h3 with h | h
    · exact absurd h hD2
    · exact h
  have hrow : ∀ k, k < m → (z k : Rat) + T k c * (z m : Rat) = 0 := fun k hk => by
    have e1 : sm m (fun l => T k (n + l) * (sm m (fun i => T0 l (b i) * (z i : Rat)) + T0 l c * (z m : Rat))) = 0 := sm_zero (fun l hl => by rw [h0 l hl]; grind)
    rw [sm_congr (g := fun l => sm m (fun i => T k (n + l) * (T0 l (b i) * (z i : Rat))) + (z m : Rat) * (T k (n + l) * T0 l c)) (fun l _ => by rw [sm_mul]; grind), sm_add, sm_mul, ← G.fw k hk c hc, sm_swap,
      sm_congr (f := fun l => sm m fun i => T k (n + i) * (T0 i (b l) * (z l : Rat))) (g := fun i => T k (b i) * (z i : Rat)) (fun i hi => by
        rw [G.fw k hk (b i) (by have := G.lt i hi; omega), sm_congr (g := fun l => (z i : Rat) * (T k (n + l) * T0 l (b i))) (fun l _ => by grind), sm_mul]; grind),
      sm_one _ k hk (fun i hi hne => by rw [G.id i hi k hk, if_neg (fun e => hne e.symm)]; grind), G.id k hk k hk, if_pos rfl] at e1
    grind
  have hzm : z m ≠ 0 := fun h => by
    have hz' : (z m : Rat) = 0 := by rw [h]; rfl
    by_cases him : i0 = m
    · rw [him] at hz0; exact hz0 h
    · have := hrow i0 (by omega)
      rw [hz'] at this
      have h2 : ((z i0 : Int) : Rat) = ((0 : Int) : Rat) := by
        have : ((0 : Int) : Rat) = 0 := rfl
        grind
      rw [Rat.intCast_inj] at h2
      exact hz0 h2
  have hq : T i c = Rat.divInt (-z i) (z m) := by
    have h1 := hrow i hi
    have h2 : (z m : Rat) ≠ 0 := fun h => hzm (by
      have : ((z m : Int) : Rat) = ((0 : Int) : Rat) := h
      rwa [Rat.intCast_inj] at this)
    rw [Rat.divInt_eq_div, Rat.intCast_neg]
    grind
  rw [hq]
  exact divInt_Rsz hk1 (dig_len_le (by rw [Int.natAbs_neg]; exact Nat.lt_of_le_of_lt (hz i (by omega)) hk)) (dig_len_le (Nat.lt_of_le_of_lt (hz m (by omega)) hk))
end Go.Proofs.YtpeglenapmkdfaaGreat

