/- Contracts of the functions that the statements reach, part 20. -/
import Derived.Test.YtbdcjhoedhhabaaGreatRows
import Derived.Test.YtbdcjhoedhhabaaGreatE3
set_option linter.unusedSimpArgs false
set_option linter.unusedVariables false

/- Cuts, plainly: what can be reached; a search; flows and loads. -/
namespace Go.Proofs.YtbdcjhoedhhabaaGreat

/-- A graph. -/
def GraphOk (n : Int) (es : List (Int × Int)) : Prop := (0 ≤ n ∧ n ≤ 4096) ∧ es.length ≤ 1048576 ∧ ∀ e ∈ es, ((0 ≤ e.1 ∧ e.1 < n) ∧ 0 ≤ e.2 ∧ e.2 < n)
/-- Nodes of a graph. -/
def NodesOk (n : Int) (l : List Int) : Prop := ∀ v ∈ l, 0 ≤ v ∧ v < n

/-- What can be reached from a list of nodes past a cut. -/
inductive Rch (es : List (Int × Int)) (cut s : List Int) : Int → Prop
 | start {v : Int} : v ∈ s → v ∉ cut → Rch es cut s v
 | step {u v : Int} : Rch es cut s u → (u, v) ∈ es → v ∉ cut → Rch es cut s v
/-- A cut parts two lists of nodes. -/
def Sep (es : List (Int × Int)) (s t cut : List Int) : Prop := ∀ v ∈ t, ¬ Rch es cut s v

/-- A node is visited. -/
def vis (cut D : List Int) (v : Int) : List Int := if v ∈ D ∨ v ∈ cut then D else D ++ [v]
theorem vis_old {cut D : List Int} {v x : Int} (h : x ∈ D) : x ∈ vis cut D v := by
 unfold vis
 split
 ·exact h
 ·exact List.mem_append_left _ h
theorem vis_self (cut D : List Int) (v : Int) : v ∈ vis cut D v ∨ v ∈ cut := by
 unfold vis
 split
 ·assumption
 ·exact .inl (by simp)
theorem vis_new {cut D : List Int} {v x : Int} (h : x ∈ vis cut D v) : x ∈ D ∨ (x = v ∧ v ∉ cut) := by
 unfold vis at h
 split at h
 ·exact .inl h
 ·rename_i hn
  rcases List.mem_append.1 h with h | h
  ·exact .inl h
  ·exact .inr ⟨by simpa using h, fun hc => hn (.inr hc)⟩
theorem vis_nodup {cut D : List Int} (v : Int) (h : D.Nodup) : (vis cut D v).Nodup := by
 unfold vis
 split
 ·exact h
 ·rename_i hn
  rw [List.nodup_append]
  refine ⟨h, by simp, fun a ha b hb e => ?_⟩
  have hb' : b = v := by simpa using hb
  exact hn (.inl (by rw [← hb', ← e]; exact ha))
theorem vis_get {cut D : List Int} {v x : Int} {i : Nat} (h : D[i]? = some x) : (vis cut D v)[i]? = some x := by
 unfold vis
 split
 ·exact h
 ·rw [List.getElem?_append_left (List.getElem?_eq_some_iff.1 h).1]
  exact h
theorem vis_len (cut D : List Int) (v : Int) : D.length ≤ (vis cut D v).length := by
 unfold vis
 split
 ·exact Nat.le_refl _
 ·simp

/-- The state of a search. -/
structure Srch (es : List (Int × Int)) (cut s D : List Int) (n : Int) : Prop where
 rch : ∀ v ∈ D, Rch es cut s v
 rng : NodesOk n D
 nd : D.Nodup
theorem Srch.start (es : List (Int × Int)) (cut s : List Int) (n : Int) : Srch es cut s [] n := ⟨fun v h => by simp at h, fun v h => by simp at h, List.nodup_nil⟩
theorem Srch.vis {es : List (Int × Int)} {cut s D : List Int} {n v : Int} (h : Srch es cut s D n) (hv : v ∉ cut → Rch es cut s v) (hr : 0 ≤ v ∧ v < n) : Srch es cut s (vis cut D v) n :=
 ⟨fun x hx => by
  rcases vis_new hx with hx | ⟨rfl, hx⟩
  ·exact h.rch x hx
  ·exact hv hx, fun x hx => by
  rcases vis_new hx with hx | ⟨rfl, hx⟩
  ·exact h.rng x hx
  ·exact hr, vis_nodup v h.nd⟩
/-- Distinct numbers below n are at most n. -/
theorem nodup_len : ∀ (n : Nat) (D : List Int), D.Nodup → NodesOk n D → D.length ≤ n
 | 0, D, _, h => by
   cases D with
   | nil => exact Nat.le_refl _
   | cons v D =>
     have := h v (by simp)
     omega
 | n + 1, D, hd, h => by
   by_cases hm : (n : Int) ∈ D
   ·have h1 := nodup_len n (D.erase (n : Int)) (hd.erase _) (fun v hv => by
     have h2 := (List.Nodup.mem_erase_iff hd).1 hv
     have h3 := h v h2.2
     have h4 := h2.1
     omega)
    rw [List.length_erase_of_mem hm] at h1
    omega
   ·have h1 := nodup_len n D hd (fun v hv => by
     have h3 := h v hv
     have : v ≠ (n : Int) := fun e => hm (e ▸ hv)
     omega)
    omega
theorem Srch.len {es : List (Int × Int)} {cut s D : List Int} {n : Nat} (h : Srch es cut s D n) : D.length ≤ n := nodup_len n D h.nd h.rng
/-- All that the first c nodes lead to is visited. -/
def Done (es : List (Int × Int)) (cut D : List Int) (c : Nat) : Prop := ∀ (i : Nat) (u x : Int), i < c → D[i]? = some u → (u, x) ∈ es → x ∈ D ∨ x ∈ cut
theorem Done.vis {es : List (Int × Int)} {cut D : List Int} {c : Nat} (h : Done es cut D c) (hc : c ≤ D.length) (v : Int) : Done es cut (vis cut D v) c := fun i u x hi hu hx => by
 have hlt : i < D.length := by omega
 have hg : D[i]? = some D[i] := List.getElem?_eq_getElem hlt
 rw [vis_get hg] at hu
 injection hu with hu
 rcases h i u x hi (by rw [hg, hu]) hx with h | h
 ·exact .inl (vis_old h)
 ·exact .inr h
/-- The first c nodes of a list are visited or cut. -/
def Seen (cut D l : List Int) (c : Nat) : Prop := ∀ (i : Nat) (x : Int), i < c → l[i]? = some x → x ∈ D ∨ x ∈ cut
theorem Seen.vis {cut D l : List Int} {c : Nat} (h : Seen cut D l c) (v : Int) : Seen cut (vis cut D v) l c := fun i x hi hx => by
 rcases h i x hi hx with h | h
 ·exact .inl (vis_old h)
 ·exact .inr h
theorem Seen.next {cut D l : List Int} {c : Nat} (h : Seen cut D l c) {v : Int} (hv : l[c]? = some v) : Seen cut (Go.Proofs.YtbdcjhoedhhabaaGreat.vis cut D v) l (c + 1) := fun i x hi hx => by
 by_cases e : i < c
 ·exact h.vis v i x e hx
 ·obtain rfl : i = c := by omega
  rw [hv] at hx
  injection hx with hx
  subst hx
  exact vis_self cut D v
theorem Seen.all {cut D l : List Int} {c : Nat} (h : Seen cut D l c) (hc : l.length ≤ c) : ∀ x ∈ l, x ∈ D ∨ x ∈ cut := fun x hx => by
 obtain ⟨i, hi, rfl⟩ := List.getElem_of_mem hx
 exact h i _ (by omega) (List.getElem?_eq_getElem hi)
/-- One node more is done. -/
theorem Done.next {es : List (Int × Int)} {cut D l : List Int} {c : Nat} (h : Done es cut D c) {u : Int} (hu : D[c]? = some u) (hl : ∀ x, (u, x) ∈ es → x ∈ l) (hs : ∀ x ∈ l, x ∈ D ∨ x ∈ cut) : Done es cut D (c + 1) := fun i y x hi hy hx => by
 by_cases e : i < c
 ·exact h i y x e hy hx
 ·obtain rfl : i = c := by omega
  rw [hu] at hy
  injection hy with hy
  subst hy
  exact hs x (hl x hx)
/-- At the end the search has found all. -/
theorem Srch.found {es : List (Int × Int)} {cut s D : List Int} {n : Int} (h : Srch es cut s D n) (hd : Done es cut D D.length) (hs : ∀ x ∈ s, x ∈ D ∨ x ∈ cut) (v : Int) : v ∈ D ↔ Rch es cut s v := by
 refine ⟨h.rch v, fun hv => ?_⟩
 induction hv with
 | start h1 h2 =>
   rcases hs _ h1 with h3 | h3
   ·exact h3
   ·exact absurd h3 h2
 | step _ h1 h2 ih =>
   obtain ⟨i, hi, e⟩ := List.getElem_of_mem ih
   rcases hd i _ _ hi (by rw [List.getElem?_eq_getElem hi, e]) h1 with h3 | h3
   ·exact h3
   ·exact absurd h3 h2

/-- A path. -/
def PathOk (es : List (Int × Int)) (s t p : List Int) : Prop :=
 (∃ a, p[0]? = some a ∧ a ∈ s) ∧ (∃ b, p[p.length - 1]? = some b ∧ b ∈ t) ∧ p.Nodup ∧ ∀ (i : Nat) (u v : Int), p[i]? = some u → p[i + 1]? = some v → (u, v) ∈ es
theorem PathOk.pos {es : List (Int × Int)} {s t p : List Int} (h : PathOk es s t p) : 0 < p.length := by
 obtain ⟨⟨a, ha, -⟩, -⟩ := h
 exact (List.getElem?_eq_some_iff.1 ha).1
theorem PathOk.rng {es : List (Int × Int)} {s t p : List Int} {n : Int} (h : PathOk es s t p) (hs : NodesOk n s) (hg : GraphOk n es) : NodesOk n p := by
 obtain ⟨⟨a, ha, has⟩, -, -, he⟩ := h
 have key : ∀ (i : Nat) (v : Int), p[i]? = some v → 0 ≤ v ∧ v < n := fun i => by
  induction i with
  | zero =>
    intro v hv
    rw [ha] at hv
    injection hv with hv
    subst hv
    exact hs _ has
  | succ i ih =>
    intro v hv
    have hi := (List.getElem?_eq_some_iff.1 hv).1
    exact (hg.2.2 _ (he i _ v (List.getElem?_eq_getElem (by omega)) hv)).2
 intro v hv
 obtain ⟨i, hi, rfl⟩ := List.getElem_of_mem hv
 exact key i _ (List.getElem?_eq_getElem hi)
/-- Each path goes through the cut. -/
theorem PathOk.cut {es : List (Int × Int)} {s t p cut : List Int} (h : PathOk es s t p) (hs : Sep es s t cut) : ∃ v ∈ p, v ∈ cut := by
 obtain ⟨⟨a, ha, has⟩, ⟨b, hb, hbt⟩, -, he⟩ := h
 refine Classical.byContradiction fun hn => ?_
 have hno : ∀ v ∈ p, v ∉ cut := fun v hv hc => hn ⟨v, hv, hc⟩
 have key : ∀ (i : Nat) (v : Int), p[i]? = some v → Rch es cut s v := fun i => by
  induction i with
  | zero =>
    intro v hv
    rw [ha] at hv
    injection hv with hv
    subst hv
    exact .start has (hno _ (List.mem_of_getElem? ha))
  | succ i ih =>
    intro v hv
    have hi := (List.getElem?_eq_some_iff.1 hv).1
    have hg := List.getElem?_eq_getElem (l := p) (i := i) (by omega)
    exact .step (ih _ hg) (he i _ v hg hv) (hno _ (List.mem_of_getElem? hv))
 exact hs b hbt (key _ b hb)

/-- The n-th number of a list. -/
def nth (l : List Int) (v : Int) : Int := (l[v.toNat]?).getD 0
/-- The loads behind a node of a flow. -/
def ldS (ws : List Int) (a v : Int) (ld : List Int) : Option (List Int) := if nth ws v < 0 then some ld else if nth ws v - nth ld v < a then none else some (ld.set v.toNat (nth ld v + a))
/-- The loads behind the first nodes of a flow. -/
def ldT (ws : List Int) (a : Int) (p ld : List Int) : Nat → Option (List Int)
 | 0 => some ld
 | c + 1 => (ldT ws a p ld c).bind (ldS ws a ((p[c]?).getD 0))
/-- Loads. -/
def LdOk (n : Nat) (ws ld : List Int) : Prop := ld.length = n ∧ ∀ (i : Nat) (x : Int), ld[i]? = some x → 0 ≤ x ∧ x ≤ 1048576
/-- Weights. -/
def WsOk (n : Nat) (ws : List Int) : Prop := ws.length = n ∧ ∀ x ∈ ws, x ≤ 1048576
theorem WsOk.le {n : Nat} {ws : List Int} (h : WsOk n ws) (v : Int) : nth ws v ≤ 1048576 := by
 unfold nth
 cases hq : ws[v.toNat]? with
 | none => simp
 | some x => exact h.2 x (List.mem_of_getElem? hq)
theorem LdOk.nth {n : Nat} {ws ld : List Int} (h : LdOk n ws ld) (v : Int) : 0 ≤ nth ld v ∧ Go.Proofs.YtbdcjhoedhhabaaGreat.nth ld v ≤ 1048576 := by
 unfold Go.Proofs.YtbdcjhoedhhabaaGreat.nth
 cases hq : ld[v.toNat]? with
 | none => simp
 | some x => exact h.2 _ x hq
theorem ldS_ok {n : Nat} {ws ld ld' : List Int} {a v : Int} (hw : WsOk n ws) (ha : 1 ≤ a) (h : LdOk n ws ld) (he : ldS ws a v ld = some ld') : LdOk n ws ld' := by
 unfold ldS at he
 split at he
 ·injection he with he; subst he; exact h
 ·split at he
  ·cases he
  ·injection he with he
   subst he
   refine ⟨by rw [List.length_set]; exact h.1, fun i x hx => ?_⟩
   have := hw.le v
   have := h.nth v
   by_cases e : v.toNat = i
   ·subst e
    have hlt := (List.getElem?_eq_some_iff.1 hx).1
    rw [List.length_set] at hlt
    rw [List.getElem?_set_self hlt] at hx
    injection hx with hx
    omega
   ·rw [List.getElem?_set_ne e] at hx
    exact h.2 i x hx
theorem ldT_ok {n : Nat} {ws p ld : List Int} {a : Int} (hw : WsOk n ws) (ha : 1 ≤ a) (h : LdOk n ws ld) : ∀ (c : Nat) (ld' : List Int), ldT ws a p ld c = some ld' → LdOk n ws ld'
 | 0, ld', he => by
   have he : some ld = some ld' := he
   injection he with he
   subst he
   exact h
 | c + 1, ld', he => by
   have he : (ldT ws a p ld c).bind (ldS ws a ((p[c]?).getD 0)) = some ld' := he
   rw [Option.bind_eq_some_iff] at he
   obtain ⟨l, h1, h2⟩ := he
   exact ldS_ok hw ha (ldT_ok hw ha h c l h1) h2
/-- A prefix of a flow fails: so does the flow. -/
theorem ldT_none {ws p ld : List Int} {a : Int} {c : Nat} (h : ldT ws a p ld c = none) : ∀ (k : Nat), ldT ws a p ld (c + k) = none
 | 0 => h
 | k + 1 => by
   show (ldT ws a p ld (c + k)).bind _ = none
   rw [ldT_none h k]
   rfl
/-- What a flow sends is no more than any weight on its path. -/
theorem ldT_le {n : Nat} {ws p ld ld' : List Int} {a : Int} (hw : WsOk n ws) (ha : 1 ≤ a) (h : LdOk n ws ld) (he : ldT ws a p ld p.length = some ld') {v : Int} (hv : v ∈ p) (h0 : 0 ≤ nth ws v) : a ≤ 1048576 := by
 obtain ⟨i, hi, rfl⟩ := List.getElem_of_mem hv
 cases hq : ldT ws a p ld (i + 1) with
 | none =>
   have := ldT_none hq (p.length - (i + 1))
   rw [show i + 1 + (p.length - (i + 1)) = p.length by omega, he] at this
   cases this
 | some l =>
   have hq : (ldT ws a p ld i).bind (ldS ws a ((p[i]?).getD 0)) = some l := hq
   rw [Option.bind_eq_some_iff] at hq
   obtain ⟨l0, h1, h2⟩ := hq
   have h3 := (ldT_ok hw ha h i l0 h1).nth p[i]
   have h4 := hw.le p[i]
   rw [List.getElem?_eq_getElem hi, Option.getD_some] at h2
   unfold ldS at h2
   rw [if_neg (by omega)] at h2
   split at h2
   ·cases h2
   ·omega

/-- A flow that is right, and the loads behind it. -/
def FlowOk (es : List (Int × Int)) (ws s t : List Int) (f : List Int × Int) (ld ld' : List Int) : Prop := 1 ≤ f.2 ∧ PathOk es s t f.1 ∧ ldT ws f.2 f.1 ld f.1.length = some ld'
/-- The loads behind the first flows. -/
def FlowsTo (es : List (Int × Int)) (ws s t : List Int) (fs : List (List Int × Int)) (n : Nat) : Nat → List Int → Prop
 | 0, ld => ld = List.replicate n 0
 | c + 1, ld => ∃ ld0 f, FlowsTo es ws s t fs n c ld0 ∧ fs[c]? = some f ∧ FlowOk es ws s t f ld0 ld
/-- What the first flows send. -/
def sent (fs : List (List Int × Int)) : Nat → Int
 | 0 => 0
 | c + 1 => sent fs c + ((fs[c]?).getD ([], 0)).2
/-- What the first nodes of a cut weigh. -/
def wgt (ws cut : List Int) : Nat → Int
 | 0 => 0
 | c + 1 => wgt ws cut c + nth ws ((cut[c]?).getD 0)
/-- The first nodes of a cut are right. -/
def CutTo (ws cut : List Int) (n : Int) (c : Nat) : Prop := ∀ (i : Nat) (v : Int), i < c → cut[i]? = some v → (0 ≤ v ∧ v < n) ∧ 0 ≤ nth ws v ∧ ∀ (j : Nat) (u : Int), i = j + 1 → cut[j]? = some u → u < v
theorem FlowsTo.ok {es : List (Int × Int)} {ws s t : List Int} {fs : List (List Int × Int)} {n : Nat} (hw : WsOk n ws) : ∀ {c : Nat} {ld : List Int}, FlowsTo es ws s t fs n c ld → LdOk n ws ld
 | 0, ld, h => by
   have h : ld = List.replicate n 0 := h
   subst h
   exact ⟨by simp, fun i x hx => by
    have := List.eq_of_mem_replicate (List.mem_of_getElem? hx)
    omega⟩
 | c + 1, ld, h => by
   obtain ⟨ld0, f, h1, -, h2, -, h3⟩ := h
   exact ldT_ok hw h2 (FlowsTo.ok hw h1) _ _ h3
theorem FlowsTo.uniq {es : List (Int × Int)} {ws s t : List Int} {fs : List (List Int × Int)} {n : Nat} : ∀ {c : Nat} {ld ld' : List Int}, FlowsTo es ws s t fs n c ld → FlowsTo es ws s t fs n c ld' → ld = ld'
 | 0, ld, ld', h, h' => by
   have h : ld = List.replicate n 0 := h
   have h' : ld' = List.replicate n 0 := h'
   rw [h, h']
 | c + 1, ld, ld', h, h' => by
   obtain ⟨ld0, f, h1, h2, -, -, h3⟩ := h
   obtain ⟨ld1, f', h1', h2', -, -, h3'⟩ := h'
   obtain rfl := FlowsTo.uniq h1 h1'
   rw [h2] at h2'
   injection h2' with h2'
   subst h2'
   rw [h3] at h3'
   injection h3'
theorem FlowsTo.down {es : List (Int × Int)} {ws s t : List Int} {fs : List (List Int × Int)} {n : Nat} : ∀ {c : Nat} (k : Nat) {ld : List Int}, FlowsTo es ws s t fs n (c + k) ld → ∃ ld0, FlowsTo es ws s t fs n c ld0
 | _, 0, ld, h => ⟨ld, h⟩
 | c, k + 1, ld, h => by
   obtain ⟨ld0, f, h1, -⟩ := h
   exact FlowsTo.down k h1
theorem FlowsTo.pos {es : List (Int × Int)} {ws s t : List Int} {fs : List (List Int × Int)} {n : Nat} : ∀ {c : Nat} {ld : List Int}, FlowsTo es ws s t fs n c ld → ∀ (d : Nat), d ≤ c → sent fs d ≤ sent fs c
 | 0, ld, h, d, hd => by
   obtain rfl : d = 0 := by omega
   exact Int.le_refl _
 | c + 1, ld, h, d, hd => by
   obtain ⟨ld0, f, h1, h2, h3, -⟩ := h
   have h4 : sent fs (c + 1) = sent fs c + f.2 := by
    show sent fs c + _ = _
    rw [h2]; rfl
   by_cases e : d = c + 1
   ·subst e; exact Int.le_refl _
   ·have := FlowsTo.pos h1 d (by omega)
    omega
/-- What all flows past a cut send. -/
theorem FlowsTo.sent {es : List (Int × Int)} {ws s t cut : List Int} {fs : List (List Int × Int)} {n : Nat} (hw : WsOk n ws) (hs : Sep es s t cut) (hc : ∀ v ∈ cut, 0 ≤ nth ws v) : ∀ {c : Nat} {ld : List Int}, FlowsTo es ws s t fs n c ld → 0 ≤ sent fs c ∧ Go.Proofs.YtbdcjhoedhhabaaGreat.sent fs c ≤ (c : Int) * 1048576
 | 0, ld, h => ⟨Int.le_refl _, Int.le_refl _⟩
 | c + 1, ld, h => by
   obtain ⟨ld0, f, h1, h2, h3, h4, h5⟩ := h
   have h6 : Go.Proofs.YtbdcjhoedhhabaaGreat.sent fs (c + 1) = Go.Proofs.YtbdcjhoedhhabaaGreat.sent fs c + f.2 := by
    show Go.Proofs.YtbdcjhoedhhabaaGreat.sent fs c + _ = _
    rw [h2]; rfl
   have h7 := FlowsTo.sent hw hs hc h1
   obtain ⟨v, hv, hvc⟩ := h4.cut hs
   have h8 := ldT_le hw h3 (FlowsTo.ok hw h1) h5 hv (hc v hvc)
   rw [h6]
   omega
theorem wgt_le {n : Nat} {ws cut : List Int} {m : Int} (hw : WsOk n ws) : ∀ {c : Nat}, CutTo ws cut m c → c ≤ cut.length → 0 ≤ wgt ws cut c ∧ wgt ws cut c ≤ (c : Int) * 1048576
 | 0, _, _ => ⟨Int.le_refl _, Int.le_refl _⟩
 | c + 1, h, hl => by
   have h1 := wgt_le hw (c := c) (fun i v hi hv => h i v (by omega) hv) (by omega)
   have hg := List.getElem?_eq_getElem (l := cut) (i := c) (by omega)
   have h2 := (h c _ (by omega) hg).2.1
   have h3 := hw.le cut[c]
   have h4 : wgt ws cut (c + 1) = wgt ws cut c + nth ws cut[c] := by
    show wgt ws cut c + _ = _
    rw [hg]; rfl
   omega

/-- A cut with flows that prove it. -/
def GoodCut (n : Nat) (es : List (Int × Int)) (ws s t cut : List Int) (fs : List (List Int × Int)) : Prop :=
 CutTo ws cut n cut.length ∧ Sep es s t cut ∧ (∃ ld, FlowsTo es ws s t fs n fs.length ld) ∧ sent fs fs.length = wgt ws cut cut.length
/-- The code of a cut. -/
structure CutCode (n : Int) (es : List (Int × Int)) (ws s t cut : List Int) (fs : List (List Int × Int)) (r : Int) : Prop where
 bad : ¬ GraphOk n es → r = 1
 len : GraphOk n es → (ws.length : Int) ≠ n → r = 2
 rng : GraphOk n es → (ws.length : Int) = n → ¬ ((∀ x ∈ ws, x ≤ 1048576) ∧ NodesOk n s ∧ NodesOk n t) → r = 3
 good : GraphOk n es → (ws.length : Int) = n → ((∀ x ∈ ws, x ≤ 1048576) ∧ NodesOk n s ∧ NodesOk n t) → GoodCut n.toNat es ws s t cut fs → r = 0
 not : GraphOk n es → (ws.length : Int) = n → ((∀ x ∈ ws, x ≤ 1048576) ∧ NodesOk n s ∧ NodesOk n t) → ¬ GoodCut n.toNat es ws s t cut fs → r = 13
theorem CutCode.uniq {n : Int} {es : List (Int × Int)} {ws s t cut : List Int} {fs : List (List Int × Int)} {r r' : Int} (h : CutCode n es ws s t cut fs r) (h' : CutCode n es ws s t cut fs r') : r = r' := by
 by_cases h0 : GraphOk n es
 ·by_cases h1 : (ws.length : Int) = n
  ·by_cases h2 : (∀ x ∈ ws, x ≤ 1048576) ∧ NodesOk n s ∧ NodesOk n t
   ·by_cases h3 : GoodCut n.toNat es ws s t cut fs
    ·rw [h.good h0 h1 h2 h3, h'.good h0 h1 h2 h3]
    ·rw [h.not h0 h1 h2 h3, h'.not h0 h1 h2 h3]
   ·rw [h.rng h0 h1 h2, h'.rng h0 h1 h2]
  ·rw [h.len h0 h1, h'.len h0 h1]
 ·rw [h.bad h0, h'.bad h0]

/- Magnitudes: little-endian lists of words of 32 bits, and the numbers that they stand for. Plain arithmetic. -/

/-- The number of a list of words. -/
def val : List Nat → Nat
 | [] => 0
 | x :: xs => x + 4294967296 * val xs

/-- All words fit 32 bits. -/
def Ws (xs : List Nat) : Prop := ∀ x ∈ xs, x < 4294967296

/-- No zero word at the end. -/
def Can (xs : List Nat) : Prop := Ws xs ∧ ∀ h : xs ≠ [], xs.getLast h ≠ 0

/-- The canonical words of a number. -/
def dig (n : Nat) : List Nat := if n = 0 then [] else (n % 4294967296) :: dig (n / 4294967296)
termination_by n
decreasing_by omega

theorem Ws.nil : Ws [] := by simp [Ws]
theorem Ws.cons {x : Nat} {xs : List Nat} : Ws (x :: xs) ↔ x < 4294967296 ∧ Ws xs := by simp [Ws]
theorem Ws.append {xs ys : List Nat} : Ws (xs ++ ys) ↔ Ws xs ∧ Ws ys := by
 simp only [Ws, List.mem_append]
 exact ⟨fun h => ⟨fun x hx => h x (.inl hx), fun x hx => h x (.inr hx)⟩, fun h x hx => hx.elim (h.1 x) (h.2 x)⟩
theorem Ws.take {xs : List Nat} (h : Ws xs) (n : Nat) : Ws (xs.take n) := fun x hx => h x (List.mem_of_mem_take hx)
theorem Ws.drop {xs : List Nat} (h : Ws xs) (n : Nat) : Ws (xs.drop n) := fun x hx => h x (List.mem_of_mem_drop hx)
theorem Ws.set {xs : List Nat} (h : Ws xs) (i y : Nat) (hy : y < 4294967296) : Ws (xs.set i y) := fun x hx => by
 rcases List.mem_or_eq_of_mem_set hx with h1 | h1
 ·exact h x h1
 ·omega
theorem Ws.replicate (n : Nat) : Ws (List.replicate n 0) := fun x hx => by have := (List.mem_replicate.1 hx).2; omega
theorem Ws.get {xs : List Nat} (h : Ws xs) {i : Nat} (hi : i < xs.length) : xs[i] < 4294967296 := h _ (List.getElem_mem hi)

@[simp] theorem val_nil : val [] = 0 := rfl
@[simp] theorem val_cons (x : Nat) (xs : List Nat) : val (x :: xs) = x + 4294967296 * val xs := rfl
theorem val_lt {xs : List Nat} (h : Ws xs) : val xs < 4294967296 ^ xs.length := by
 induction xs with
 | nil => simp
 | cons x xs ih =>
   have h' := Ws.cons.1 h
   have := ih h'.2
   simp only [val_cons, List.length_cons, Nat.pow_succ]
   have : 4294967296 * (val xs + 1) ≤ 4294967296 * 4294967296 ^ xs.length := Nat.mul_le_mul_left _ (by omega)
   rw [Nat.mul_comm (4294967296 ^ xs.length)]
   omega

theorem Can.nil : Can [] := ⟨Ws.nil, fun h => absurd rfl h⟩
theorem Can.tail {x : Nat} {xs : List Nat} (h : Can (x :: xs)) : Can xs := by
 refine ⟨(Ws.cons.1 h.1).2, fun hne => ?_⟩
 have := h.2 (by simp)
 rwa [List.getLast_cons hne] at this
theorem Can.pos {xs : List Nat} (h : Can xs) (hne : xs ≠ []) : 0 < val xs := by
 induction xs with
 | nil => exact absurd rfl hne
 | cons x xs ih =>
   by_cases h0 : xs = []
   ·subst h0
    have := h.2 (by simp)
    simp at this
    simp; omega
   ·have := ih h.tail h0
    simp; omega

theorem Can.eq {xs : List Nat} : ∀ {ys : List Nat}, Can xs → Can ys → val xs = val ys → xs = ys := by
 induction xs with
 | nil =>
   intro ys _ hy he
   rcases ys with _ | ⟨y, ys⟩
   ·rfl
   ·have := hy.pos (by simp); simp at he this; omega
 | cons x xs ih =>
   intro ys hx hy he
   rcases ys with _ | ⟨y, ys⟩
   ·have := hx.pos (by simp); simp at he this; omega
   ·have h1 := (Ws.cons.1 hx.1).1
    have h2 := (Ws.cons.1 hy.1).1
    simp only [val_cons] at he
    have e1 : x = y := by omega
    have e2 : val xs = val ys := by omega
    rw [e1, ih hx.tail hy.tail e2]

theorem dig_zero : dig 0 = [] := by rw [dig]; simp
theorem dig_pos {n : Nat} (h : n ≠ 0) : dig n = (n % 4294967296) :: dig (n / 4294967296) := by rw [dig, if_neg h]

theorem val_dig (n : Nat) : val (dig n) = n := by
 induction n using Nat.strongRecOn with
 | _ n ih =>
   by_cases h : n = 0
   ·subst h; rw [dig_zero]; rfl
   ·rw [dig_pos h, val_cons, ih _ (by omega)]; omega

theorem can_dig (n : Nat) : Can (dig n) := by
 induction n using Nat.strongRecOn with
 | _ n ih =>
   by_cases h : n = 0
   ·subst h; rw [dig_zero]; exact Can.nil
   ·rw [dig_pos h]
    have := ih (n / 4294967296) (by omega)
    refine ⟨Ws.cons.2 ⟨by omega, this.1⟩, fun _ => ?_⟩
    by_cases h2 : n / 4294967296 = 0
    ·simp only [h2, dig_zero, List.getLast_singleton]; omega
    ·have hne : dig (n / 4294967296) ≠ [] := by rw [dig_pos h2]; simp
     rw [List.getLast_cons hne]
     exact this.2 hne

theorem Can.dig {xs : List Nat} (h : Can xs) : xs = dig (val xs) := h.eq (can_dig _) (val_dig _).symm
theorem dig_nil_iff (n : Nat) : dig n = [] ↔ n = 0 := by
 constructor
 ·intro h; have := val_dig n; rw [h] at this; simpa using this.symm
 ·rintro rfl; exact dig_zero
theorem dig_len_pos (n : Nat) : 0 < (dig n).length ↔ 0 < n := by
 rw [List.length_pos_iff]
 have := dig_nil_iff n
 constructor
 ·intro h
  rcases Nat.eq_zero_or_pos n with h0 | h0
  ·exact absurd (this.2 h0) h
  ·exact h0
 ·intro h e; have := this.1 e; omega

/-- The length of the canonical words is the least that holds the number. -/
theorem dig_len_le {n k : Nat} (h : n < 4294967296 ^ k) : (dig n).length ≤ k := by
 induction k generalizing n with
 | zero => simp at h; subst h; simp [dig_zero]
 | succ k ih =>
   by_cases h0 : n = 0
   ·subst h0; simp [dig_zero]
   ·rw [dig_pos h0, List.length_cons]
    have : n / 4294967296 < 4294967296 ^ k := by
     rw [Nat.div_lt_iff_lt_mul (by omega)]
     rwa [Nat.pow_succ] at h
    have := ih this
    omega

theorem dig_len_mono {m n : Nat} (h : m ≤ n) : (dig m).length ≤ (dig n).length := by
 refine dig_len_le (Nat.lt_of_le_of_lt h ?_)
 have := val_lt (can_dig n).1
 rwa [val_dig] at this

end Go.Proofs.YtbdcjhoedhhabaaGreat

/- The inner functions of package integer, first part: trim, Clone, signed. -/
namespace Go.Proofs.YtbdcjhoedhhabaaGreat
open Go.RowKit

/-- A struct of a sign and words, as it lies. -/
def IntR (w : World) (X : Nat → Prop) (v : Value) (neg : Bool) (xs : List Nat) : Prop := ∃ s, v = .agg #[.bool neg, s] ∧ Words w X s xs
/-- The integer of a sign and words. -/
def sv (neg : Bool) (xs : List Nat) : Int := if neg then -((val xs : Nat) : Int) else ((val xs : Nat) : Int)
/-- The canonical struct of an integer. -/
def IntV (w : World) (X : Nat → Prop) (v : Value) (z : Int) : Prop := IntR w X v (decide (z < 0)) (dig z.natAbs)

theorem sv_dig (z : Int) : sv (decide (z < 0)) (dig z.natAbs) = z := by
 unfold sv; rw [val_dig]
 by_cases h : z < 0 <;> simp [h] <;> omega
section
variable {X Y : Nat → Prop} {w w' : World} {v : Value} {neg : Bool} {xs : List Nat} {z : Int}
theorem IntR.keep (h : IntR w X v neg xs) (hk : Keep X w w') : IntR w' X v neg xs := let ⟨s, e, hs⟩ := h; ⟨s, e, hs.keep hk⟩
theorem IntR.below (h : IntR w X v neg xs) (hk : Below w.heap.size w w') : IntR w' X v neg xs := let ⟨s, e, hs⟩ := h; ⟨s, e, hs.below hk⟩
theorem IntR.weak (h : IntR w X v neg xs) (hY : ∀ b, b < w.heap.size → Y b → X b) : IntR w Y v neg xs := let ⟨s, e, hs⟩ := h; ⟨s, e, hs.weak hY⟩
theorem IntR.open_ (h : IntR w X v neg xs) : ∃ A c, v = .agg #[.bool neg, .slice A xs.length c] ∧ xs.length ≤ c ∧ c ≤ maxLen ∧ Words w X (.slice A xs.length c) xs := by
 obtain ⟨s, rfl, hs⟩ := h
 obtain ⟨A, c, rfl, h1, h2, h3⟩ := hs.open_
 exact ⟨A, c, rfl, h1, h2, h3⟩
theorem IntR.drewN (h : IntR w X v neg xs) (n : Nat) : IntR (w.drewN n) X v neg xs := h
theorem IntV.keep (h : IntV w X v z) (hk : Keep X w w') : IntV w' X v z := IntR.keep h hk
theorem IntV.below (h : IntV w X v z) (hk : Below w.heap.size w w') : IntV w' X v z := IntR.below h hk
theorem IntV.weak (h : IntV w X v z) (hY : ∀ b, b < w.heap.size → Y b → X b) : IntV w Y v z := IntR.weak h hY
theorem IntV.drewN (h : IntV w X v z) (n : Nat) : IntV (w.drewN n) X v z := h
end

theorem below_set2 {B : Nat} {w0 w : World} (h : Below B w0 w) {g : Nat} (hg : B ≤ g) (u u' : Value) : Below B w0 ((w.setCell ⟨g, 0, none⟩ u).setCell ⟨g, 1, none⟩ u') :=
 (h.setCell hg _).setCell hg _

/-- The shape of a canonical struct, its parts letters. -/
theorem IntV.op {X : Nat → Prop} {w : World} {v : Value} {z : Int} (h : IntV w X v z) : ∃ (b : Bool) (A : Option Addr) (n c : Nat), v = .agg #[.bool b, .slice A n c] ∧ IntV w X (.agg #[.bool b, .slice A n c]) z := by
 obtain ⟨A, c, rfl, _, _, H⟩ := IntR.open_ h
 exact ⟨_, A, _, c, rfl, h⟩

end Go.Proofs.YtbdcjhoedhhabaaGreat

