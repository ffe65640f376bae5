/-
  How the relation is kept: a slot is filled, an object is made, changed, handed on.
-/
import Derived.Test.YtbdknlejnacmgaaPiB
import Derived.Test.YtbdknlejnacmgaaPiC
namespace Go.Proofs.Ytbdknlejnacmgaa.Pi
open Go
set_option linter.unusedVariables false
set_option linter.unusedSimpArgs false

theorem efind_cons (e : Ent) (h : List Ent) (l g : Nat) : efind (e :: h) l g = if e.l = l ∧ e.g = g then some e else efind h l g := by
  simp only [efind, Bool.cond_eq_ite, Bool.and_eq_true, beq_iff_eq]

theorem hobj_cons (e : Ent) (h : List Ent) (n : Nm) : hobj (e :: h) n = if e.l = n.l ∧ e.g = n.g then e.os[n.j]? else hobj h n := by
  simp only [hobj, efind_cons]
  split <;> rfl

theorem isFz_cons (e : Ent) (h : List Ent) (z : List (Nat × Nat)) (n : Nm) : isFz (e :: h) z n = if e.l = n.l ∧ e.g = n.g then (e.fz || zin z n.l n.g) else isFz h z n := by
  simp only [isFz, efind_cons]
  split <;> rfl

theorem rget_cons (m : Nat) (v : PV) (l : List (Nat × PV)) (n : Nat) : rget ((m, v) :: l) n = if m = n then v else rget l n := by
  simp only [rget, Bool.cond_eq_ite, beq_iff_eq]

def upd (μ : NMap) (n : Nm) (k : Blk) : NMap := fun m => if m = n then some k else μ m
def updB (β : Nat → Option Nm) (b : Nat) (n : Nm) : Nat → Option Nm := fun c => if c = b then some n else β c
theorem NLe.upd {μ : NMap} {n : Nm} (k : Blk) (h : μ n = none) : NLe μ (upd μ n k) := by
  intro m k' hm
  unfold Pi.upd
  by_cases e : m = n
  · subst e; rw [h] at hm; cases hm
  · rw [if_neg e]; exact hm
theorem upd_same (μ : NMap) (n : Nm) (k : Blk) : upd μ n k n = some k := by simp [upd]
theorem upd_ne (μ : NMap) {n m : Nm} (k : Blk) (h : m ≠ n) : upd μ n k m = μ m := by simp [upd, h]

theorem getD_put (a : Act) (d : Option Nat) (v : Value) (t : Nat) (hd : ∀ d', d = some d' → d' < a.tmps.size) :
    (a.put d v).tmps.getD t undef = if d = some t then v else a.tmps.getD t undef := by
  cases d with
  | none => simp [Act.put]
  | some d =>
    have := hd d rfl
    simp only [Act.put, Array.getD_eq_getD_getElem?, Array.getElem?_setIfInBounds]
    by_cases e : d = t
    · subst e; simp [this]
    · simp [e]

theorem size_put (a : Act) (d : Option Nat) (v : Value) : (a.put d v).tmps.size = a.tmps.size := by
  cases d <;> simp [Act.put]
theorem defers_put (a : Act) (d : Option Nat) (v : Value) : (a.put d v).defers = a.defers := by
  cases d <;> rfl

section
variable {base : Nat} {bio : Option Nat} {w0 : World} {M0 : Mem} {bk0 : Option Blk} {nt : Nat} {L : List Nat} {s : St} {M : Mem} {μ : NMap} {β : Nat → Option Nm} {a : Act} {w : World}

/-- A slot is filled. -/
theorem Sim.fill (h : Sim base bio w0 M0 bk0 nt L s M μ β a w) {p : PV} {v : Value} (d : Option Nat) (hd : ∀ d', d = some d' → d' < nt) (hr : Rep M μ p v) :
    Sim base bio w0 M0 bk0 nt L (s.app d { v := p }) M μ β (a.put d v) w where
  size := (size_put ..).trans h.size
  defers := (defers_put ..).trans h.defers
  regs := by
    intro t
    rw [getD_put a d v t (fun d' e => h.size ▸ hd d' e)]
    cases d with
    | none => simpa [St.app] using h.regs t
    | some d =>
      simp only [St.app, rget_cons, Option.some.injEq]
      by_cases e : d = t
      · rw [if_pos e, if_pos e]; exact hr
      · rw [if_neg e, if_neg e]; exact h.regs t
  objs := by simpa [St.app] using h.objs
  unf := by simpa [St.app] using h.unf
  lt := h.lt
  names := h.names
  min := h.min
  os := h.os
  tape := h.tape
  out := h.out
  grow := h.grow
  nofz := h.nofz
  frame := h.frame
  mnew := h.mnew
  io := h.io
  io0 := h.io0
  pos := h.pos
  kids := by simpa [St.app] using h.kids
  bown := h.bown
  ioz := by simpa [St.app] using h.ioz

theorem Sim.more (h : Sim base bio w0 M0 bk0 nt L s M μ β a w) (L' : List Nat) : Sim base bio w0 M0 bk0 nt (L' ++ L) s M μ β a w :=
  { h with names := fun n k hn => (h.names n k hn).imp id fun ⟨a, b⟩ => ⟨a, List.mem_append.2 (.inr b)⟩ }

/-- A world of the same memory. -/
theorem Sim.world (h : Sim base bio w0 M0 bk0 nt L s M μ β a w) {w' : World} (hh : w'.heap = w.heap) (ho : w'.os = w.os) (ht : w'.tape = w.tape) (hp : w'.output = w.output) :
    Sim base bio w0 M0 bk0 nt L s M μ β a w' where
  size := h.size
  defers := h.defers
  regs := h.regs
  objs := fun n o hn => by
    obtain ⟨k, h1, h2, h3⟩ := h.objs n o hn
    exact ⟨k, h1, h2.mono (MLe.refl _) (NLe.refl _) (fun b _ => by rw [hh]), h3⟩
  unf := h.unf
  lt := fun n k b hn hb => by rw [hh]; exact h.lt n k b hn hb
  names := h.names
  min := fun b c hb => by rw [hh]; exact h.min b c hb
  os := ho.trans h.os
  tape := ht.trans h.tape
  out := hp.trans h.out
  grow := by rw [hh]; exact h.grow
  nofz := fun b hb c ty fr hx => h.nofz b hb c ty fr (by rw [← hh]; exact hx)
  frame := fun b hb hi => by rw [hh]; exact h.frame b hb hi
  mnew := h.mnew
  io := h.io
  io0 := h.io0
  pos := h.pos
  kids := h.kids
  bown := h.bown
  ioz := h.ioz

theorem Sim.fresh (h : Sim base bio w0 M0 bk0 nt L s M μ β a w) {l : Nat} (hl : l ∉ L) (j : Nat) : μ ⟨l, s.g, j⟩ = none := by
  cases hm : μ ⟨l, s.g, j⟩ with
  | none => rfl
  | some k =>
    rcases h.names _ _ hm with h1 | ⟨_, h1⟩
    · exact absurd h1 (Nat.lt_irrefl _)
    · exact absurd h1 hl

theorem Sim.mlt (h : Sim base bio w0 M0 bk0 nt L s M μ β a w) {b : Nat} (hb : w.heap.size ≤ b) : M b = none := by
  cases hm : M b with
  | none => rfl
  | some c =>
    obtain ⟨ty, fr, hh⟩ := h.min b c hm
    rw [Array.getElem?_eq_none hb] at hh
    cases hh

/-- An object that is nil. -/
theorem Sim.addNil (h : Sim base bio w0 M0 bk0 nt L s M μ β a w) (l sz : Nat) (h1 : 1 ≤ l) (hl : l ∉ L) :
    Sim base bio w0 M0 bk0 nt (l :: L) { s with h := { l := l, g := s.g, fz := false, os := [{ xs := [], pure := true }] } :: s.h } M (upd μ ⟨l, s.g, 0⟩ ⟨none, sz, 0⟩) β a w := by
  have hf := h.fresh hl 0
  have hle : NLe μ (upd μ ⟨l, s.g, 0⟩ ⟨none, sz, 0⟩) := NLe.upd _ hf
  have nn : ∀ n o, hobj s.h n = some o → ¬ (l = n.l ∧ s.g = n.g) := by
    intro n o hn ⟨e1, e2⟩
    obtain ⟨k, hk, _⟩ := h.objs n o hn
    have := h.fresh hl n.j
    rw [e1, e2] at this
    rw [hk] at this
    cases this
  refine { h with regs := fun t => (h.regs t).mono (MLe.refl _) hle, objs := ?_, unf := ?_, lt := ?_, names := ?_, kids := ?_, io0 := ?_, ioz := ?_ }
  · intro n o hn
    rw [hobj_cons] at hn
    split at hn
    · rename_i e
      obtain ⟨e1, e2⟩ := e
      cases hj : n.j with
      | succ j => rw [hj] at hn; simp at hn
      | zero =>
        rw [hj] at hn
        simp at hn
        subst hn
        have en : n = ⟨l, s.g, 0⟩ := by cases n; simp_all
        subst en
        exact ⟨_, upd_same .., ⟨by simp, Nat.zero_le _, ⟨rfl, rfl⟩⟩, fun b hb => by cases hb⟩
    · obtain ⟨k, hk, hc, hb⟩ := h.objs n o hn
      exact ⟨k, hle _ _ hk, hc.mono (MLe.refl _) hle (fun _ _ => rfl), hb⟩
  · intro n o k b hn hz hk hb
    rw [hobj_cons] at hn
    rw [isFz_cons] at hz
    split at hn
    · rename_i e
      obtain ⟨e1, e2⟩ := e
      cases hj : n.j with
      | succ j => rw [hj] at hn; simp at hn
      | zero =>
        have en : n = ⟨l, s.g, 0⟩ := by cases n; simp_all
        subst en
        rw [upd_same] at hk
        cases hk
        cases hb
    · rename_i e
      rw [if_neg e] at hz
      obtain ⟨k', hk', _⟩ := h.objs n o hn
      rw [hle _ _ hk'] at hk
      cases hk
      exact h.unf n o k b hn hz hk' hb
  · intro n k b hn hb
    unfold upd at hn
    split at hn
    · cases hn; cases hb
    · exact h.lt n k b hn hb
  · intro n k hn
    unfold upd at hn
    split at hn
    · rename_i e; subst e; exact .inr ⟨rfl, by simp⟩
    · exact (h.names n k hn).imp id fun ⟨e, f⟩ => ⟨e, by simp [f]⟩
  · intro j g
    rw [upd_ne _ _ (by intro e; injection e with e1; omega)]
    exact h.io0 j g
  · intro l' g' e he hne j hj
    rw [efind_cons] at he
    split at he
    · rename_i eq
      obtain ⟨e1, e2⟩ := eq
      simp only at e1 e2
      subst e1; subst e2
      cases he
      simp only [List.length_singleton] at hj
      rw [upd_ne _ _ (by intro e; injection e with _ _ e3; omega)]
      exact h.fresh hl j
    · rename_i eq
      rw [upd_ne _ _ (by intro e; injection e with e1 e2 _; exact eq ⟨e1.symm, e2.symm⟩)]
      exact h.kids l' g' e he hne j hj
  · intro g
    refine ⟨(h.ioz g).1, fun e he => ?_⟩
    rw [efind_cons] at he
    rw [if_neg (by simp; omega)] at he
    exact (h.ioz g).2 e he

theorem heap_push (w : World) (o : Go.Obj) (b : Nat) : (w.alloc o).heap[b]? = if b = w.heap.size then some o else w.heap[b]? := by
  show (w.heap.push o)[b]? = _
  rw [Array.getElem?_push]

/-- A new block, and its object. -/
theorem Sim.addBlkW (h : Sim base bio w0 M0 bk0 nt L s M μ β a w) (l sz tot : Nat) (c : Array Value) (ty : TypeId) (o : Obj) (h1 : 1 ≤ l) (hl : l ∉ L)
    (hp : o.pure = true → ∀ x ∈ o.xs, ∀ p ∈ x, pu0 p = true) (ht : tot ≤ maxLen) (hc : c.size = tot * sz) (hx : o.xs.length ≤ tot)
    {w' : World} (hh' : w'.heap[w.heap.size]? = some (.cells c ty (0, 0))) (old : ∀ b, b < w.heap.size → w'.heap[b]? = w.heap[b]?) (hsz : w.heap.size < w'.heap.size) (hos : w'.os = w.os) (htp : w'.tape = w.tape) (hout : w'.output = w.output) (hnf : NoFz w.heap.size w')
    (hr : ∀ i x, o.xs[i]? = some x → x.length = sz ∧ ∀ j p, x[j]? = some p → ∃ v, c[i * sz + j]? = some v ∧ Rep M μ p v ∧ v.oneCell' = true) :
    Sim base bio w0 M0 bk0 nt (l :: L) { s with h := { l := l, g := s.g, fz := false, os := [o] } :: s.h } M (upd μ ⟨l, s.g, 0⟩ ⟨some w.heap.size, sz, tot⟩) (updB β w.heap.size ⟨l, s.g, 0⟩) a w' := by
  have hf := h.fresh hl 0
  have hle : NLe μ (upd μ ⟨l, s.g, 0⟩ ⟨some w.heap.size, sz, tot⟩) := NLe.upd _ hf
  refine { h with regs := fun t => (h.regs t).mono (MLe.refl _) hle, objs := ?_, unf := ?_, lt := ?_, names := ?_, min := ?_, os := hos.trans h.os, tape := htp.trans h.tape, out := hout.trans h.out, nofz := ?_, grow := ?_, frame := ?_, kids := ?_, bown := ?_, io0 := ?_, ioz := ?_ }
  · intro n o' hn
    rw [hobj_cons] at hn
    split at hn
    · rename_i e
      obtain ⟨e1, e2⟩ := e
      cases hj : n.j with
      | succ j => rw [hj] at hn; simp at hn
      | zero =>
        rw [hj] at hn
        simp at hn
        subst hn
        have en : n = ⟨l, s.g, 0⟩ := by cases n; simp_all
        subst en
        refine ⟨_, upd_same .., ⟨hp, ht, c, ty, hh', hc, hx, fun i x hi => ⟨(hr i x hi).1, fun j p hj => ?_⟩⟩, fun b hb => by cases hb; simp [updB]⟩
        obtain ⟨v, hv, hv2, hv3⟩ := (hr i x hi).2 j p hj
        exact ⟨v, hv, hv2.mono (MLe.refl _) hle, hv3⟩
    · obtain ⟨k, hk, hc', hb⟩ := h.objs n o' hn
      refine ⟨k, hle _ _ hk, hc'.mono (MLe.refl _) hle (fun b hb => old b (h.lt n k b hk hb)), fun b hb' => ?_⟩
      have := h.lt n k b hk hb'
      simp only [updB]
      rw [if_neg (by omega)]
      exact hb b hb'
  · intro n o' k b hn hz hk hb
    rw [hobj_cons] at hn
    rw [isFz_cons] at hz
    split at hn
    · rename_i e
      obtain ⟨e1, e2⟩ := e
      cases hj : n.j with
      | succ j => rw [hj] at hn; simp at hn
      | zero =>
        have en : n = ⟨l, s.g, 0⟩ := by cases n; simp_all
        subst en
        rw [upd_same] at hk
        cases hk
        cases hb
        exact h.mlt (Nat.le_refl _)
    · rename_i e
      rw [if_neg e] at hz
      obtain ⟨k', hk', _⟩ := h.objs n o' hn
      rw [hle _ _ hk'] at hk
      cases hk
      exact h.unf n o' k b hn hz hk' hb
  · intro n k b hn hb
    unfold upd at hn
    split at hn
    · cases hn; cases hb; omega
    · have := h.lt n k b hn hb; omega
  · intro n k hn
    unfold upd at hn
    split at hn
    · rename_i e; subst e; exact .inr ⟨rfl, by simp⟩
    · exact (h.names n k hn).imp id fun ⟨e, f⟩ => ⟨e, by simp [f]⟩
  · intro b c' hb
    obtain ⟨ty', fr, hh⟩ := h.min b c' hb
    have : b < w.heap.size := by
      rcases Nat.lt_or_ge b w.heap.size with h' | h'
      · exact h'
      · rw [Array.getElem?_eq_none h'] at hh; cases hh
    exact ⟨ty', fr, by rw [old b this]; exact hh⟩
  · have := h.grow; omega
  · intro b hb c' ty' fr hx'
    rcases Nat.lt_or_ge b w.heap.size with h' | h'
    · rw [old b h'] at hx'; exact h.nofz b hb c' ty' fr hx'
    · exact hnf b h' c' ty' fr hx'
  · intro b hb hi
    rw [old b (by have := h.grow; omega)]
    exact h.frame b hb hi
  · intro j g
    rw [upd_ne _ _ (by intro e; injection e with e1; omega)]
    exact h.io0 j g
  · intro l' g' e he hne j hj
    rw [efind_cons] at he
    split at he
    · rename_i eq
      obtain ⟨e1, e2⟩ := eq
      simp only at e1 e2
      subst e1; subst e2
      cases he
      simp only [List.length_singleton] at hj
      rw [upd_ne _ _ (by intro e; injection e with _ _ e3; omega)]
      exact h.fresh hl j
    · rename_i eq
      rw [upd_ne _ _ (by intro e; injection e with e1 e2 _; exact eq ⟨e1.symm, e2.symm⟩)]
      exact h.kids l' g' e he hne j hj
  · intro b n hb
    unfold updB at hb
    split at hb
    · rename_i e; subst e; exact .inl h.grow
    · exact h.bown b n hb
  · intro g
    refine ⟨(h.ioz g).1, fun e he => ?_⟩
    rw [efind_cons] at he
    rw [if_neg (by simp; omega)] at he
    exact (h.ioz g).2 e he


/-- A new block, and its object. -/
theorem Sim.addBlk (h : Sim base bio w0 M0 bk0 nt L s M μ β a w) (l sz tot : Nat) (c : Array Value) (ty : TypeId) (o : Obj) (h1 : 1 ≤ l) (hl : l ∉ L)
    (hp : o.pure = true → ∀ x ∈ o.xs, ∀ p ∈ x, pu0 p = true) (ht : tot ≤ maxLen) (hc : c.size = tot * sz) (hx : o.xs.length ≤ tot)
    (hr : ∀ i x, o.xs[i]? = some x → x.length = sz ∧ ∀ j p, x[j]? = some p → ∃ v, c[i * sz + j]? = some v ∧ Rep M μ p v ∧ v.oneCell' = true) :
    Sim base bio w0 M0 bk0 nt (l :: L) { s with h := { l := l, g := s.g, fz := false, os := [o] } :: s.h } M (upd μ ⟨l, s.g, 0⟩ ⟨some w.heap.size, sz, tot⟩) (updB β w.heap.size ⟨l, s.g, 0⟩) a (w.alloc (.cells c ty)) :=
  h.addBlkW l sz tot c ty o h1 hl hp ht hc hx (by rw [heap_push, if_pos rfl]) (fun b hb => by rw [heap_push, if_neg (by omega)]) (by simp) rfl rfl rfl (fun b hb c' ty' fr hx' => by
    rw [heap_push] at hx'
    split at hx'
    · cases hx'; rfl
    · rename_i hne
      rw [Array.getElem?_eq_none (by omega)] at hx'; cases hx') hr

end
end Go.Proofs.Ytbdknlejnacmgaa.Pi
