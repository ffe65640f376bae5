/-
  Each operation, one behind the other: what our machine reckons is what the model's does (all but calls).
-/
import Derived.Test.YtbdknlejnacmgaaPiF
import Derived.Laws.MakeOwn
import Derived.Maps.AppendAt
namespace Go.Proofs.Ytbdknlejnacmgaa.Pi
open Go
set_option linter.unusedVariables false
set_option linter.unusedSimpArgs false

def Goes (K : Act → World → Prop) (base : Nat) (bio : Option Nat) (w0 : World) (M0 : Mem) (bk0 : Option Blk) (nt : Nat) (L : List Nat) (s : St) (a : Act) (d : Option Nat) : Prop :=
  ∀ M μ β v w, Sim base bio w0 M0 bk0 nt L s M μ β (a.put d v) w → K (a.put d v) w

section
variable {P : Program} {base : Nat} {bio : Option Nat} {w0 : World} {M0 : Mem} {bk0 : Option Blk} {nt : Nat} {L : List Nat} {s : St} {M : Mem} {μ : NMap} {β : Nat → Option Nm} {a : Act} {w : World}
variable {o : Oper} {d : Option Nat} {K : Act → World → Prop} {Q : Exit → Act → World → Prop}

theorem okLit_rep {v : Value} {p : PV} (h : okLit v p = true) (M : Mem) (μ : NMap) : Rep M μ p v ∧ v.oneCell' = true ∧ pu0 p = true := by
  unfold okLit at h
  split at h
  · simp only [beq_iff_eq] at h; subst h; exact ⟨.bool _, rfl, rfl⟩
  · simp only [Bool.and_eq_true, decide_eq_true_eq] at h; obtain ⟨rfl, rfl⟩ := h; exact ⟨.int _ _, rfl, rfl⟩
  · simp only [decide_eq_true_eq] at h; exact ⟨.str h, rfl, rfl⟩
  · exact ⟨.nil0, rfl, rfl⟩
  · exact ⟨.view 0 (fun _ _ => undef) (Nat.le_refl _) (by simp) (by simp) (by simp), rfl, rfl⟩
  · cases h

theorem okLit_nil {v : Value} (h : okLit v .nil0 = true) : v = .slice none 0 0 := by
  cases v with
  | slice A n c => cases A <;> cases n <;> cases c <;> simp [okLit] at h ⊢
  | _ => simp [okLit] at h

theorem okArg_rep (hr : ∀ t, Rep M μ (rget s.t t) (a.tmps.getD t undef)) {x : Operand} {y : PArg} (h : okArg x y = true) : Rep M μ (s.ev y) (a.eval x) := by
  unfold okArg at h
  split at h
  · simp only [beq_iff_eq] at h; subst h; exact hr _
  · exact (okLit_rep h M μ).1
  · simp only [beq_iff_eq] at h; subst h
    exact .fn rfl fun i p v hp _ => by simp at hp
  · cases h

theorem okArgs_rep (hr : ∀ t, Rep M μ (rget s.t t) (a.tmps.getD t undef)) : ∀ {xs : List Operand} {ys : List PArg}, okArgs xs ys = true →
    ys.length = xs.length ∧ ∀ (i : Nat) (y : PArg) (x : Operand), ys[i]? = some y → xs[i]? = some x → Rep M μ (s.ev y) (a.eval x)
  | [], [], _ => ⟨rfl, fun i y x h => by simp at h⟩
  | x :: xs, y :: ys, h => by
    simp only [okArgs, Bool.and_eq_true] at h
    obtain ⟨h1, h2⟩ := okArgs_rep hr h.2
    refine ⟨by simp [h1], fun i y' x' hy hx => ?_⟩
    cases i with
    | zero => simp at hy hx; subst hy; subst hx; exact okArg_rep hr h.1
    | succ i => simp at hy hx; exact h2 i y' x' hy hx
  | [], _ :: _, h => by simp [okArgs] at h
  | _ :: _, [], h => by simp [okArgs] at h

theorem wp_val {v : Value} {w' : World} (hrun : (execOp a.eval o).run P w = .ok (.value v) w') (hd : o.dst = d) (hk : K (a.put d v) w') : o.wp P a w K Q := by
  subst hd
  unfold Oper.wp
  rw [hrun]
  exact hk
theorem wp_skp {w' : World} (hrun : (execOp a.eval o).run P w = .ok .skip w') (hd : o.dst = d) (hk : K (a.put d undef) w') : o.wp P a w K Q := by
  subst hd
  unfold Oper.wp
  rw [hrun]
  exact hk

/-- An operation that reckons a value, and no more. -/
theorem snd_pure (hs : Sim base bio w0 M0 bk0 nt L s M μ β a w) (hd : o.dst = d) (hdn : ∀ d', d = some d' → d' < nt) {p : PV} {v : Value}
    (hrun : (execOp a.eval o).run P w = .ok (.value v) w) (hr : Rep M μ p v) (hK : Goes K base bio w0 M0 bk0 nt L (s.app d { v := p }) a d) : o.wp P a w K Q :=
  wp_val hrun hd (hK _ _ _ _ _ (hs.fill d hdn hr))

theorem snd_mv (hs : Sim base bio w0 M0 bk0 nt L s M μ β a w) (hd : o.dst = d) (hdn : ∀ d', d = some d' → d' < nt) {y : PArg}
    (ok : okOp P o.op o.type (.mv y) = true) (hK : Goes K base bio w0 M0 bk0 nt L (s.app d { v := s.ev y }) a d) : o.wp P a w K Q := by
  simp only [okOp] at ok
  split at ok
  · rename_i x hx
    exact snd_pure hs hd hdn (v := a.eval x) (by simp [execOp, hx]) (okArg_rep hs.regs ok) hK
  · rename_i x hx
    exact snd_pure hs hd hdn (v := a.eval x) (by simp [execOp, hx]) (okArg_rep hs.regs ok) hK
  · cases ok

theorem nilSlice_eval {x : Operand} (h : nilSlice x = true) : a.eval x = .slice none 0 0 := by
  unfold nilSlice at h
  split at h
  · rfl
  · cases h

theorem snd_nils (hs : Sim base bio w0 M0 bk0 nt L s M μ β a w) (hd : o.dst = d) (hdn : ∀ d', d = some d' → d' < nt) {l sz : Nat}
    (ok : okOp P o.op o.type (.nils l sz) = true) (h1 : 1 ≤ l) (hl : l ∉ L)
    (hK : Goes K base bio w0 M0 bk0 nt (l :: L) (s.app d { v := .own ⟨l, s.g, 0⟩ sz 0 0, up := [{ l := l, g := s.g, fz := false, os := [{ xs := [], pure := true }] }] }) a d) : o.wp P a w K Q := by
  simp only [okOp] at ok
  have key : ∀ x, nilSlice x = true → (execOp a.eval o).run P w = .ok (.value (a.eval x)) w → o.wp P a w K Q := by
    intro x hx hrun
    rw [nilSlice_eval hx] at hrun
    have := (hs.addNil l sz h1 hl).fill d hdn (p := .own ⟨l, s.g, 0⟩ sz 0 0) (v := .slice none 0 0)
      (.own (upd_same ..) rfl (Nat.le_refl _) rfl (Nat.zero_le _) (fun _ => .inl ⟨rfl, rfl⟩) (fun _ => rfl))
    exact wp_val hrun hd (hK _ _ _ _ _ this)
  split at ok
  · rename_i x hx; exact key x ok (by simp [execOp, hx])
  · rename_i x hx; exact key x ok (by simp [execOp, hx])
  · cases ok

theorem snd_pick (hs : Sim base bio w0 M0 bk0 nt L s M μ β a w) (hd : o.dst = d) (hdn : ∀ d', d = some d' → d' < nt) {c x y : PArg} {b : Bool}
    (ok : okOp P o.op o.type (.pick c x y) = true) (hc : s.ev c = .bool b) (hK : Goes K base bio w0 M0 bk0 nt L (s.app d { v := if b then s.ev x else s.ev y }) a d) : o.wp P a w K Q := by
  simp only [okOp] at ok
  split at ok
  · rename_i c' x' y' hx
    simp only [Bool.and_eq_true] at ok
    have hb := okArg_rep hs.regs ok.1.1
    rw [hc] at hb
    generalize hv : a.eval c' = cv at hb
    cases hb
    cases b with
    | true => exact snd_pure hs hd hdn (v := a.eval x') (by simp [execOp, hx, hv, asBool]) (okArg_rep hs.regs ok.1.2) hK
    | false => exact snd_pure hs hd hdn (v := a.eval y') (by simp [execOp, hx, hv, asBool]) (okArg_rep hs.regs ok.2) hK
  · cases ok

/-! ### Types -/
theorem aggT_run {t : TypeId} {b : Bool} (h : aggT P t = some b) (w : World) : (isAgg t).run P w = .ok b w := by
  unfold aggT at h
  obtain ⟨dd, hu, hb⟩ := Option.map_eq_some_iff.1 h
  simp only [isAgg, Sem.run_bind, run_underlying hu, Result.andThen_ok]
  subst hb
  cases dd <;> rfl
theorem sizeT_run {t : TypeId} {n : Nat} (h : sizeT P t = some n) (w : World) : (sizeOf t).run P w = .ok n w := by
  unfold sizeT at h
  obtain ⟨i, hi, hn⟩ := Option.map_eq_some_iff.1 h
  subst hn
  simp [sizeOf, typeInfo, hi]
theorem zeroT_run {t : TypeId} {z : List Value} (h : zeroT P t = some z) : ∃ v : Value, v.cells.toList = z ∧ ∀ w : World, (zeroValue t).run P w = .ok v w := by
  unfold zeroT at h
  obtain ⟨i, hi, h⟩ := Option.bind_eq_some_iff.1 h
  obtain ⟨v, hv, hz⟩ := Option.map_eq_some_iff.1 h
  exact ⟨v, hz, fun w => by simp [zeroValue, typeInfo, hi, hv]⟩
theorem elemT_und {t e : TypeId} (h : elemT P t = some e) : P.underlying t = some (.slice e) := by
  unfold elemT at h
  obtain ⟨dd, hu, h⟩ := Option.bind_eq_some_iff.1 h
  cases dd <;> simp at h
  subst h
  exact hu

theorem okCells_rep : ∀ {vs : List Value} {ps : List PV}, okCells vs ps = true → vs.length = ps.length ∧ ∀ (i : Nat) (p : PV), ps[i]? = some p → ∃ v, vs[i]? = some v ∧ okLit v p = true
  | [], [], _ => ⟨rfl, fun i p h => by simp at h⟩
  | v :: vs, p :: ps, h => by
    simp only [okCells, Bool.and_eq_true] at h
    obtain ⟨h1, h2⟩ := okCells_rep h.2
    refine ⟨by simp [h1], fun i q hq => ?_⟩
    cases i with
    | zero => simp at hq; subst hq; exact ⟨v, by simp, h.1⟩
    | succ i => simp at hq; obtain ⟨u, hu, hk⟩ := h2 i q hq; exact ⟨u, by simpa using hu, hk⟩
  | [], _ :: _, h => by simp [okCells] at h
  | _ :: _, [], h => by simp [okCells] at h

/-- Cells of one element, of which each value is known. -/
theorem one_elem {cs : List PV} {c : Array Value} (hl : cs.length = c.size) (h : ∀ (j : Nat) (p : PV), cs[j]? = some p → ∃ v, c[j]? = some v ∧ Rep M μ p v ∧ v.oneCell' = true) :
    ∀ (i : Nat) (x : List PV), [cs][i]? = some x → x.length = c.size ∧ ∀ (j : Nat) (p : PV), x[j]? = some p → ∃ v, c[i * c.size + j]? = some v ∧ Rep M μ p v ∧ v.oneCell' = true := by
  intro i x hi
  cases i with
  | zero =>
    simp at hi
    subst hi
    refine ⟨hl, fun j p hp => ?_⟩
    simpa using h j p hp
  | succ i => simp at hi

theorem nodupB_cons {x : Nat} {l : List Nat} (h : nodupB (x :: l) = true) : x ∉ l ∧ nodupB l = true := by
  simp only [nodupB, Bool.and_eq_true, Bool.not_eq_true'] at h
  exact ⟨by simpa using h.1, h.2⟩

/-- Several objects that are nil. -/
theorem Sim.addNils (hs : Sim base bio w0 M0 bk0 nt L s M μ β a w) : ∀ (ns : List (Nat × Nat × Nat)), (ns.all fun x => decide (1 ≤ x.2.1)) = true → nodupB (ns.map (·.2.1)) = true → (∀ x ∈ ns, x.2.1 ∉ L) →
    ∃ μ', NLe μ μ' ∧ Sim base bio w0 M0 bk0 nt (ns.map (·.2.1) ++ L) { s with h := (ns.map fun x => ({ l := x.2.1, g := s.g, fz := false, os := [{ xs := [], pure := true }] } : Ent)) ++ s.h } M μ' β a w ∧
      ∀ x ∈ ns, ∃ k, μ' ⟨x.2.1, s.g, 0⟩ = some k ∧ k = ⟨none, x.2.2, 0⟩
  | [], _, _, _ => ⟨μ, NLe.refl _, hs, fun x hx => by simp at hx⟩
  | x :: ns, h1, h2, h3 => by
    simp only [List.all_cons, Bool.and_eq_true, decide_eq_true_eq] at h1
    simp only [List.map_cons] at h2
    obtain ⟨h4, h5⟩ := nodupB_cons h2
    obtain ⟨μ1, hle, hs1, hn1⟩ := Sim.addNils hs ns h1.2 h5 (fun y hy => h3 y (by simp [hy]))
    have hx : x.2.1 ∉ ns.map (·.2.1) ++ L := by
      intro hm
      rcases List.mem_append.1 hm with hm | hm
      · exact h4 hm
      · exact h3 x (by simp) hm
    have hf := hs1.fresh hx 0
    refine ⟨_, hle.trans (NLe.upd _ hf), hs1.addNil x.2.1 x.2.2 h1.1 hx, fun y hy => ?_⟩
    rcases List.mem_cons.1 hy with rfl | hy
    · exact ⟨_, upd_same .., rfl⟩
    · obtain ⟨k, hk, he⟩ := hn1 y hy
      exact ⟨k, NLe.upd _ hf _ _ hk, he⟩

/-- What the cells are, some of them being lists that are nil. -/
theorem nils_cells {g : Nat} {cells : List PV} : ∀ (ns : List (Nat × Nat × Nat)) (cs : List PV), cs.length = cells.length → (∀ (j : Nat) (p : PV), cs[j]? = some p → cells[j]? = some p ∨ (cells[j]? = some .nil0 ∧ ∃ x ∈ ns, p = .own ⟨x.2.1, g, 0⟩ x.2.2 0 0)) →
    ∀ (ms : List (Nat × Nat × Nat)), (∀ x ∈ ms, x ∈ ns) → (∀ x ∈ ms, cells[x.1]? = some .nil0) →
    (nilSet g ms cs).length = cells.length ∧
    ∀ (j : Nat) (p : PV), (nilSet g ms cs)[j]? = some p → cells[j]? = some p ∨ (cells[j]? = some .nil0 ∧ ∃ x ∈ ns, p = .own ⟨x.2.1, g, 0⟩ x.2.2 0 0)
  | ns, cs, hl, h, [], _, _ => ⟨hl, h⟩
  | ns, cs, hl, h, m :: ms, h1, h2 => by
    refine nils_cells ns (cs.set m.1 (.own ⟨m.2.1, g, 0⟩ m.2.2 0 0)) (by simpa using hl) (fun j p hp => ?_) ms (fun x hx => h1 x (by simp [hx])) (fun x hx => h2 x (by simp [hx]))
    by_cases e : m.1 = j
    · subst e
      have : m.1 < cs.length := by
        have := (List.getElem?_eq_some_iff.1 hp).1
        simpa using this
      rw [List.getElem?_set_self this] at hp
      cases hp
      exact .inr ⟨h2 m (by simp), m, h1 m (by simp), rfl⟩
    · rw [List.getElem?_set_ne e] at hp
      exact h j p hp

theorem snd_alloc (hs : Sim base bio w0 M0 bk0 nt L s M μ β a w) (hd : o.dst = d) (hdn : ∀ d', d = some d' → d' < nt) {l : Nat} {cells : List PV} {ns : List (Nat × Nat × Nat)}
    (ok : okOp P o.op o.type (.alloc l cells ns) = true) (h1 : 1 ≤ l) (h2 : (ns.all fun x => decide (1 ≤ x.2.1)) = true) (hnd : nodupB (l :: ns.map (·.2.1)) = true) (hl : ∀ x ∈ l :: ns.map (·.2.1), x ∉ L)
    (hK : Goes K base bio w0 M0 bk0 nt (l :: ns.map (·.2.1) ++ L) (s.app d { v := .optr ⟨l, s.g, 0⟩ 0 0, up := { l := l, g := s.g, fz := false, os := [{ xs := [nilSet s.g ns cells], pure := ns.isEmpty && (nilSet s.g ns cells).all pu0 }] } :: nilEnts s.g ns }) a d) : o.wp P a w K Q := by
  simp only [okOp] at ok
  split at ok
  · rename_i e he
    simp only [Bool.and_eq_true] at ok
    obtain ⟨ok1, ok2⟩ := ok
    split at ok1
    · rename_i z hz
      obtain ⟨zv, hzc, hzr⟩ := zeroT_run hz
      obtain ⟨k1, k2⟩ := okCells_rep ok1
      obtain ⟨h3, h4⟩ := nodupB_cons hnd
      obtain ⟨μ1, hle, hs1, hn1⟩ := hs.addNils ns h2 h4 (fun x hx => hl x.2.1 (by simp; exact .inr ⟨_, _, hx⟩))
      have hrun : (execOp a.eval o).run P w = .ok (.value (.pointer (some ⟨w.heap.size, 0, none⟩))) (w.alloc (.cells zv.cells e)) := by
        simp [execOp, he, Instr.alloc, hzr, newVar, newRow]
      have hnil : ∀ x ∈ ns, cells[x.1]? = some .nil0 := by
        intro x hx
        have := List.all_eq_true.1 ok2 x hx
        revert this
        cases hc : cells[x.1]? with
        | none => simp
        | some p => cases p <;> simp
      obtain ⟨c1, c2⟩ := nils_cells (g := s.g) ns cells rfl (fun j p hp => .inl hp) ns (fun x hx => hx) hnil
      have hsz : zv.cells.size = cells.length := by rw [← k1, ← hzc]; simp
      have cell : ∀ (j : Nat) (p : PV), (nilSet s.g ns cells)[j]? = some p → ∃ v, zv.cells[j]? = some v ∧ Rep M μ1 p v ∧ v.oneCell' = true := by
        intro j p hp
        rcases c2 j p hp with h | ⟨h, x, hx, rfl⟩
        · obtain ⟨v, hv, hk⟩ := k2 j p h
          obtain ⟨r1, r2, _⟩ := okLit_rep hk M μ1
          exact ⟨v, by rw [← hzc] at hv; simpa using hv, r1, r2⟩
        · obtain ⟨v, hv, hk⟩ := k2 j _ h
          obtain rfl := okLit_nil hk
          obtain ⟨k, hk1, rfl⟩ := hn1 x hx
          exact ⟨_, by rw [← hzc] at hv; simpa using hv, .own hk1 rfl (Nat.le_refl _) rfl (Nat.zero_le _) (fun _ => .inl ⟨rfl, rfl⟩) (fun _ => rfl), rfl⟩
      have hx : l ∉ ns.map (·.2.1) ++ L := by
        intro hm
        rcases List.mem_append.1 hm with hm | hm
        · exact h3 hm
        · exact hl l (by simp) hm
      have hs2 := hs1.addBlk l zv.cells.size 1 zv.cells e { xs := [nilSet s.g ns cells], pure := ns.isEmpty && (nilSet s.g ns cells).all pu0 } h1 hx
        (fun hp x hx p hpm => by
          simp only [Bool.and_eq_true, List.all_eq_true] at hp
          simp only [List.mem_singleton] at hx
          subst hx
          exact hp.2 p hpm) (by decide) (by simp) (by simp) (one_elem (by rw [c1, hsz]) cell)
      have hs3 := hs2.fill d hdn (p := .optr ⟨l, s.g, 0⟩ 0 0) (v := .pointer (some ⟨w.heap.size, 0, none⟩)) (by
        have := Rep.optr (M := M) (i := 0) (c := 0) (upd_same μ1 ⟨l, s.g, 0⟩ ⟨some w.heap.size, zv.cells.size, 1⟩) rfl
        simpa using this)
      exact wp_val hrun hd (hK _ _ _ _ _ hs3)
    · cases ok1
  · cases ok

theorem snd_box (hs : Sim base bio w0 M0 bk0 nt L s M μ β a w) (hd : o.dst = d) (hdn : ∀ d', d = some d' → d' < nt) {l : Nat} {y : PArg}
    (ok : okOp P o.op o.type (.box l y) = true) (h1 : 1 ≤ l) (hl : l ∉ L) (hf : (cellsOf (s.ev y)).all flat = true)
    (hK : Goes K base bio w0 M0 bk0 nt (l :: L) (s.app d { v := .optr ⟨l, s.g, 0⟩ 0 0, up := [{ l := l, g := s.g, fz := false, os := [{ xs := [cellsOf (s.ev y)], pure := (cellsOf (s.ev y)).all pu0 }] }] }) a d) : o.wp P a w K Q := by
  simp only [okOp] at ok
  split at ok
  · rename_i e x he
    have hr := okArg_rep hs.regs ok
    obtain ⟨c1, c2, c3⟩ := hr.cells hf
    have hrun : (execOp a.eval o).run P w = .ok (.value (.pointer (some ⟨w.heap.size, 0, none⟩))) (w.alloc (.cells (a.eval x).cells e)) := by
      simp [execOp, he, Instr.box, newVar, newRow]
    have hs2 := hs.addBlk l (a.eval x).cells.size 1 (a.eval x).cells e { xs := [cellsOf (s.ev y)], pure := (cellsOf (s.ev y)).all pu0 } h1 hl
      (fun hp x hx p hpm => by
        simp only [List.all_eq_true] at hp
        simp only [List.mem_singleton] at hx
        subst hx
        exact hp p hpm) (by decide) (by simp) (by simp) (one_elem c1 (fun j p hp => by
          have hj : j < (a.eval x).cells.size := by rw [← c1]; exact (List.getElem?_eq_some_iff.1 hp).1
          exact ⟨_, Array.getElem?_eq_getElem hj, c2 j p _ hp (Array.getElem?_eq_getElem hj), c3 _ (Array.getElem_mem hj)⟩))
    have hs3 := hs2.fill d hdn (p := .optr ⟨l, s.g, 0⟩ 0 0) (v := .pointer (some ⟨w.heap.size, 0, none⟩)) (by
      have := Rep.optr (M := M) (i := 0) (c := 0) (upd_same μ ⟨l, s.g, 0⟩ ⟨some w.heap.size, (a.eval x).cells.size, 1⟩) rfl
      simpa using this)
    exact wp_val hrun hd (hK _ _ _ _ _ hs3)
  · cases ok

end
end Go.Proofs.Ytbdknlejnacmgaa.Pi
