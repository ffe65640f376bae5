/-
  Calls: what a callee leaves is taken in.
-/
import Derived.Test.YtbdknlejnacmgaaPiP
namespace Go.Proofs.Ytbdknlejnacmgaa.Pi
open Go
set_option linter.unusedVariables false
set_option linter.unusedSimpArgs false

/-- The names of what a callee hands out. -/
def ownMap (ν : Nat → Option Blk) : NMap := fun n => if n.l = 1 ∧ n.g = 0 then ν n.j else none
/-- The name of the object that a callee may change. -/
def ioMap (bk : Option Blk) : NMap := fun n => if n = ⟨0, 0, 0⟩ then bk else none

/-- What a callee leaves behind. -/
structure Left (w0 : World) (M0 : Mem) (bk0 : Option Blk) (r : Ret) (v : Value) (w : World) (M : Mem) (ν : Nat → Option Blk) (β : Nat → Option Nat) : Prop where
  mle : MLe M0 M
  min : MIn M w
  mnew : ∀ b, b < w0.heap.size → M b = M0 b
  frame : ∀ b, b < w0.heap.size → bk0.bind (·.b) ≠ some b → w.heap[b]? = w0.heap[b]?
  grow : w0.heap.size ≤ w.heap.size
  nofz : NoFz w0.heap.size w
  os : w.os = w0.os
  tape : w.tape = w0.tape
  out : w.output = w0.output
  val : Rep M (ownMap ν) (one r.vs) v
  objs : ∀ (j : Nat) (o : Obj), r.own[j]? = some o → ∃ k, ν j = some k ∧ Cont M (ownMap ν) w k o ∧ ∀ b, k.b = some b → w0.heap.size ≤ b ∧ b < w.heap.size ∧ M b = none ∧ β b = some j
  kids : ∀ (j : Nat), r.own.length ≤ j → ν j = none
  cells : ∀ o ∈ r.own, ∀ x ∈ o.xs, ∀ p ∈ x, pu0 p = true ∨ inGroup 1 0 p = true
  one : r.own ≠ [] → ∃ sz len, r.vs = [.own ⟨1, 0, 0⟩ sz 0 len]
  io : ∀ o, r.io = some o → ∃ k, bk0 = some k ∧ Cont M noNm w k o ∧ o.pure = true

def CallPost (w0 : World) (M0 : Mem) (bk0 : Option Blk) (r : Ret) : Ending → World → Prop
  | .returned v, w => ∃ M ν β, Left w0 M0 bk0 r v w M ν β
  | _, _ => False

/-- The object that a callee may change. -/
abbrev IoOk (w : World) (M : Mem) (bk : Option Blk) : Option Obj → Prop
  | none => bk = none
  | some o => ∃ k, bk = some k ∧ Cont M noNm w k o ∧ o.pure = true ∧ ∀ b, k.b = some b → b < w.heap.size ∧ M b = none

/-- What it is for calls to be right. -/
def Good (P : Program) (F : CallF) : Prop :=
  ∀ f pa io r, F f pa io = some r → (∃ fn, P.funcs[f]? = some fn ∧ fn.body.isSome = true ∧ (fn.name == "runtime.NumGoroutine") = false) ∧ (io = none → r.io = none) ∧
    ∀ (w : World) (M : Mem) (args : Array Value) (bk : Option Blk), MIn M w → pa.length = args.size → (∀ (i : Nat) (p : PV) (v : Value), pa[i]? = some p → args[i]? = some v → Rep M (ioMap bk) p v) →
      IoOk w M bk io →
      Calls P f args w (CallPost w M bk r)

section
variable {P : Program} {base : Nat} {bio : Option Nat} {w0 : World} {M0 : Mem} {bk0 : Option Blk} {nt : Nat} {L : List Nat} {s : St} {M : Mem} {μ : NMap} {β : Nat → Option Nm} {a : Act} {w : World}

/-- The world grows, the memory that stands still grows. -/
theorem Sim.ext (h : Sim base bio w0 M0 bk0 nt L s M μ β a w) {M' : Mem} {w' : World} (hM : MLe M M') (hnew : ∀ b, b < w.heap.size → M' b = M b) (hin : MIn M' w')
    (hfr : ∀ b, b < w.heap.size → w'.heap[b]? = w.heap[b]?) (hsz : w.heap.size ≤ w'.heap.size) (hos : w'.os = w.os) (htp : w'.tape = w.tape) (hout : w'.output = w.output) (hnf : NoFz w.heap.size w') :
    Sim base bio w0 M0 bk0 nt L s M' μ β a w' where
  size := h.size
  defers := h.defers
  regs := fun t => (h.regs t).mono hM (NLe.refl _)
  objs := fun n o hn => by
    obtain ⟨k, hk, hc, hb⟩ := h.objs n o hn
    exact ⟨k, hk, hc.mono hM (NLe.refl _) (fun b hb => hfr b (h.lt n k b hk hb)), hb⟩
  unf := fun n o k b hn hz hk hb => by rw [hnew b (h.lt n k b hk hb)]; exact h.unf n o k b hn hz hk hb
  lt := fun n k b hn hb => Nat.lt_of_lt_of_le (h.lt n k b hn hb) hsz
  names := h.names
  min := hin
  os := hos.trans h.os
  tape := htp.trans h.tape
  out := hout.trans h.out
  grow := Nat.le_trans h.grow hsz
  nofz := fun b hb c ty fr hx => by
    rcases Nat.lt_or_ge b w.heap.size with h' | h'
    · rw [hfr b h'] at hx; exact h.nofz b hb c ty fr hx
    · exact hnf b h' c ty fr hx
  frame := fun b hb hi => by rw [hfr b (Nat.lt_of_lt_of_le hb h.grow)]; exact h.frame b hb hi
  mnew := fun b hb => by rw [hnew b (Nat.lt_of_lt_of_le hb h.grow)]; exact h.mnew b hb
  io := h.io
  io0 := h.io0
  pos := h.pos
  kids := h.kids
  bown := h.bown
  ioz := h.ioz

theorem ren_in {ν : Nat → Option Blk} {μ' : NMap} {l g : Nat} (hμ : ∀ j k, ν j = some k → μ' ⟨l, g, j⟩ = some k) {p : PV} {v : Value} (h : Rep M (ownMap ν) p v) (hp : pu0 p = true ∨ inGroup 1 0 p = true) :
    Rep M μ' (ren 1 0 l g p) v := by
  rcases hp with hp | hp
  · rw [ren_pu0 hp]; exact h.pure0 hp
  · cases p <;> simp [inGroup] at hp
    rename_i n sz off len
    obtain ⟨A, cap, bk, rfl, g1, g2, g3, g4, g5, g6, g7⟩ := own_inv h
    simp only [ren, hp.1, hp.2, beq_self_eq_true, Bool.and_self, cond_true]
    simp only [ownMap, hp.1, hp.2, and_self, if_true] at g1
    exact .own (hμ _ _ g1) g2 g3 g4 g5 g6 g7

/-- What a callee hands out becomes a group of ours. -/
theorem Sim.addOwn (h : Sim base bio w0 M0 bk0 nt L s M μ β a w) {B l : Nat} {os : List Obj} {ν : Nat → Option Blk} {β2 : Nat → Option Nat} (hl1 : 1 ≤ l) (hl : l ∉ L) (hB : base ≤ B)
    (hold : ∀ n k b, μ n = some k → k.b = some b → b < B)
    (ho : ∀ (j : Nat) (o : Obj), os[j]? = some o → ∃ k, ν j = some k ∧ Cont M (ownMap ν) w k o ∧ ∀ b, k.b = some b → B ≤ b ∧ b < w.heap.size ∧ M b = none ∧ β2 b = some j)
    (hk : ∀ (j : Nat), os.length ≤ j → ν j = none) (hc : ∀ o ∈ os, ∀ x ∈ o.xs, ∀ p ∈ x, pu0 p = true ∨ inGroup 1 0 p = true) :
    ∃ μ' β', NLe μ μ' ∧ (∀ j, μ' ⟨l, s.g, j⟩ = ν j) ∧ Sim base bio w0 M0 bk0 nt (l :: L) { s with h := { l := l, g := s.g, fz := false, os := os.map (renO 1 0 l s.g) } :: s.h } M μ' β' a w := by
  let μ' : NMap := fun n => if n.l = l ∧ n.g = s.g then ν n.j else μ n
  have hle : NLe μ μ' := by
    intro n k hn
    show (if n.l = l ∧ n.g = s.g then ν n.j else μ n) = some k
    by_cases e : n.l = l ∧ n.g = s.g
    · have := h.fresh hl n.j
      have en : n = ⟨l, s.g, n.j⟩ := by cases n; simp_all
      rw [← en] at this
      rw [this] at hn; cases hn
    · rw [if_neg e]; exact hn
  have hin : ∀ j, μ' ⟨l, s.g, j⟩ = ν j := fun j => by simp [μ']
  have hout : ∀ n : Nm, ¬ (n.l = l ∧ n.g = s.g) → μ' n = μ n := fun n e => by simp [μ', e]
  have oldobj : ∀ n o, hobj s.h n = some o → ¬ (n.l = l ∧ n.g = s.g) := by
    intro n o hn e
    obtain ⟨k, hk, _⟩ := h.objs n o hn
    have := h.fresh hl n.j
    have en : n = ⟨l, s.g, n.j⟩ := by cases n; simp_all
    rw [← en] at this
    rw [this] at hk; cases hk
  have newobj : ∀ (j : Nat) (o : Obj), (os.map (renO 1 0 l s.g))[j]? = some o → ∃ k, ν j = some k ∧ Cont M μ' w k o ∧ ∀ b, k.b = some b → B ≤ b ∧ b < w.heap.size ∧ M b = none ∧ β2 b = some j := by
    intro j o hj
    rw [List.getElem?_map, Option.map_eq_some_iff] at hj
    obtain ⟨o0, ho0, rfl⟩ := hj
    obtain ⟨k, h1, h2, h3⟩ := ho j o0 ho0
    refine ⟨k, h1, ?_, h3⟩
    have hcell := hc o0 (List.mem_of_getElem? ho0)
    obtain ⟨q1, q2, q3⟩ := h2
    have hrp : (renO 1 0 l s.g o0).pure = o0.pure := by unfold renO; cases hq : o0.pure <;> simp [hq]
    have hrx : (renO 1 0 l s.g o0).xs = o0.xs.map fun x => x.map (ren 1 0 l s.g) := by
      unfold renO
      cases hp : o0.pure with
      | false => rfl
      | true => simp only [cond_true]; rw [map_ren_pure (q1 hp)]
    refine ⟨fun hp x hx p hpx => ?_, q2, ?_⟩
    · rw [hrp] at hp
      rw [hrx, map_ren_pure (q1 hp)] at hx
      exact q1 hp x hx p hpx
    · cases hb : k.b with
      | none =>
        rw [hb] at q3
        exact ⟨by rw [hrx, q3.1]; rfl, q3.2⟩
      | some b =>
        rw [hb] at q3
        obtain ⟨c, ty, r1, r2, r3, r4⟩ := q3
        refine ⟨c, ty, r1, r2, by rw [hrx]; simpa using r3, fun i x hi => ?_⟩
        rw [hrx, List.getElem?_map, Option.map_eq_some_iff] at hi
        obtain ⟨x0, hx0, rfl⟩ := hi
        obtain ⟨t1, t2⟩ := r4 i x0 hx0
        refine ⟨by simpa using t1, fun j2 p hp => ?_⟩
        rw [List.getElem?_map, Option.map_eq_some_iff] at hp
        obtain ⟨p0, hp0, rfl⟩ := hp
        obtain ⟨v, u1, u2, u3⟩ := t2 j2 p0 hp0
        exact ⟨v, u1, ren_in (fun j k hk => by rw [hin]; exact hk) u2 (hcell x0 (List.mem_of_getElem? hx0) p0 (List.mem_of_getElem? hp0)), u3⟩
  refine ⟨μ', fun b => if B ≤ b then (β2 b).map fun j => ⟨l, s.g, j⟩ else β b, hle, hin, ?_⟩
  refine { h with regs := fun t => (h.regs t).mono (MLe.refl _) hle, objs := ?_, unf := ?_, lt := ?_, names := ?_, io0 := ?_, kids := ?_, bown := ?_, ioz := ?_ }
  · intro n o hn
    rw [hobj_cons] at hn
    split at hn
    · rename_i e
      obtain ⟨k, h1, h2, h3⟩ := newobj n.j o hn
      have en : n = ⟨l, s.g, n.j⟩ := by cases n; simp_all
      refine ⟨k, by rw [en, hin]; exact h1, h2, fun b hb => ?_⟩
      obtain ⟨g1, _, _, g4⟩ := h3 b hb
      show (if B ≤ b then (β2 b).map fun j => ⟨l, s.g, j⟩ else β b) = some n
      rw [if_pos g1, g4, Option.map_some, ← en]
    · obtain ⟨k, h1, h2, h3⟩ := h.objs n o hn
      refine ⟨k, by rw [hout n (oldobj n o hn)]; exact h1, h2.mono (MLe.refl _) hle (fun _ _ => rfl), fun b hb => ?_⟩
      have := hold n k b h1 hb
      show (if B ≤ b then (β2 b).map fun j => ⟨l, s.g, j⟩ else β b) = some n
      rw [if_neg (by omega)]
      exact h3 b hb
  · intro n o k b hn hz hk' hb
    rw [hobj_cons] at hn
    split at hn
    · rename_i e
      obtain ⟨k2, h1, h2, h3⟩ := newobj n.j o hn
      have en : n = ⟨l, s.g, n.j⟩ := by cases n; simp_all
      rw [en, hin, h1] at hk'
      cases hk'
      exact (h3 b hb).2.2.1
    · rename_i e
      rw [isFz_cons, if_neg e] at hz
      rw [hout n (oldobj n o hn)] at hk'
      exact h.unf n o k b hn hz hk' hb
  · intro n k b hn hb
    by_cases e : n.l = l ∧ n.g = s.g
    · have en : n = ⟨l, s.g, n.j⟩ := by cases n; simp_all
      rw [en, hin] at hn
      rcases Nat.lt_or_ge n.j os.length with hj | hj
      · obtain ⟨k2, h1, _, h3⟩ := ho n.j os[n.j] (List.getElem?_eq_getElem hj)
        rw [h1] at hn
        cases hn
        exact (h3 b hb).2.1
      · rw [hk _ hj] at hn; cases hn
    · rw [hout n e] at hn
      exact h.lt n k b hn hb
  · intro n k hn
    by_cases e : n.l = l ∧ n.g = s.g
    · exact .inr ⟨e.2, by rw [e.1]; simp⟩
    · rw [hout n e] at hn
      exact (h.names n k hn).imp id fun ⟨e, f⟩ => ⟨e, by simp [f]⟩
  · intro j g
    rw [hout _ (by simp; intro e; omega)]
    exact h.io0 j g
  · intro l' g' e he hne j hj
    rw [efind_cons] at he
    split at he
    · rename_i eq
      cases he
      obtain ⟨e1, e2⟩ := eq
      simp only at e1 e2
      subst e1; subst e2
      rw [hin]
      exact hk j (by simpa using hj)
    · rename_i eq
      rw [hout _ (fun e => eq ⟨e.1.symm, e.2.symm⟩)]
      exact h.kids l' g' e he hne j hj
  · intro b n hb
    split at hb
    · rename_i hge
      exact .inl (by omega)
    · exact h.bown b n hb
  · intro g
    refine ⟨(h.ioz g).1, fun e he => ?_⟩
    rw [efind_cons] at he
    split at he
    · cases he; rfl
    · exact (h.ioz g).2 e he

end
end Go.Proofs.Ytbdknlejnacmgaa.Pi
