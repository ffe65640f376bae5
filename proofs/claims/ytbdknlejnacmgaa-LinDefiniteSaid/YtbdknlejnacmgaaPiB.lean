/-
  What it is for a value of the model's to be one of ours, in a memory of which a part stands still and a part is the call's own.
-/
import Derived.Test.YtbdknlejnacmgaaRows
import Derived.WalkKit
import Derived.ProofKit
import Derived.OpenShut
import Derived.Below
import Derived.Orders
import Derived.Test.YtbdknlejnacmgaaPiA
namespace Go.Proofs.Ytbdknlejnacmgaa.Pi
open Go
set_option linter.unusedVariables false
set_option linter.unusedSimpArgs false

/-- Memory that stands still: of each of its blocks all cells. -/
abbrev Mem := Nat → Option (Array Value)
/-- Where an object lies: its block (none: it is nil), how many cells an element has, for how many there is room. -/
structure Blk where
  b : Option Nat
  sz : Nat
  tot : Nat
abbrev NMap := Nm → Option Blk
def noNm : NMap := fun _ => none

def mcell (M : Mem) (a : Addr) : Option Value :=
  match M a.block with
  | some c => if a.spot.isSome then none else c[a.off]?
  | none => none

inductive Rep (M : Mem) : NMap → PV → Value → Prop
  | any {μ : NMap} {v : Value} : Rep M μ .any v
  | bool {μ : NMap} (b : Bool) : Rep M μ (.bool b) (.bool b)
  | int {μ : NMap} (k : IntKind) (n : Int) : Rep M μ (.int k n) (.int k n)
  | str {μ : NMap} {l : List Nat} {s : ByteArray} (h : s.data.toList.map UInt8.toNat = l) : Rep M μ (.str l) (.string s)
  | agg {μ : NMap} {cs : List PV} {vs : Array Value} (hl : cs.length = vs.size) (h1 : ∀ (i : Nat) (v : Value), vs[i]? = some v → v.oneCell' = true)
      (h : ∀ (i : Nat) (p : PV) (v : Value), cs[i]? = some p → vs[i]? = some v → Rep M μ p v) : Rep M μ (.agg cs) (.agg vs)
  | tuple {μ : NMap} {cs : List PV} {vs : Array Value} (hl : cs.length = vs.size)
      (h : ∀ (i : Nat) (p : PV) (v : Value), cs[i]? = some p → vs[i]? = some v → Rep M μ p v) : Rep M μ (.tuple cs) (.tuple vs)
  | view {μ : NMap} {xs : List (List PV)} {A : Option Addr} {cap : Nat} (sz : Nat) (c : Nat → Nat → Value) (hc : xs.length ≤ cap)
      (hs : ∀ (i : Nat) (x : List PV), xs[i]? = some x → x.length = sz)
      (hm : ∀ (i : Nat) (x : List PV) (j : Nat) (p : PV), xs[i]? = some x → x[j]? = some p → ∃ a : Addr, A = some a ∧ mcell M (a.add (i * sz + j)) = some (c i j) ∧ (c i j).oneCell' = true)
      (h : ∀ (i : Nat) (x : List PV) (j : Nat) (p : PV), xs[i]? = some x → x[j]? = some p → Rep M noNm p (c i j)) : Rep M μ (.view xs) (.slice A xs.length cap)
  | nil0 {μ : NMap} {A : Option Addr} : Rep M μ .nil0 (.slice A 0 0)
  | own {μ : NMap} {n : Nm} {sz off len cap : Nat} {A : Option Addr} {bk : Blk} (hn : μ n = some bk) (hq : bk.sz = sz) (hl : len ≤ cap) (ht : off + cap = bk.tot) (hm : bk.tot ≤ maxLen)
      (ha : off = 0 ∨ 0 < cap → (bk.b = none ∧ A = none) ∨ ∃ b : Nat, bk.b = some b ∧ A = some ⟨b, off * bk.sz, none⟩) (hz : bk.b = none → bk.tot = 0) : Rep M μ (.own n sz off len) (.slice A len cap)
  | optr {μ : NMap} {n : Nm} {i c b : Nat} {bk : Blk} (hn : μ n = some bk) (hb : bk.b = some b) : Rep M μ (.optr n i c) (.pointer (some ⟨b, i * bk.sz + c, none⟩))
  | vptr {μ : NMap} {x : List PV} {a : Addr} (c : Nat → Value) (hm : ∀ (j : Nat) (p : PV), x[j]? = some p → mcell M (a.add j) = some (c j) ∧ (c j).oneCell' = true)
      (h : ∀ (j : Nat) (p : PV), x[j]? = some p → Rep M noNm p (c j)) : Rep M μ (.vptr x) (.pointer (some a))
  | fn {μ : NMap} {f : Nat} {cap : List PV} {vs : Array Value} (hl : cap.length = vs.size)
      (h : ∀ (i : Nat) (p : PV) (v : Value), cap[i]? = some p → vs[i]? = some v → Rep M μ p v) : Rep M μ (.fn f cap) (.func (.func f) #[] vs)

def MLe (M M' : Mem) : Prop := ∀ b c, M b = some c → M' b = some c
def NLe (μ μ' : NMap) : Prop := ∀ n k, μ n = some k → μ' n = some k
theorem MLe.refl (M : Mem) : MLe M M := fun _ _ h => h
theorem NLe.refl (μ : NMap) : NLe μ μ := fun _ _ h => h
theorem MLe.trans {a b c : Mem} (h : MLe a b) (k : MLe b c) : MLe a c := fun _ _ x => k _ _ (h _ _ x)
theorem NLe.trans {a b c : NMap} (h : NLe a b) (k : NLe b c) : NLe a c := fun _ _ x => k _ _ (h _ _ x)
theorem NLe.noNm (μ : NMap) : NLe noNm μ := fun _ _ h => by cases h

theorem mcell_mono {M M' : Mem} (h : MLe M M') {a : Addr} {v : Value} (hc : mcell M a = some v) : mcell M' a = some v := by
  unfold mcell at hc ⊢
  cases hb : M a.block with
  | none => rw [hb] at hc; cases hc
  | some c => rw [hb] at hc; rw [h _ _ hb]; exact hc

theorem Rep.mono {M M' : Mem} (hM : MLe M M') {μ : NMap} {p : PV} {v : Value} (h : Rep M μ p v) : ∀ {μ' : NMap}, NLe μ μ' → Rep M' μ' p v := by
  induction h with
  | any => intro _ _; exact .any
  | bool b => intro _ _; exact .bool b
  | int k n => intro _ _; exact .int k n
  | str h => intro _ _; exact .str h
  | agg hl h1 _ ih => intro _ hμ; exact .agg hl h1 fun i p v hp hv => ih i p v hp hv hμ
  | tuple hl _ ih => intro _ hμ; exact .tuple hl fun i p v hp hv => ih i p v hp hv hμ
  | view sz c hc hs hm _ ih =>
    intro _ _
    exact .view sz c hc hs (fun i x j p hx hp => let ⟨a, e, h1, h2⟩ := hm i x j p hx hp; ⟨a, e, mcell_mono hM h1, h2⟩) fun i x j p hx hp => ih i x j p hx hp (NLe.refl _)
  | nil0 => intro _ _; exact .nil0
  | own hn hq hl ht hm ha hz => intro _ hμ; exact .own (hμ _ _ hn) hq hl ht hm ha hz
  | optr hn hb => intro _ hμ; exact .optr (hμ _ _ hn) hb
  | vptr c hm _ ih => intro _ _; exact .vptr c (fun j p hp => ⟨mcell_mono hM (hm j p hp).1, (hm j p hp).2⟩) fun j p hp => ih j p hp (NLe.refl _)
  | fn hl _ ih => intro _ hμ; exact .fn hl fun i p v hp hv => ih i p v hp hv hμ

/-- What names no object is the same whatever names there are. -/
theorem Rep.pure00 {M : Mem} {μ μ' : NMap} {p : PV} {v : Value} (hp : pu00 p = true) (h : Rep M μ p v) : Rep M μ' p v := by
  cases h <;> first | (simp [pu00] at hp; done) | exact .bool _ | exact .int _ _ | exact .nil0 | skip
  case str h => exact .str h
  case view sz c hc hs hm h => exact .view sz c hc hs hm h
  case vptr c hm h => exact .vptr c hm h

theorem Rep.pure0 {M : Mem} {μ μ' : NMap} {p : PV} {v : Value} (hp : pu0 p = true) (h : Rep M μ p v) : Rep M μ' p v := by
  cases h <;> first | (simp [pu0] at hp; done) | exact .bool _ | exact .int _ _ | exact .nil0 | skip
  case str h => exact .str h
  case view sz c hc hs hm h => exact .view sz c hc hs hm h
  case vptr c hm h => exact .vptr c hm h
  case fn cap vs hl h =>
    simp only [pu0, List.all_eq_true] at hp
    exact .fn hl fun i p v hi hv => (h i p v hi hv).pure00 (hp p (List.mem_of_getElem? hi))

theorem Rep.pure {M : Mem} {μ μ' : NMap} {p : PV} {v : Value} (hp : pu p = true) (h : Rep M μ p v) : Rep M μ' p v := by
  cases h with
  | agg hl h1 h =>
    simp only [pu, List.all_eq_true] at hp
    exact .agg hl h1 fun i p v hi hv => (h i p v hi hv).pure0 (hp p (List.mem_of_getElem? hi))
  | tuple hl h =>
    simp only [pu, List.all_eq_true] at hp
    exact .tuple hl fun i p v hi hv => (h i p v hi hv).pure0 (hp p (List.mem_of_getElem? hi))
  | any => simp [pu, pu0] at hp
  | own _ _ _ _ _ _ _ => simp [pu, pu0] at hp
  | optr _ _ => simp [pu, pu0] at hp
  | bool b => exact .bool b
  | int k n => exact .int k n
  | str h => exact .str h
  | nil0 => exact .nil0
  | view sz c hc hs hm h => exact .view sz c hc hs hm h
  | vptr c hm h => exact .vptr c hm h
  | fn hl h =>
    simp only [pu, pu0, List.all_eq_true] at hp
    exact .fn hl fun i p v hi hv => (h i p v hi hv).pure00 (hp p (List.mem_of_getElem? hi))

theorem Rep.flat_ {M : Mem} {μ : NMap} {p : PV} {v : Value} (hf : flat p = true) (h : Rep M μ p v) : v.oneCell' = true := by
  cases h <;> first | (simp [Pi.flat] at hf; done) | rfl

theorem cells_one {v : Value} (h : v.oneCell' = true) : v.cells = #[v] := by
  cases v <;> first | rfl | (simp [Value.oneCell'] at h)

/-- The cells of a value. -/
theorem Rep.cells {M : Mem} {μ : NMap} {p : PV} {v : Value} (h : Rep M μ p v) (hf : (cellsOf p).all Pi.flat = true) :
    (cellsOf p).length = v.cells.size ∧ (∀ (i : Nat) (q : PV) (u : Value), (cellsOf p)[i]? = some q → v.cells[i]? = some u → Rep M μ q u) ∧ ∀ u ∈ v.cells, u.oneCell' = true := by
  have key : Pi.flat p = true → cellsOf p = [p] → (cellsOf p).length = v.cells.size ∧ (∀ (i : Nat) (q : PV) (u : Value), (cellsOf p)[i]? = some q → v.cells[i]? = some u → Rep M μ q u) ∧ ∀ u ∈ v.cells, u.oneCell' = true := by
    intro hp hc
    have h1 := h.flat_ hp
    rw [hc, cells_one h1]
    refine ⟨rfl, fun i q u hq hu => ?_, fun u hu => ?_⟩
    · cases i with
      | zero => simp at hq hu; subst hq; subst hu; exact h
      | succ i => simp at hq
    · simp at hu; subst hu; exact h1
  cases h with
  | agg hl h1 h =>
    refine ⟨hl, h, fun u hu => ?_⟩
    obtain ⟨i, hi⟩ := Array.mem_iff_getElem?.1 hu
    exact h1 i u hi
  | any => simp [cellsOf, Pi.flat] at hf
  | tuple _ _ => simp [cellsOf, Pi.flat] at hf
  | _ => exact key rfl rfl

/-- An object as it lies. -/
def Cont (M : Mem) (μ : NMap) (w : World) (k : Blk) (o : Obj) : Prop :=
  (o.pure = true → ∀ x ∈ o.xs, ∀ p ∈ x, pu0 p = true) ∧ k.tot ≤ maxLen ∧
  match k.b with
  | none => o.xs = [] ∧ k.tot = 0
  | some b => ∃ c ty, w.heap[b]? = some (.cells c ty (0, 0)) ∧ c.size = k.tot * k.sz ∧ o.xs.length ≤ k.tot ∧
      ∀ i x, o.xs[i]? = some x → x.length = k.sz ∧ ∀ j p, x[j]? = some p → ∃ v, c[i * k.sz + j]? = some v ∧ Rep M μ p v ∧ v.oneCell' = true

theorem Cont.mono {M M' : Mem} {μ μ' : NMap} {w w' : World} {k : Blk} {o : Obj} (hM : MLe M M') (hμ : NLe μ μ') (hw : ∀ b, k.b = some b → w'.heap[b]? = w.heap[b]?) (h : Cont M μ w k o) : Cont M' μ' w' k o := by
  obtain ⟨h1, h2, h⟩ := h
  refine ⟨h1, h2, ?_⟩
  cases hb : k.b with
  | none => rw [hb] at h; exact h
  | some b =>
    rw [hb] at h
    obtain ⟨c, ty, hh, hs, hl, hx⟩ := h
    refine ⟨c, ty, by rw [hw b hb]; exact hh, hs, hl, fun i x hi => ⟨(hx i x hi).1, fun j p hj => ?_⟩⟩
    obtain ⟨v, hv, hr, hf⟩ := (hx i x hi).2 j p hj
    exact ⟨v, hv, hr.mono hM hμ, hf⟩

def MIn (M : Mem) (w : World) : Prop := ∀ b c, M b = some c → ∃ ty fr, w.heap[b]? = some (.cells c ty fr)

theorem MIn.cell {M : Mem} {w : World} (h : MIn M w) {a : Addr} {v : Value} (hc : mcell M a = some v) : w.cell? a = some v := by
  unfold mcell at hc
  cases hb : M a.block with
  | none => rw [hb] at hc; cases hc
  | some c =>
    rw [hb] at hc
    obtain ⟨ty, fr, hh⟩ := h _ _ hb
    simp only [World.cell?, hh]
    exact hc

theorem add_add (a : Addr) (m n : Nat) : (a.add m).add n = a.add (m + n) := by
  unfold Addr.add
  by_cases hm : m = 0
  · subst hm; simp
  · by_cases hn : n = 0
    · subst hn; simp
    · simp [hm, hn, Nat.add_assoc]

theorem add_none (b o n : Nat) : (⟨b, o, none⟩ : Addr).add n = ⟨b, o + n, none⟩ := by
  unfold Addr.add
  split
  · simp_all
  · rfl

/-- From a block on nothing is frozen. -/
def NoFz (B : Nat) (w : World) : Prop := ∀ b, B ≤ b → ∀ c ty fr, w.heap[b]? = some (.cells c ty fr) → fr = (0, 0)

/-- The state of our machine and the frame's. 'L': labels that this region has used. -/
structure Sim (base : Nat) (bio : Option Nat) (w0 : World) (M0 : Mem) (bk0 : Option Blk) (nt : Nat) (L : List Nat) (s : St) (M : Mem) (μ : NMap) (β : Nat → Option Nm) (a : Act) (w : World) : Prop where
  size : a.tmps.size = nt
  defers : a.defers = []
  regs : ∀ t, Rep M μ (rget s.t t) (a.tmps.getD t undef)
  objs : ∀ n o, hobj s.h n = some o → ∃ k, μ n = some k ∧ Cont M μ w k o ∧ ∀ b, k.b = some b → β b = some n
  unf : ∀ n o k b, hobj s.h n = some o → isFz s.h s.z n = false → μ n = some k → k.b = some b → M b = none
  lt : ∀ n k b, μ n = some k → k.b = some b → b < w.heap.size
  names : ∀ n k, μ n = some k → n.g < s.g ∨ (n.g = s.g ∧ n.l ∈ L)
  min : MIn M w
  os : w.os = w0.os
  tape : w.tape = w0.tape
  out : w.output = w0.output
  grow : base ≤ w.heap.size
  nofz : NoFz base w
  frame : ∀ b, b < base → bio ≠ some b → w.heap[b]? = w0.heap[b]?
  mnew : ∀ b, b < base → M b = M0 b
  io : ∀ b, bio = some b → b < base ∧ M0 b = none
  io0 : ∀ j g, μ ⟨0, g, j⟩ = (if j = 0 ∧ g = 0 then bk0 else none)
  pos : 1 ≤ s.g
  kids : ∀ l g e, efind s.h l g = some e → e.os ≠ [] → ∀ j, e.os.length ≤ j → μ ⟨l, g, j⟩ = none
  bown : ∀ b n, β b = some n → base ≤ b ∨ (bio = some b ∧ n = ⟨0, 0, 0⟩)
  ioz : ∀ g, zin s.z 0 g = false ∧ ∀ e, efind s.h 0 g = some e → e.fz = false

end Go.Proofs.Ytbdknlejnacmgaa.Pi
