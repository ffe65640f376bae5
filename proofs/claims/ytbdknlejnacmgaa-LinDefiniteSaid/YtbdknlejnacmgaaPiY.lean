/-
  From a law's arguments to ours: lists of numbers, lists of lists; and what a call leaves, as the law asks for it.
-/
import Derived.Test.YtbdknlejnacmgaaPiX
import Derived.Deep.Slices
namespace Go.Proofs.Ytbdknlejnacmgaa.Pi
open Go
set_option linter.unusedVariables false
set_option linter.unusedSimpArgs false

/-- The memory as it is. -/
def memOf (W : World) : Mem := fun b => match W.heap[b]? with | some (.cells c _ _) => some c | _ => none

theorem memOf_min (W : World) : MIn (memOf W) W := by
  intro b c h
  unfold memOf at h
  split at h
  · rename_i c' ty fr hh
    cases h
    exact ⟨ty, fr, hh⟩
  · cases h

theorem memOf_cell {W : World} {a : Addr} {v : Value} (h : W.cell? a = some v) : mcell (memOf W) a = some v := by
  unfold World.cell? at h
  unfold mcell memOf
  split at h
  · rename_i c ty fr hh
    rw [hh]
    exact h
  · cases h

def ints (k : IntKind) (zs : List Int) : PV := .view (zs.map fun z => [.int k z])
def rows (k : IntKind) (zss : List (List Int)) : PV := .view (zss.map fun zs => [ints k zs])

theorem each_map {α β : Type} {f : α → β} {R : α → Prop} : ∀ {ps : List β}, (∀ p ∈ ps, ∃ z, p = f z ∧ R z) → ∃ zs : List α, ps = zs.map f ∧ ∀ z ∈ zs, R z
  | [], _ => ⟨[], rfl, fun z h => by simp at h⟩
  | p :: ps, h => by
    obtain ⟨z, rfl, hz⟩ := h p (by simp)
    obtain ⟨zs, rfl, h2⟩ := each_map (ps := ps) fun q hq => h q (by simp [hq])
    refine ⟨z :: zs, rfl, fun y hy => ?_⟩
    rcases List.mem_cons.1 hy with rfl | hy
    · exact hz
    · exact h2 y hy

section
variable {P : Program} {H : Type} {enc : TypeId × Value → H} {W : World} {base : Nat} {spare : Nat → Bool} {held : Bool}

theorem slice_of_trod {R : PV → Prop} {t e : TypeId} {fuel : Nat} {cs : List Value} {x : DataW H × List MemPlace} (ht : P.underlying t = some (.slice e)) (hc : P.cellsOf e = 1)
    (hR : ∀ n c y, DataW.trod enc P W base spare held n e [c] = some y → ∃ p, R p ∧ Rep (memOf W) noNm p c ∧ c.oneCell' = true)
    (h : DataW.trod enc P W base spare held fuel t cs = some x) : ∃ (v : Value) (ps : List PV), cs = [v] ∧ ps.length ≤ maxLen ∧ (∀ p ∈ ps, R p) ∧ Rep (memOf W) noNm (.view (ps.map fun p => [p])) v ∧ v.oneCell' = true := by
  rcases Go.Deep.open_slice1 ht hc h with ⟨rfl, _⟩ | ⟨a, len, cap, m, n, V, D, Pl, rfl, hb, hl, hm, hmm, _, hx⟩
  · exact ⟨_, [], rfl, Nat.zero_le _, fun p h => by simp at h, .view 1 (fun _ _ => undef) (Nat.le_refl _) (by simp) (by simp) (by simp), rfl⟩
  · have hlm : len ≤ m := by
      rw [hmm]
      split <;> omega
    have hex : ∀ i, ∃ p, i < len → R p ∧ Rep (memOf W) noNm p (V i) ∧ (V i).oneCell' = true := by
      intro i
      rcases Nat.lt_or_ge i len with hi | hi
      · obtain ⟨p, hp⟩ := hR _ _ _ (hx i (by omega)).2
        exact ⟨p, fun _ => hp⟩
      · exact ⟨.any, fun h => absurd h (by omega)⟩
    let f : Nat → PV := fun i => Classical.choose (hex i)
    have hf : ∀ i, i < len → R (f i) ∧ Rep (memOf W) noNm (f i) (V i) ∧ (V i).oneCell' = true := fun i => Classical.choose_spec (hex i)
    refine ⟨_, (List.range len).map f, rfl, by simp; omega, fun p hp => ?_, ?_, rfl⟩
    · obtain ⟨i, hi, rfl⟩ := List.mem_map.1 hp
      exact (hf i (by simpa using hi)).1
    · have hlen : (((List.range len).map f).map fun p => [p]).length = len := by simp
      have get : ∀ (i : Nat) (y : List PV) (j : Nat) (q : PV), (((List.range len).map f).map fun p => [p])[i]? = some y → y[j]? = some q → i < len ∧ j = 0 ∧ q = f i := by
        intro i y j q hi hj
        have hil : i < len := by have := (List.getElem?_eq_some_iff.1 hi).1; simpa using this
        rw [List.getElem?_map, List.getElem?_map, List.getElem?_range hil] at hi
        simp only [Option.map_some, Option.some.injEq] at hi
        subst hi
        cases j with
        | zero => simp at hj; exact ⟨hil, rfl, hj.symm⟩
        | succ j => simp at hj
      have := Rep.view (M := memOf W) (μ := noNm) (xs := ((List.range len).map f).map fun p => [p]) (A := some a) (cap := cap) 1 (fun i _ => V i) (by rw [hlen]; exact hl)
        (fun i y hi => by
          obtain ⟨q, _, rfl⟩ := List.mem_map.1 (List.mem_of_getElem? hi)
          rfl)
        (fun i y j q hi hj => by
          obtain ⟨h1, rfl, rfl⟩ := get i y j q hi hj
          refine ⟨a, rfl, ?_, (hf i h1).2.2⟩
          have := memOf_cell (hx i (by omega)).1
          simpa using this)
        (fun i y j q hi hj => by
          obtain ⟨h1, rfl, rfl⟩ := get i y j q hi hj
          exact (hf i h1).2.1)
      rw [hlen] at this
      exact this

theorem int_of_trod {e : TypeId} {k : IntKind} {fuel : Nat} {c : Value} {y : DataW H × List MemPlace} (he : P.underlying e = some (.int k)) (h : DataW.trod enc P W base spare held fuel e [c] = some y) :
    ∃ z, c = .int k z ∧ (Lit.int k z).wf = true := by
  cases fuel with
  | zero => simp [DataW.trod] at h
  | succ m =>
    unfold DataW.trod at h
    rw [he] at h
    split at h <;> simp_all

theorem ints_of_trod {t e : TypeId} {k : IntKind} {fuel : Nat} {cs : List Value} {x : DataW H × List MemPlace} (ht : P.underlying t = some (.slice e)) (he : P.underlying e = some (.int k)) (hc : P.cellsOf e = 1)
    (h : DataW.trod enc P W base spare held fuel t cs = some x) : ∃ (v : Value) (zs : List Int), cs = [v] ∧ zs.length ≤ maxLen ∧ (∀ z ∈ zs, (Lit.int k z).wf = true) ∧ Rep (memOf W) noNm (ints k zs) v ∧ v.oneCell' = true := by
  obtain ⟨v, ps, rfl, h1, h2, h3, h4⟩ := slice_of_trod (R := fun p => ∃ z, p = .int k z ∧ (Lit.int k z).wf = true) ht hc (fun n c y hy => by
    obtain ⟨z, rfl, hz⟩ := int_of_trod he hy
    exact ⟨_, ⟨z, rfl, hz⟩, .int _ _, rfl⟩) h
  obtain ⟨zs, rfl, hz⟩ := each_map (f := fun z => PV.int k z) h2
  rw [List.map_map] at h3
  exact ⟨v, zs, rfl, by simpa using h1, hz, h3, h4⟩

theorem rows_of_trod {t r e : TypeId} {k : IntKind} {fuel : Nat} {cs : List Value} {x : DataW H × List MemPlace} (ht : P.underlying t = some (.slice r)) (hr : P.underlying r = some (.slice e)) (he : P.underlying e = some (.int k)) (hcr : P.cellsOf r = 1) (hc : P.cellsOf e = 1)
    (h : DataW.trod enc P W base spare held fuel t cs = some x) :
    ∃ (v : Value) (zss : List (List Int)), cs = [v] ∧ zss.length ≤ maxLen ∧ (∀ zs ∈ zss, zs.length ≤ maxLen ∧ ∀ z ∈ zs, (Lit.int k z).wf = true) ∧ Rep (memOf W) noNm (rows k zss) v := by
  obtain ⟨v, ps, rfl, h1, h2, h3, _⟩ := slice_of_trod (R := fun p => ∃ zs, p = ints k zs ∧ (zs.length ≤ maxLen ∧ ∀ z ∈ zs, (Lit.int k z).wf = true)) ht hcr (fun n c y hy => by
    obtain ⟨v, zs, hv, g1, g2, g3, g4⟩ := ints_of_trod hr he hc hy
    cases hv
    exact ⟨_, ⟨zs, rfl, g1, g2⟩, g3, g4⟩) h
  obtain ⟨zss, rfl, hz⟩ := each_map (f := fun zs => ints k zs) h2
  rw [List.map_map] at h3
  exact ⟨v, zss, rfl, by simpa using h1, hz, h3⟩

theorem arg_slice {r : Reach} {b0 : Nat} {t e : TypeId} {v : Value} (ht : P.underlying t = some (.slice e)) (hval : Value.okWide P W r b0 t v) : v.cells.toList = [v] := by
  unfold Value.okWide at hval
  rw [ht] at hval
  unfold Cell.okWide at hval
  rw [ht] at hval
  unfold Cell.ok at hval
  rw [ht] at hval
  cases v <;> first | rfl | exact hval.elim

theorem arg_ints {r : Reach} {b0 : Nat} {t e : TypeId} {k : IntKind} {v : Value} {d : DataW H} {ps : List MemPlace} (ht : P.underlying t = some (.slice e)) (he : P.underlying e = some (.int k)) (hc : P.cellsOf e = 1)
    (hval : Value.okWide P W r b0 t v) (hd : DataW.Trod enc P W base spare held t v d ps) : ∃ zs : List Int, zs.length ≤ maxLen ∧ (∀ z ∈ zs, (Lit.int k z).wf = true) ∧ Rep (memOf W) noNm (ints k zs) v := by
  obtain ⟨fuel, hf⟩ := hd
  obtain ⟨v', zs, h0, h1, h2, h3, _⟩ := ints_of_trod ht he hc hf
  rw [arg_slice ht hval] at h0
  cases h0
  exact ⟨zs, h1, h2, h3⟩

theorem arg_rows {r : Reach} {b0 : Nat} {t u e : TypeId} {k : IntKind} {v : Value} {d : DataW H} {ps : List MemPlace} (ht : P.underlying t = some (.slice u)) (hr : P.underlying u = some (.slice e)) (he : P.underlying e = some (.int k)) (hcr : P.cellsOf u = 1) (hc : P.cellsOf e = 1)
    (hval : Value.okWide P W r b0 t v) (hd : DataW.Trod enc P W base spare held t v d ps) : ∃ zss : List (List Int), zss.length ≤ maxLen ∧ (∀ zs ∈ zss, zs.length ≤ maxLen ∧ ∀ z ∈ zs, (Lit.int k z).wf = true) ∧ Rep (memOf W) noNm (rows k zss) v := by
  obtain ⟨fuel, hf⟩ := hd
  obtain ⟨v', zss, h0, h1, h2, h3⟩ := rows_of_trod ht hr he hcr hc hf
  rw [arg_slice ht hval] at h0
  cases h0
  exact ⟨zss, h1, h2, h3⟩

/-- A law's call: it returns true, and what was there stays. -/
theorem law_calls {F : CallF} (hG : Good P F) {f : Nat} {pa : List PV} {args : Array Value} (hF : F f pa none = some ⟨[.bool true], [], none⟩) (hl : pa.length = args.size)
    (hr : ∀ (i : Nat) (p : PV) (v : Value), pa[i]? = some p → args[i]? = some v → Rep (memOf W) noNm p v) :
    Calls P f args W fun e W' => e = .returned (.bool true) ∧ Go.RowKit.Below W.heap.size W W' ∧ NoFz W.heap.size W' := by
  obtain ⟨_, _, h⟩ := hG f pa none _ hF
  refine (h W (memOf W) args none (memOf_min W) hl (fun i p v hp hv => (hr i p v hp hv).mono (MLe.refl _) (NLe.noNm _)) rfl).mono fun e W' he => ?_
  cases e with
  | returned v =>
    obtain ⟨M, ν, β, hL⟩ := he
    have hv := hL.val
    cases hv
    exact ⟨rfl, ⟨hL.os, hL.tape, hL.out, hL.grow, fun k hk => hL.frame k hk (by simp)⟩, hL.nofz⟩
  | panicked _ => exact he.elim
  | outgrown => exact he.elim

theorem frozen_same {W W' : World} (hb : Go.RowKit.Below W.heap.size W W') (hn : NoFz W.heap.size W') (a : Addr) : W'.frozen? a = W.frozen? a := by
  rcases Nat.lt_or_ge a.block W.heap.size with h | h
  · exact hb.frozen h
  · have e1 : W.frozen? a = false := by
      unfold World.frozen?
      rw [Array.getElem?_eq_none h]
    rw [e1]
    unfold World.frozen?
    split
    · rename_i c ty lo hi hh
      have := hn _ h _ _ _ hh
      cases this
      simp
    · rfl

end
end Go.Proofs.Ytbdknlejnacmgaa.Pi
