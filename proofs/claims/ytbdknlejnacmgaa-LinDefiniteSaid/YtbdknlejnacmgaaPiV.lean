/-
  Regions and code.
-/
import Derived.Test.YtbdknlejnacmgaaPiU
namespace Go.Proofs.Ytbdknlejnacmgaa.Pi
open Go
set_option linter.unusedVariables false
set_option linter.unusedSimpArgs false

section
variable {P : Program} {base : Nat} {bio : Option Nat} {w0 : World} {M0 : Mem} {bk0 : Option Blk} {nt : Nat} {L : List Nat} {s : St} {M : Mem} {μ : NMap} {β : Nat → Option Nm} {a : Act} {w : World}
variable {Q : Exit → Act → World → Prop} {F : CallF}

/-- What holds wherever our machine's state is the frame's. -/
def Whenever (base : Nat) (bio : Option Nat) (w0 : World) (M0 : Mem) (bk0 : Option Blk) (nt : Nat) (s : St) (K : Act → World → Prop) : Prop :=
  ∀ L M μ β a w, Sim base bio w0 M0 bk0 nt L s M μ β a w → K a w

theorem Whenever.eqv {s t : St} {K : Act → World → Prop} (h : Whenever base bio w0 M0 bk0 nt s K) (e : Eqv s t) : Whenever base bio w0 M0 bk0 nt t K :=
  fun L M μ β a w hs => h L M μ β a w (hs.congr e.symm)

theorem Goes.of_when {K : Act → World → Prop} {L : List Nat} {a : Act} {d : Option Nat} (h : Whenever base bio w0 M0 bk0 nt s K) : Goes K base bio w0 M0 bk0 nt L s a d :=
  fun M μ β v w hs => h L M μ β _ w hs

theorem nodup_mem : ∀ {l : List Nat} {r : List Nat}, nodupB (l ++ r) = true → nodupB l = true ∧ nodupB r = true ∧ ∀ x ∈ l, x ∉ r
  | [], r, h => ⟨rfl, h, fun x hx => by simp at hx⟩
  | y :: l, r, h => by
    obtain ⟨h1, h2⟩ := nodupB_cons (l := l ++ r) h
    obtain ⟨g1, g2, g3⟩ := nodup_mem h2
    refine ⟨?_, g2, fun x hx => ?_⟩
    · simp only [nodupB, Bool.and_eq_true, Bool.not_eq_true']
      refine ⟨?_, g1⟩
      have : y ∉ l := fun h => h1 (List.mem_append.2 (.inl h))
      simpa using this
    · rcases List.mem_cons.1 hx with rfl | hx
      · exact fun h => h1 (List.mem_append.2 (.inr h))
      · exact g3 x hx

/-- Operations in the order of the list. -/
theorem ops_seq (hG : Good P F) {ops : Array Oper} : ∀ (ps : List POper) (k : Nat) {L : List Nat} {s s' : St} {M : Mem} {μ : NMap} {β : Nat → Option Nm} {a : Act} {w : World}, Sim base bio w0 M0 bk0 nt L s M μ β a w →
    (∀ j p, ps[j]? = some p → ∃ o, ops[k + j]? = some o ∧ okOper P nt ops o p = true) → nodupB (ps.flatMap fun p => p.op.cl) = true → (∀ l ∈ ps.flatMap fun p => p.op.cl, l ∉ L) →
    runOps F ps s = some s' → Whenever base bio w0 M0 bk0 nt s' (Q .normal) → wpOps P ops Q (List.range' k ps.length) a w
  | [], k, L, s, s', M, μ, β, a, w, hs, _, _, _, hr, hQ => by
    simp only [runOps, Option.some.injEq] at hr
    subst hr
    exact hQ _ _ _ _ _ _ hs
  | p :: ps, k, L, s, s', M, μ, β, a, w, hs, hok, hnd, hfr, hr, hQ => by
    simp only [runOps] at hr
    obtain ⟨e, he, hr⟩ := Option.bind_eq_some_iff.1 hr
    simp only [List.flatMap_cons] at hnd hfr
    obtain ⟨n1, n2, n3⟩ := nodup_mem hnd
    obtain ⟨o, ho, hop⟩ := hok 0 p rfl
    rw [List.length_cons, List.range'_succ, wpOps_cons]
    refine gd_sound hG hs (by simpa using ho) hop (fun l hl => hfr l (List.mem_append.2 (.inl hl))) n1 he (fun M' μ' β' v w' hs' => ?_)
    refine ops_seq hG ps (k + 1) hs' (fun j q hj => ?_) n2 (fun l hl => ?_) hr hQ
    · obtain ⟨o', h1, h2⟩ := hok (j + 1) q (by simpa using hj)
      exact ⟨o', by rw [← h1]; congr 1; omega, h2⟩
    · intro hm
      rcases List.mem_append.1 hm with h | h
      · exact n3 l h hl
      · exact hfr l (List.mem_append.2 (.inr hl)) h

theorem okOpers_get {ops : Array Oper} : ∀ {os : List Oper} {ps : List POper}, okOpers P nt ops os ps = true → os.length = ps.length ∧ ∀ (j : Nat) (p : POper), ps[j]? = some p → ∃ o, os[j]? = some o ∧ okOper P nt ops o p = true
  | [], [], _ => ⟨rfl, fun j p h => by simp at h⟩
  | o :: os, p :: ps, h => by
    simp only [okOpers, Bool.and_eq_true] at h
    obtain ⟨h1, h2⟩ := okOpers_get h.2
    refine ⟨by simp [h1], fun j q hj => ?_⟩
    cases j with
    | zero => simp at hj; subst hj; exact ⟨o, rfl, h.1⟩
    | succ j => simp at hj; obtain ⟨o', h3, h4⟩ := h2 j q hj; exact ⟨o', by simpa using h3, h4⟩
  | [], _ :: _, h => by simp [okOpers] at h
  | _ :: _, [], h => by simp [okOpers] at h

/-! ### Any order -/
/-- What is left to do: the places not yet listed, in the order of the text. -/
def left (n : Nat) (listed : Array Bool) : List Nat := (List.range n).filter fun i => !listed.getD i true

theorem mem_left {n i : Nat} {listed : Array Bool} : i ∈ left n listed ↔ i < n ∧ listed.getD i true = false := by
  simp [left]

theorem getD_set (listed : Array Bool) (i j : Nat) (d : Bool) (hi : i < listed.size) : (listed.setIfInBounds i true).getD j d = if i = j then true else listed.getD j d := by
  simp only [Array.getD_eq_getD_getElem?, Array.getElem?_setIfInBounds]
  by_cases h : i = j
  · subst h; simp [hi]
  · simp [h]

theorem filter_split {l : List Nat} {i : Nat} (hs : l.Pairwise (· < ·)) (hi : i ∈ l) (f : Nat → Bool) (hf : f i = true) :
    ∃ pre post, l.filter f = pre ++ i :: post ∧ (l.filter fun j => f j && !(j == i)) = pre ++ post ∧ ∀ j ∈ pre, j < i := by
  induction l with
  | nil => simp at hi
  | cons x l ih =>
    rw [List.pairwise_cons] at hs
    by_cases hx : x = i
    · subst hx
      refine ⟨[], l.filter f, by simp [hf], ?_, by simp⟩
      simp only [List.filter_cons, hf, beq_self_eq_true, Bool.not_true, Bool.and_false, List.nil_append, Bool.false_eq_true, if_false]
      refine List.filter_congr fun j hj => ?_
      have := hs.1 j hj
      have : (j == x) = false := by simp; omega
      rw [this]; simp
    · have hi' : i ∈ l := by
        rcases List.mem_cons.1 hi with h | h
        · exact absurd h.symm hx
        · exact h
      obtain ⟨pre, post, h1, h2, h3⟩ := ih hs.2 hi'
      have hxi : (x == i) = false := by simpa using hx
      cases hfx : f x with
      | true =>
        refine ⟨x :: pre, post, by simp [hfx, h1], by simp [hfx, hxi, h2], fun j hj => ?_⟩
        rcases List.mem_cons.1 hj with rfl | hj
        · exact hs.1 i hi'
        · exact h3 j hj
      | false => exact ⟨pre, post, by simp [hfx, h1], by simp [hfx, h2], h3⟩

theorem okPairs_spec {ops : Array Oper} {ps : List POper} (h : okPairs ops ps = true) (hl : ops.size = ps.length) (k : Nat) (p : POper) (hp : ps[k]? = some p) :
    ∃ o, ops[k]? = some o ∧ (∀ e ∈ o.after, Region.binds .any e = true → e.on < k) ∧
      ∀ i q, i < k → ps[i]? = some q → (∃ e ∈ o.after, e.on = i ∧ Region.binds .any e = true) ∨ compat q p = true := by
  have hk : k < ps.length := (List.getElem?_eq_some_iff.1 hp).1
  have := List.all_eq_true.1 h k (by simpa using hk)
  have ho : ops[k]? = some ops[k] := Array.getElem?_eq_getElem (by omega)
  simp only [ho, hp, Bool.and_eq_true] at this
  obtain ⟨h1, h2⟩ := this
  refine ⟨_, ho, fun e he hb => ?_, fun i q hi hq => ?_⟩
  · have := Array.all_eq_true_iff_forall_mem.1 h1 e he
    simpa [hb] using this
  · have := List.all_eq_true.1 h2 i (by simpa using hi)
    simp only [hq, Bool.or_eq_true] at this
    refine this.imp (fun h => ?_) id
    unfold direct at h
    rw [← Array.any_toList] at h
    obtain ⟨e, h1, h2⟩ := List.any_eq_true.1 h
    simp only [Bool.and_eq_true, beq_iff_eq] at h2
    exact ⟨e, by simpa using h1, h2.1, h2.2⟩

theorem ops_any (hG : Good P F) {ops : Array Oper} {ps : List POper} (hl : ops.size = ps.length) (hok : ∀ (j : Nat) (p : POper), ps[j]? = some p → ∃ o, ops[j]? = some o ∧ okOper P nt ops o p = true)
    (hp : okPairs ops ps = true) (hnd : ∀ (i j : Nat) (p q : POper), ps[i]? = some p → ps[j]? = some q → i ≠ j → ∀ l ∈ p.op.cl, l ∉ q.op.cl) (hnd1 : ∀ (i : Nat) (p : POper), ps[i]? = some p → nodupB p.op.cl = true) :
    ∀ (fuel : Nat) (listed : Array Bool) {L : List Nat} {s s' : St} {M : Mem} {μ : NMap} {β : Nat → Option Nm} {a : Act} {w : World}, listed.size = ops.size → (left ops.size listed).length = fuel → Sim base bio w0 M0 bk0 nt L s M μ β a w →
    (∀ i ∈ left ops.size listed, ∀ p, ps[i]? = some p → ∀ l ∈ p.op.cl, l ∉ L) →
    runOps F ((left ops.size listed).filterMap (ps[·]?)) s = some s' → Whenever base bio w0 M0 bk0 nt s' (Q .normal) → wpAny P .any ops Q fuel listed a w := by
  intro fuel
  have rdy : ∀ listed : Array Bool, ∀ i ∈ Region.ready .any ops listed, i ∈ left ops.size listed ∧ ∀ o, ops[i]? = some o → ∀ e ∈ o.after, Region.binds .any e = true → listed.getD e.on false = true := by
    intro listed i hi
    unfold Region.ready at hi
    simp only [List.mem_filter, List.mem_range, Bool.and_eq_true, Bool.not_eq_true'] at hi
    obtain ⟨h1, h2, h3⟩ := hi
    refine ⟨mem_left.2 ⟨h1, h2⟩, fun o ho e he hb => ?_⟩
    rw [ho] at h3
    simp only [Option.map_some, Option.getD_some] at h3
    have := Array.all_eq_true_iff_forall_mem.1 h3 e he
    simpa [hb] using this
  have stuck : ∀ listed : Array Bool, listed.size = ops.size → Region.ready .any ops listed = [] → left ops.size listed = [] := by
    intro listed hsz hr
    cases hlf : left ops.size listed with
    | nil => rfl
    | cons i rest =>
      exfalso
      have hi : i ∈ left ops.size listed := by rw [hlf]; simp
      obtain ⟨h1, h2⟩ := mem_left.1 hi
      have hmin : ∀ j, j < i → listed.getD j true = true := by
        intro j hj
        cases hq : listed.getD j true with
        | true => rfl
        | false =>
          have hj' : j ∈ left ops.size listed := mem_left.2 ⟨by omega, hq⟩
          have hpw : (left ops.size listed).Pairwise (· < ·) := List.Pairwise.filter _ List.pairwise_lt_range
          rw [hlf] at hpw hj'
          rw [List.pairwise_cons] at hpw
          rcases List.mem_cons.1 hj' with h | h
          · omega
          · have := hpw.1 j h; omega
      have hpi : ps[i]? = some (ps[i]'(by omega)) := List.getElem?_eq_getElem (by omega)
      obtain ⟨o, ho, g1, _⟩ := okPairs_spec hp hl i _ hpi
      have : i ∈ Region.ready .any ops listed := by
        unfold Region.ready
        simp only [List.mem_filter, List.mem_range, Bool.and_eq_true, Bool.not_eq_true']
        refine ⟨h1, h2, ?_⟩
        rw [ho]
        simp only [Option.map_some, Option.getD_some]
        refine Array.all_eq_true_iff_forall_mem.2 fun e he => ?_
        cases hb : Region.binds .any e with
        | false => rfl
        | true =>
          have h3 := g1 e he hb
          have h4 := hmin _ h3
          rw [Array.getD_eq_getD_getElem?] at h4 ⊢
          rw [Array.getElem?_eq_getElem (by omega)] at h4 ⊢
          simpa using h4
      rw [hr] at this
      simp at this
  induction fuel with
  | zero =>
    intro listed L s s' M μ β a w hsz hlen hs hfr hrun hQ
    have hnil : left ops.size listed = [] := List.eq_nil_of_length_eq_zero hlen
    rw [hnil] at hrun
    simp only [List.filterMap_nil, runOps, Option.some.injEq] at hrun
    subst hrun
    refine ⟨?_, hQ _ _ _ _ _ _ hs⟩
    cases hr : Region.ready .any ops listed with
    | nil => rfl
    | cons i r =>
      exfalso
      have := (rdy listed i (by rw [hr]; simp)).1
      rw [hnil] at this
      simp at this
  | succ fuel ih =>
    intro listed L s s' M μ β a w hsz hlen hs hfr hrun hQ
    refine ⟨fun hr => ?_, fun i hi => ?_⟩
    · have := stuck listed hsz hr
      rw [this] at hlen
      simp at hlen
    · obtain ⟨hil, hed⟩ := rdy listed i hi
      obtain ⟨h1, h2⟩ := mem_left.1 hil
      have hpi : ps[i]? = some (ps[i]'(by omega)) := List.getElem?_eq_getElem (by omega)
      obtain ⟨o, ho, g1, g2⟩ := okPairs_spec hp hl i _ hpi
      obtain ⟨pre, post, q1, q2, q3⟩ := filter_split (l := List.range ops.size) (i := i) List.pairwise_lt_range (by simpa using h1) (fun j => !listed.getD j true) (by show (!listed.getD i true) = true; rw [h2]; rfl)
      have hleft : left ops.size listed = pre ++ i :: post := q1
      have hleft2 : left ops.size (listed.setIfInBounds i true) = pre ++ post := by
        rw [← q2]
        unfold left
        refine List.filter_congr fun j hj => ?_
        rw [getD_set _ _ _ _ (by omega)]
        by_cases e1 : i = j
        · subst e1; simp
        · have : (j == i) = false := by simp; omega
          rw [if_neg e1, this]; simp
      have hpre : ∀ j ∈ pre, j ∈ left ops.size listed := fun j hj => by rw [hleft]; simp [hj]
      rw [hleft, List.filterMap_append, List.filterMap_cons, hpi] at hrun
      obtain ⟨t1, hr1, he1⟩ := front (pre.filterMap (ps[·]?)) s s' (fun y hy => by
        obtain ⟨j, hj, hjy⟩ := List.mem_filterMap.1 hy
        rcases g2 j y (q3 j hj) hjy with ⟨e, he, hon, hb⟩ | h
        · exfalso
          have := hed o ho e he hb
          obtain ⟨u1, u2⟩ := mem_left.1 (hpre j hj)
          rw [hon] at this
          rw [Array.getD_eq_getD_getElem?] at this u2
          rw [Array.getElem?_eq_getElem (by omega)] at this u2
          simp at this u2
          rw [this] at u2
          cases u2
        · exact h) (fun y hy l hly => by
        obtain ⟨j, hj, hjy⟩ := List.mem_filterMap.1 hy
        have := q3 j hj
        exact hnd j i y _ hjy hpi (by omega) l hly) hrun
      rw [runOps] at hr1
      obtain ⟨e, he, hr2⟩ := Option.bind_eq_some_iff.1 hr1
      obtain ⟨o', ho', hop⟩ := hok i _ hpi
      rw [ho] at ho'
      cases ho'
      refine gd_sound hG hs ho hop (fun l hl => hfr i hil _ hpi l hl) (hnd1 i _ hpi) he (fun M' μ' β' v w' hs' => ?_)
      refine ih (listed.setIfInBounds i true) (by simpa using hsz) ?_ hs' (fun j hj p hpj l hlp => ?_) (s' := t1) ?_ (hQ.eqv he1)
      · rw [hleft2]
        rw [hleft] at hlen
        simp at hlen ⊢
        omega
      · have hjl : j ∈ left ops.size listed := by rw [hleft2] at hj; rw [hleft]; simp at hj ⊢; rcases hj with h | h <;> simp [h]
        have hne : j ≠ i := by
          have := (mem_left.1 hj).2
          rw [getD_set _ _ _ _ (by omega)] at this
          intro e1
          rw [if_pos e1.symm] at this
          cases this
        intro hm
        rcases List.mem_append.1 hm with h | h
        · exact hnd j i p _ hpj hpi hne l hlp h
        · exact hfr j hjl p hpj l hlp h
      · rw [hleft2, List.filterMap_append]
        exact hr2

end
end Go.Proofs.Ytbdknlejnacmgaa.Pi
