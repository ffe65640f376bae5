/-
  Functions: what our machine reckons is what a call does.
-/
import Derived.Test.YtbdknlejnacmgaaPiW
namespace Go.Proofs.Ytbdknlejnacmgaa.Pi
open Go
set_option linter.unusedVariables false
set_option linter.unusedSimpArgs false

section
variable {P : Program} {base : Nat} {bio : Option Nat} {w0 : World} {M0 : Mem} {bk0 : Option Blk} {nt : Nat} {L : List Nat} {s : St} {M : Mem} {μ : NMap} {β : Nat → Option Nm} {a : Act} {w : World}
variable {F : CallF}

theorem res_run (hs : Sim base bio w0 M0 bk0 nt L s M μ β a w) : ∀ {rs : List ResultVar} {ps : List PRes} {vs : List PV}, okRes P rs ps = true → mapM' (resVal s) ps = some vs →
    ∃ us : List Value, (rs.mapM (fun | .tmp t => pure (a.tmps.getD t undef) | .cell x t => do loadVar t (← asAddr (a.tmps.getD x undef)) : ResultVar → Sem Value)).run P w = .ok us w ∧ vs.length = us.length ∧
      ∀ (i : Nat) (p : PV) (v : Value), vs[i]? = some p → us[i]? = some v → Rep M μ p v
  | [], [], vs, _, h => by
    simp only [mapM', Option.some.injEq] at h
    subst h
    exact ⟨[], by simp, rfl, fun i p v h => by simp at h⟩
  | r :: rs, q :: ps, vs, ok, h => by
    simp only [mapM'] at h
    obtain ⟨p, hp, h⟩ := Option.bind_eq_some_iff.1 h
    obtain ⟨vs', hvs, h⟩ := Option.bind_eq_some_iff.1 h
    simp only [Option.some.injEq] at h
    subst h
    have first : ∃ u, ((fun | .tmp t => pure (a.tmps.getD t undef) | .cell x t => do loadVar t (← asAddr (a.tmps.getD x undef)) : ResultVar → Sem Value) r).run P w = .ok u w ∧ Rep M μ p u ∧ okRes P rs ps = true := by
      cases r with
      | tmp t =>
        cases q with
        | tmp u =>
          simp only [okRes, Bool.and_eq_true, beq_iff_eq] at ok
          obtain ⟨rfl, ok⟩ := ok
          simp only [resVal, Option.some.injEq] at hp
          subst hp
          exact ⟨_, by simp, hs.regs t, ok⟩
        | cell u n agg => simp [okRes] at ok
      | cell x t =>
        cases q with
        | tmp u => simp [okRes] at ok
        | cell u n agg =>
          simp only [okRes, Bool.and_eq_true, beq_iff_eq] at ok
          obtain ⟨⟨⟨⟨rfl, hz⟩, hg⟩, _⟩, ok⟩ := ok
          have hr := hs.regs x
          simp only [resVal] at hp
          split at hp
          · rename_i nm i c hx
            rw [hx] at hr
            obtain ⟨ob, ho, hp⟩ := Option.bind_eq_some_iff.1 hp
            obtain ⟨xx, hxx, hp⟩ := Option.bind_eq_some_iff.1 hp
            obtain ⟨hl, hp⟩ := cond_some hp
            simp only [beq_iff_eq] at hl
            obtain ⟨ad, had, hat⟩ := at_optr hs.obs hr ho hxx
            obtain ⟨v, hv, hrep⟩ := load_var (P := P) (p := p) hz hg hl (hat.take n) hp
            exact ⟨v, by simp [had, asAddr, hv], hrep, ok⟩
          · cases hp
    obtain ⟨u, hu, hru, ok'⟩ := first
    obtain ⟨us, h1, h2, h3⟩ := res_run hs ok' hvs
    refine ⟨u :: us, ?_, by simp [h2], fun i p' v' hp' hv' => ?_⟩
    · rw [List.mapM_cons]
      simp only [Sem.run_bind]
      rw [hu]
      simp only [Result.andThen_ok, Sem.run_bind]
      rw [h1]
      simp
    · cases i with
      | zero => simp at hp' hv'; subst hp'; subst hv'; exact hru
      | succ i => simp at hp' hv'; exact h3 i p' v' hp' hv'
  | [], _ :: _, _, ok, _ => by simp [okRes] at ok
  | .tmp _ :: _, [], _, ok, _ => by simp [okRes] at ok
  | .cell _ _ :: _, [], _, ok, _ => by simp [okRes] at ok

theorem one_rep {vs : List PV} {us : List Value} (hl : vs.length = us.length) (h : ∀ (i : Nat) (p : PV) (v : Value), vs[i]? = some p → us[i]? = some v → Rep M μ p v) :
    Rep M μ (one vs) (if h : us.toArray.size = 1 then us.toArray[0] else .tuple us.toArray) := by
  cases vs with
  | nil =>
    have : us = [] := List.eq_nil_of_length_eq_zero hl.symm
    subst this
    exact .tuple rfl fun i p v hp => by simp at hp
  | cons p vs =>
    cases us with
    | nil => simp at hl
    | cons u us =>
      cases vs with
      | nil =>
        have : us = [] := List.eq_nil_of_length_eq_zero (by simpa using hl.symm)
        subst this
        exact h 0 p u rfl rfl
      | cons p2 vs =>
        cases us with
        | nil => simp at hl
        | cons u2 us =>
          rw [dif_neg (by simp)]
          exact .tuple (by simpa using hl) fun i p v hp hv => h i p v hp (by simpa using hv)

theorem pure_noNm {k : Blk} {o : Obj} (h : Cont M μ w k o) (hp : o.pure = true) (μ' : NMap) : Cont M μ' w k o := by
  obtain ⟨h1, h2, h3⟩ := h
  refine ⟨h1, h2, ?_⟩
  cases hb : k.b with
  | none => rw [hb] at h3; exact h3
  | some b =>
    rw [hb] at h3
    obtain ⟨c, ty, r1, r2, r3, r4⟩ := h3
    refine ⟨c, ty, r1, r2, r3, fun i x hi => ⟨(r4 i x hi).1, fun j p hj => ?_⟩⟩
    obtain ⟨v, u1, u2, u3⟩ := (r4 i x hi).2 j p hj
    exact ⟨v, u1, u2.pure0 (h1 hp x (List.mem_of_getElem? hi) p (List.mem_of_getElem? hj)), u3⟩

theorem finIo_spec {io : Option Obj} {r0 r : Ret} (h : finIo s io r0 = some r) : r.vs = r0.vs ∧ r.own = r0.own ∧ (io = none → r = r0) ∧ ∀ o0, io = some o0 → ∃ o, hobj s.h ⟨0, 0, 0⟩ = some o ∧ o.pure = true ∧ r.io = some o := by
  cases io with
  | none => simp only [finIo, Option.some.injEq] at h; subst h; exact ⟨rfl, rfl, fun _ => rfl, fun o0 h => by cases h⟩
  | some o0 =>
    simp only [finIo] at h
    obtain ⟨o, ho, h⟩ := Option.bind_eq_some_iff.1 h
    obtain ⟨hp, h⟩ := cond_some h
    cases h
    exact ⟨rfl, rfl, (fun h => by cases h), fun _ _ => ⟨o, ho, hp, rfl⟩⟩

/-- What a function leaves, from the state at its end. -/
theorem fin_left (hm0 : MIn M0 w0) (hbase : base = w0.heap.size) (hbio : bio = bk0.bind (·.b)) (hs : Sim base bio w0 M0 bk0 nt [] s M μ β a w) {own : Bool} {vs : List PV} {us : List Value} {io : Option Obj} {r : Ret}
    (hf : fin own vs s io = some r) (hl : vs.length = us.length) (hr : ∀ (i : Nat) (p : PV) (v : Value), vs[i]? = some p → us[i]? = some v → Rep M μ p v) :
    ∃ M' ν β', Left w0 M0 bk0 r (if h : us.toArray.size = 1 then us.toArray[0] else .tuple us.toArray) w M' ν β' := by
  have hmle : MLe M0 M := by
    intro b c hb
    obtain ⟨ty, fr, hh⟩ := hm0 b c hb
    have hlt : b < w0.heap.size := by
      rcases Nat.lt_or_ge b w0.heap.size with h | h
      · exact h
      · rw [Array.getElem?_eq_none h] at hh; cases hh
    rw [hs.mnew b (by rw [hbase]; exact hlt)]
    exact hb
  have iopart : ∀ (M' : Mem) (r0 : Ret), r0.io = none → MLe M M' → finIo s io r0 = some r → ∀ o, r.io = some o → ∃ k, bk0 = some k ∧ Cont M' noNm w k o ∧ o.pure = true := by
    intro M' r0 h0 hM h o ho
    obtain ⟨_, _, h3, h4⟩ := finIo_spec h
    cases io with
    | none => rw [h3 rfl, h0] at ho; cases ho
    | some o0 =>
      obtain ⟨o', g1, g2, g3⟩ := h4 o0 rfl
      rw [g3] at ho
      cases ho
      obtain ⟨k, hk, hc, _⟩ := hs.objs _ _ g1
      have := hs.io0 0 0
      rw [hk] at this
      refine ⟨k, by simpa using this.symm, (pure_noNm hc g2 noNm).mono hM (NLe.refl _) (fun _ _ => rfl), g2⟩
  have frozen : ∀ q : List PV × List (Nat × Nat), fzl (fzv s.h) vs = some q → finIo s io { vs := q.1, own := [], io := none } = some r →
      ∃ M' ν β', Left w0 M0 bk0 r (if h : us.toArray.size = 1 then us.toArray[0] else .tuple us.toArray) w M' ν β' := by
    intro q hq hfi
    obtain ⟨z1, z2, z3⟩ := fzl_good (qs := q.1) (zs := q.2) hq
    obtain ⟨f1, f2, _, _⟩ := finIo_spec hfi
    have hs2 := hs.frz q.2 z1
    refine ⟨Pi.frz M β w q.2, fun _ => none, fun _ => none, ?_⟩
    exact {
      mle := hmle.trans (hs.mfrz q.2)
      min := hs2.min
      mnew := fun b hb => hs2.mnew b (by rw [hbase]; exact hb)
      frame := fun b hb hi => hs.frame b (by rw [hbase]; exact hb) (by rw [hbio]; exact hi)
      grow := by rw [← hbase]; exact hs.grow
      nofz := by rw [← hbase]; exact hs.nofz
      os := hs.os
      tape := hs.tape
      out := hs.out
      val := by
        rw [f1]
        refine (one_rep (M := Pi.frz M β w q.2) (μ := noNm) (by rw [← hl]; exact z2) (fun i p v hp hv => ?_)).mono (MLe.refl _) (NLe.noNm _)
        have hi : i < vs.length := by rw [← z2]; exact (List.getElem?_eq_some_iff.1 hp).1
        exact z3 M _ μ w (hs.mfrz q.2) hs.obs (hs.fzin q.2) i _ p v (List.getElem?_eq_getElem hi) hp (hr i _ v (List.getElem?_eq_getElem hi) hv)
      objs := fun j o hj => by rw [f2] at hj; simp at hj
      kids := fun _ _ => rfl
      cells := fun o ho => by rw [f2] at ho; simp at ho
      one := fun h => absurd f2 h
      io := iopart _ _ rfl (hs.mfrz q.2) hfi }
  have other : ((fzl (fzv s.h) vs).bind fun q => finIo s io { vs := q.1, own := [], io := none }) = some r → ∃ M' ν β', Left w0 M0 bk0 r (if h : us.toArray.size = 1 then us.toArray[0] else .tuple us.toArray) w M' ν β' := by
    intro h
    obtain ⟨q, hq, h⟩ := Option.bind_eq_some_iff.1 h
    exact frozen q hq h
  unfold fin at hf
  split at hf
  · rename_i n sz len
    clear other frozen
    obtain ⟨e, he, hf⟩ := Option.bind_eq_some_iff.1 hf
    obtain ⟨hc, hfi⟩ := cond_some hf
    simp only [Bool.and_eq_true, Bool.not_eq_true', beq_iff_eq, beq_eq_false_iff_ne, ne_eq] at hc
    obtain ⟨⟨⟨⟨hz, hj0⟩, hl0⟩, hlen⟩, hall⟩ := hc
    obtain ⟨f1, f2, _, _⟩ := finIo_spec hfi
    obtain ⟨el, eg⟩ := efind_lg he
    have hne : e.os ≠ [] := by
      intro h
      rw [h] at hlen
      simp at hlen
    -- the group's objects
    have hob : ∀ (j : Nat) (o : Obj), e.os[j]? = some o → hobj s.h ⟨n.l, n.g, j⟩ = some o := fun j o hj => by unfold hobj; rw [he]; exact hj
    have hfz : ∀ j, isFz s.h s.z ⟨n.l, n.g, j⟩ = false := fun j => hz
    let ν : Nat → Option Blk := fun j => if j < e.os.length then μ ⟨n.l, n.g, j⟩ else none
    have hν : ∀ j bk, μ ⟨n.l, n.g, j⟩ = some bk → ν j = some bk := by
      intro j bk h
      show (if j < e.os.length then μ ⟨n.l, n.g, j⟩ else none) = some bk
      rw [if_pos ?_]
      · exact h
      · rcases Nat.lt_or_ge j e.os.length with h' | h'
        · exact h'
        · rw [hs.kids n.l n.g e he hne j h'] at h; cases h
    have ren1 : ∀ {p : PV} {v : Value}, Rep M μ p v → (pu0 p = true ∨ inGroup n.l n.g p = true) → Rep M (ownMap ν) (ren n.l n.g 1 0 p) v := by
      intro p v h hp
      rcases hp with hp | hp
      · rw [ren_pu0 hp]; exact h.pure0 hp
      · cases p <;> simp [inGroup] at hp
        rename_i m sz' off' len'
        obtain ⟨A, cap, bk, rfl, g1, g2, g3, g4, g5, g6, g7⟩ := own_inv h
        simp only [ren, hp.1, hp.2, beq_self_eq_true, Bool.and_self, cond_true]
        have hm : m = ⟨n.l, n.g, m.j⟩ := by cases m; simp_all
        rw [hm] at g1
        exact .own (by simp [ownMap, hν _ _ g1]) g2 g3 g4 g5 g6 g7
    have hcell : ∀ (j : Nat) (o : Obj), e.os[j]? = some o → ∀ x ∈ o.xs, ∀ p ∈ x, pu0 p = true ∨ inGroup n.l n.g p = true := by
      intro j o hj x hx p hp
      have := List.all_eq_true.1 hall o (List.mem_of_getElem? hj)
      simp only [Bool.or_eq_true] at this
      rcases this with h | h
      · obtain ⟨k, _, hc, _⟩ := hs.objs _ _ (hob j o hj)
        exact .inl (hc.1 h x hx p hp)
      · have := List.all_eq_true.1 (List.all_eq_true.1 h x hx) p hp
        simpa using this
    have hown : ∀ (j : Nat) (o : Obj), (e.os.map (renO n.l n.g 1 0))[j]? = some o → ∃ o0, e.os[j]? = some o0 ∧ o.pure = o0.pure ∧ o.xs = o0.xs.map fun x => x.map (ren n.l n.g 1 0) := by
      intro j o hj
      rw [List.getElem?_map, Option.map_eq_some_iff] at hj
      obtain ⟨o0, ho0, rfl⟩ := hj
      refine ⟨o0, ho0, by unfold renO; cases hq : o0.pure <;> simp [hq], ?_⟩
      unfold renO
      cases hq : o0.pure with
      | false => rfl
      | true =>
        obtain ⟨k, _, hc, _⟩ := hs.objs _ _ (hob j o0 ho0)
        simp only [cond_true]
        rw [map_ren_pure (hc.1 hq)]
    refine ⟨M, ν, fun b => (β b).bind fun m => if m.l = n.l ∧ m.g = n.g then some m.j else none, ?_⟩
    exact {
      mle := hmle
      min := hs.min
      mnew := fun b hb => hs.mnew b (by rw [hbase]; exact hb)
      frame := fun b hb hi => hs.frame b (by rw [hbase]; exact hb) (by rw [hbio]; exact hi)
      grow := by rw [← hbase]; exact hs.grow
      nofz := by rw [← hbase]; exact hs.nofz
      os := hs.os
      tape := hs.tape
      out := hs.out
      val := by
        rw [f1]
        cases us with
        | nil => simp at hl
        | cons u us =>
          have : us = [] := List.eq_nil_of_length_eq_zero (by simpa using hl.symm)
          subst this
          have h0 := hr 0 _ u rfl rfl
          have := ren1 h0 (.inr (by simp [inGroup]))
          have hn : n = ⟨n.l, n.g, 0⟩ := by cases n; simp_all
          simp only [ren, beq_self_eq_true, Bool.and_self, cond_true, hj0] at this
          exact this
      objs := fun j o hj => by
        rw [f2] at hj
        obtain ⟨o0, ho0, hp, hx⟩ := hown j o hj
        obtain ⟨k, hk, hc, hβ⟩ := hs.objs _ _ (hob j o0 ho0)
        refine ⟨k, hν j k hk, ?_, fun b hb => ?_⟩
        · obtain ⟨q1, q2, q3⟩ := hc
          refine ⟨fun hpp x hxx p hpx => ?_, q2, ?_⟩
          · rw [hp] at hpp
            rw [hx, map_ren_pure (q1 hpp)] at hxx
            exact q1 hpp x hxx p hpx
          · cases hb : k.b with
            | none => rw [hb] at q3; exact ⟨by rw [hx, q3.1]; rfl, q3.2⟩
            | some b =>
              rw [hb] at q3
              obtain ⟨c, ty, r1, r2, r3, r4⟩ := q3
              refine ⟨c, ty, r1, r2, by rw [hx]; simpa using r3, fun i x hi => ?_⟩
              rw [hx, List.getElem?_map, Option.map_eq_some_iff] at hi
              obtain ⟨x0, hx0, rfl⟩ := hi
              obtain ⟨t1, t2⟩ := r4 i x0 hx0
              refine ⟨by simpa using t1, fun j2 p hp => ?_⟩
              rw [List.getElem?_map, Option.map_eq_some_iff] at hp
              obtain ⟨p0, hp0, rfl⟩ := hp
              obtain ⟨v, u1, u2, u3⟩ := t2 j2 p0 hp0
              exact ⟨v, u1, ren1 u2 (hcell j o0 ho0 x0 (List.mem_of_getElem? hx0) p0 (List.mem_of_getElem? hp0)), u3⟩
        · have hb2 := hβ b hb
          refine ⟨?_, hs.lt _ _ _ hk hb, hs.unf _ _ _ _ (hob j o0 ho0) (hfz j) hk hb, by simp [hb2]⟩
          rcases hs.bown b _ hb2 with h | ⟨_, h⟩
          · rw [hbase] at h; exact h
          · injection h with h1 _; exact absurd h1 hl0
      kids := fun j hj => by
        rw [f2] at hj
        show (if j < e.os.length then μ ⟨n.l, n.g, j⟩ else none) = none
        rw [if_neg (by simpa using hj)]
      cells := fun o ho x hx p hp => by
        rw [f2] at ho
        obtain ⟨j, hj⟩ := List.mem_iff_getElem?.1 ho
        obtain ⟨o0, ho0, _, hxs⟩ := hown j o hj
        rw [hxs] at hx
        obtain ⟨x0, hx0, rfl⟩ := List.mem_map.1 hx
        obtain ⟨p0, hp0, rfl⟩ := List.mem_map.1 hp
        rcases hcell j o0 ho0 x0 hx0 p0 hp0 with h | h
        · rw [ren_pu0 h]; exact .inl h
        · cases p0 <;> simp [inGroup] at h
          rename_i m sz' off' len'
          simp only [ren, h.1, h.2, beq_self_eq_true, Bool.and_self, cond_true]
          exact .inr rfl
      one := fun _ => ⟨sz, len, f1⟩
      io := iopart _ _ rfl (MLe.refl _) hfi }
  · exact other hf

theorem zipArgs_get (pa : List PV) : ∀ (k t : Nat), rget (zipArgs k pa) t = if k ≤ t ∧ t < k + pa.length then (pa[t - k]?).getD .any else .any := by
  induction pa with
  | nil => intro k t; simp [zipArgs, rget]
  | cons p pa ih =>
    intro k t
    simp only [zipArgs, rget_cons]
    by_cases h : k = t
    · subst h
      simp
    · rw [if_neg h, ih]
      by_cases h2 : k ≤ t ∧ t < k + (p :: pa).length
      · simp only [List.length_cons] at h2
        rw [if_pos (by omega), if_pos (by simp; omega)]
        have : t - k = (t - (k + 1)) + 1 := by omega
        rw [this, List.getElem?_cons_succ]
      · simp only [List.length_cons] at h2
        rw [if_neg (by omega), if_neg (by simp; omega)]

/-- A function's call. -/
theorem fn_good (hG : Good P F) (hm : P.follows .mixedOrders = true) (N : Nat) {f : Nat} {pf : PFunc} (ok : okFn P f pf = true) {pa : List PV} {io : Option Obj} {r : Ret} (he : evFn F N pf pa io = some r) :
    (∃ fn, P.funcs[f]? = some fn ∧ fn.body.isSome = true ∧ (fn.name == "runtime.NumGoroutine") = false) ∧ (io = none → r.io = none) ∧
    ∀ (w : World) (M : Mem) (args : Array Value) (bk : Option Blk), MIn M w → pa.length = args.size → (∀ (i : Nat) (p : PV) (v : Value), pa[i]? = some p → args[i]? = some v → Rep M (ioMap bk) p v) →
      IoOk w M bk io →
      Calls P f args w (CallPost w M bk r) := by
  unfold okFn at ok
  split at ok
  · rename_i fn hfn
    simp only [Bool.and_eq_true, decide_eq_true_eq, bne_iff_ne] at ok
    obtain ⟨⟨⟨ok1, ok2⟩, ok3⟩, ok4⟩ := ok
    split at ok1
    · rename_i c hc
      unfold evFn at he
      obtain ⟨hnp, he⟩ := cond_some he
      simp only [beq_iff_eq] at hnp
      -- the end
      have ⟨x, s', vs, h1, hx, h2, h3⟩ : ∃ x s' vs, evC F N pf.body { t := zipArgs 0 pa, h := ioEnts io, z := [], g := 1 } = some (x, s') ∧ (x = .n ∨ x = .r) ∧ mapM' (resVal s') pf.res = some vs ∧ fin pf.own vs s' io = some r := by
        split at he
        · rename_i s' h
          obtain ⟨vs, h2, h3⟩ := Option.bind_eq_some_iff.1 he
          exact ⟨.n, s', vs, h, .inl rfl, h2, h3⟩
        · rename_i s' h
          obtain ⟨vs, h2, h3⟩ := Option.bind_eq_some_iff.1 he
          exact ⟨.r, s', vs, h, .inr rfl, h2, h3⟩
        · cases he
      refine ⟨⟨fn, hfn, by rw [hc]; rfl, by simpa using ok4⟩, fun hio => ?_, fun w M args bk hmin hlen hrep hbk => ?_⟩
      · subst hio
        unfold fin at h3
        split at h3
        · obtain ⟨e, _, h3⟩ := Option.bind_eq_some_iff.1 h3
          obtain ⟨_, h3⟩ := cond_some h3
          rw [(finIo_spec h3).2.2.1 rfl]
        · obtain ⟨q, _, h3⟩ := Option.bind_eq_some_iff.1 h3
          rw [(finIo_spec h3).2.2.1 rfl]
      · have hs : Sim w.heap.size (bk.bind (·.b)) w M bk fn.ntmps [] { t := zipArgs 0 pa, h := ioEnts io, z := [], g := 1 } M (ioMap bk)
            (fun b => if bk.bind (·.b) = some b then some ⟨0, 0, 0⟩ else none) { tmps := args ++ Array.replicate (fn.ntmps - args.size) undef, defers := [] } w := by
          have hnone : ∀ (n : Nm) (k : Blk), ioMap bk n = some k → n = ⟨0, 0, 0⟩ ∧ bk = some k := by
            intro n k h
            unfold ioMap at h
            split at h
            · exact ⟨by assumption, h⟩
            · cases h
          have hobj0 : ∀ (n : Nm) (o : Obj), hobj (ioEnts io) n = some o → n = ⟨0, 0, 0⟩ ∧ io = some o := by
            intro n o h
            cases io with
            | none => simp [hobj, efind, ioEnts] at h
            | some o0 =>
              simp only [ioEnts] at h
              rw [hobj_cons] at h
              split at h
              · rename_i e1
                cases hj : n.j with
                | zero =>
                  rw [hj] at h
                  simp at h
                  subst h
                  refine ⟨?_, rfl⟩
                  cases n with
                  | mk l g j =>
                    simp only at e1 hj
                    rw [← e1.1, ← e1.2, hj]
                | succ j => rw [hj] at h; simp at h
              · simp [hobj, efind] at h
          exact {
            size := by simp; omega
            defers := rfl
            regs := fun t => by
              rw [zipArgs_get]
              split
              · rename_i ht
                simp only [Nat.zero_add] at ht
                have hta : t < args.size := by omega
                rw [Nat.sub_zero, List.getElem?_eq_getElem ht.2, Option.getD_some, Array.getD_eq_getD_getElem?, Array.getElem?_append_left hta, Array.getElem?_eq_getElem hta, Option.getD_some]
                exact hrep t _ _ (List.getElem?_eq_getElem ht.2) (Array.getElem?_eq_getElem hta)
              · exact .any
            objs := fun n o hn => by
              obtain ⟨rfl, hio⟩ := hobj0 n o hn
              subst hio
              obtain ⟨k, hk, hcont, hp, _⟩ := hbk
              subst hk
              exact ⟨k, by simp [ioMap], pure_noNm hcont hp _, fun b hb => by simp [hb]⟩
            unf := fun n o k b hn _ hk hb => by
              obtain ⟨rfl, hio⟩ := hobj0 n o hn
              subst hio
              obtain ⟨k', hk', _, _, h⟩ := hbk
              subst hk'
              obtain ⟨_, h2⟩ := hnone _ _ hk
              cases h2
              exact (h b hb).2
            lt := fun n k b hn hb => by
              obtain ⟨_, rfl⟩ := hnone n k hn
              cases io with
              | none => cases hbk
              | some o =>
                obtain ⟨k', hk', _, _, h⟩ := hbk
                cases hk'
                exact (h b hb).1
            names := fun n k hn => by
              obtain ⟨rfl, _⟩ := hnone n k hn
              exact .inl (by simp)
            min := hmin
            os := rfl
            tape := rfl
            out := rfl
            grow := Nat.le_refl _
            nofz := fun b hb c ty fr hx => by rw [Array.getElem?_eq_none hb] at hx; cases hx
            frame := fun _ _ _ => rfl
            mnew := fun _ _ => rfl
            io := fun b hb => by
              cases io with
              | none => rw [hbk] at hb; cases hb
              | some o =>
                obtain ⟨k', hk', _, _, h⟩ := hbk
                subst hk'
                exact h b (by simpa using hb)
            io0 := fun j g => by
              unfold ioMap
              by_cases h : j = 0 ∧ g = 0
              · rw [if_pos h, if_pos (by rw [h.1, h.2])]
              · rw [if_neg h, if_neg (fun e => h (by injection e with _ e2 e3; exact ⟨e3, e2⟩))]
            pos := Nat.le_refl _
            kids := fun l g e he hne j hj => by
              cases io with
              | none => simp [efind, ioEnts] at he
              | some o =>
                simp only [ioEnts] at he
                rw [efind_cons] at he
                split at he
                · cases he
                  unfold ioMap
                  rw [if_neg]
                  intro e1
                  injection e1 with _ _ e3
                  simp at hj
                  omega
                · simp [efind] at he
            bown := fun b n hb => by
              split at hb
              · rename_i h
                cases hb
                exact .inr ⟨h, rfl⟩
              · cases hb
            ioz := fun g => ⟨rfl, fun e he => by
              cases io with
              | none => simp [efind, ioEnts] at he
              | some o =>
                simp only [ioEnts] at he
                rw [efind_cons] at he
                split at he
                · cases he; rfl
                · simp [efind] at he⟩ }
        refine calls_of_wp hfn hc (code_sound hG hm N pf.body c _ s' x _ M _ _ _ w ok1 h1 hs fun M' μ' β' a' w' hs' => ?_)
        have key : bodyPost P fn (CallPost w M bk r) .normal a' w' := by
          refine ⟨hs'.defers, ?_⟩
          obtain ⟨us, g1, g2, g3⟩ := res_run (P := P) hs' ok2 h2
          obtain ⟨M2, ν, β2, hL⟩ := fin_left hmin rfl rfl hs' h3 g2 g3
          refine ⟨_, ?_, M2, ν, β2, hL⟩
          unfold results
          rw [Array.mapM_eq_mapM_toList]
          rw [Sem.run_bind]
          have : (List.toArray <$> fn.results.toList.mapM (fun | .tmp t => pure (a'.tmps.getD t undef) | .cell x t => do loadVar t (← asAddr (a'.tmps.getD x undef)) : ResultVar → Sem Value)).run P w' = .ok us.toArray w' := by
            rw [map_eq_pure_bind, Sem.run_bind, g1]
            simp
          refine Eq.trans (congrArg (fun z : Result (Array Value) => z.andThen fun (a : Array Value) w' => (pure (if h : a.size = 1 then a[0] else Value.tuple a) : Sem Value).run P w') this) ?_
          simp only [Result.andThen_ok, Sem.run_pure]
        rcases hx with rfl | rfl
        · exact key
        · exact key
    · cases ok1
  · cases ok

/-- All calls. -/
theorem callN_good (hm : P.follows .mixedOrders = true) {T : Nat → Option PFunc} (hT : ∀ f pf, T f = some pf → okFn P f pf = true) (N : Nat) : ∀ k, Good P (callN T N k)
  | 0 => fun f pa io r h => by simp [callN] at h
  | k + 1 => fun f pa io r h => by
    simp only [callN] at h
    obtain ⟨pf, hpf, h⟩ := Option.bind_eq_some_iff.1 h
    exact fn_good (callN_good hm hT N k) hm N (hT f pf hpf) h

end
end Go.Proofs.Ytbdknlejnacmgaa.Pi
