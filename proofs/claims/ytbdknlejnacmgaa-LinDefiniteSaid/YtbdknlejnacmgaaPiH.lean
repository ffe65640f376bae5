/-
  Each operation, on: loads, stores, arithmetic.
-/
import Derived.Test.YtbdknlejnacmgaaPiG
namespace Go.Proofs.Ytbdknlejnacmgaa.Pi
open Go
set_option linter.unusedVariables false
set_option linter.unusedSimpArgs false
section
variable {P : Program} {base : Nat} {bio : Option Nat} {w0 : World} {M0 : Mem} {bk0 : Option Blk} {nt : Nat} {L : List Nat} {s : St} {M : Mem} {μ : NMap} {β : Nat → Option Nm} {a : Act} {w : World}
variable {o : Oper} {d : Option Nat} {K : Act → World → Prop} {Q : Exit → Act → World → Prop}

theorem Sim.obs (hs : Sim base bio w0 M0 bk0 nt L s M μ β a w) : Objs M μ w s.h := fun n o hn => let ⟨k, h1, h2, _⟩ := hs.objs n o hn; ⟨k, h1, h2⟩

/-- The cells behind an address, as our machine has them. -/
def At (M : Mem) (μ : NMap) (w : World) (ad : Addr) (ys : List PV) : Prop := ∀ (j : Nat) (p : PV), ys[j]? = some p → ∃ v, w.cell? (ad.add j) = some v ∧ Rep M μ p v ∧ v.oneCell' = true

theorem at_optr (hO : Objs M μ w s.h) {n : Nm} {i c : Nat} {v : Value} {ob : Obj} {x : List PV} (hv : Rep M μ (.optr n i c) v) (ho : hobj s.h n = some ob) (hx : ob.xs[i]? = some x) :
    ∃ ad, v = .pointer (some ad) ∧ At M μ w ad (x.drop c) := by
  cases hv with
  | @optr _ _ _ _ b bk hn hb =>
    obtain ⟨k, hk, hp, htot, hc⟩ := hO n ob ho
    rw [hn] at hk
    cases hk
    rw [hb] at hc
    obtain ⟨cc, ty, hh, hcs, hxl, hxx⟩ := hc
    refine ⟨_, rfl, fun j p hp => ?_⟩
    rw [List.getElem?_drop] at hp
    obtain ⟨u, hu, hru, hfu⟩ := (hxx i x hx).2 _ p hp
    refine ⟨u, ?_, hru, hfu⟩
    rw [add_none]
    simp only [World.cell?, hh, Option.isSome_none, Bool.false_eq_true, if_false]
    rw [← hu]
    congr 1
    omega

theorem at_vptr (hm : MIn M w) {y : List PV} {v : Value} (hv : Rep M μ (.vptr y) v) : ∃ ad, v = .pointer (some ad) ∧ At M μ w ad y := by
  cases hv with
  | vptr c h1 h2 => exact ⟨_, rfl, fun j p hp => ⟨c j, hm.cell (h1 j p hp).1, (h2 j p hp).mono (MLe.refl _) (NLe.noNm _), (h1 j p hp).2⟩⟩

theorem At.take {ad : Addr} {ys : List PV} (h : At M μ w ad ys) (n : Nat) : At M μ w ad (ys.take n) := fun j p hp => by
  rw [List.getElem?_take] at hp
  split at hp
  · exact h j p hp
  · cases hp

theorem load_agg {ad : Addr} {ys : List PV} (h : At M μ w ad ys) : ∃ vs : Array Value, (loadCells ad ys.length).run P w = .ok vs w ∧ Rep M μ (.agg ys) (.agg vs) := by
  have hex : ∀ j : Nat, ∃ v : Value, j < ys.length → w.cell? (ad.add j) = some v ∧ v.oneCell' = true ∧ ∀ p, ys[j]? = some p → Rep M μ p v := by
    intro j
    rcases Nat.lt_or_ge j ys.length with hj | hj
    · obtain ⟨v, h1, h2, h3⟩ := h j ys[j] (List.getElem?_eq_getElem hj)
      exact ⟨v, fun _ => ⟨h1, h3, fun p hp => by rw [List.getElem?_eq_getElem hj] at hp; cases hp; exact h2⟩⟩
    · exact ⟨undef, fun h => absurd h (by omega)⟩
  let f : Nat → Value := fun j => Classical.choose (hex j)
  have hf : ∀ j, j < ys.length → w.cell? (ad.add j) = some (f j) ∧ (f j).oneCell' = true ∧ ∀ p, ys[j]? = some p → Rep M μ p (f j) := fun j => Classical.choose_spec (hex j)
  refine ⟨((List.range ys.length).map f).toArray, run_loadCells w ad ys.length f (fun j hj => (hf j hj).1), .agg (by simp) (fun i v hv => ?_) (fun i p v hp hv => ?_)⟩
  · simp only [List.getElem?_toArray, List.getElem?_map, Option.map_eq_some_iff] at hv
    obtain ⟨j, hj, rfl⟩ := hv
    have hj2 := List.getElem?_eq_some_iff.1 hj
    obtain ⟨hlt, he⟩ := hj2
    simp at he hlt
    subst he
    exact (hf i hlt).2.1
  · simp only [List.getElem?_toArray, List.getElem?_map, Option.map_eq_some_iff] at hv
    obtain ⟨j, hj, rfl⟩ := hv
    obtain ⟨hlt, he⟩ := List.getElem?_eq_some_iff.1 hj
    simp at he hlt
    subst he
    exact (hf i hlt).2.2 p hp

/-- A variable is loaded. -/
theorem load_var {t : TypeId} {n : Nat} {agg : Bool} {ad : Addr} {ys : List PV} (hz : sizeT P t = some n) (hg : aggT P t = some agg) (hl : ys.length = n) (h : At M μ w ad ys) {p : PV}
    (hp : (bif agg then some (.agg ys) else (match ys with | [y] => some y | _ => none)) = some p) : ∃ v, (loadVar t ad).run P w = .ok v w ∧ Rep M μ p v := by
  cases agg with
  | true =>
    simp only [cond_true, Option.some.injEq] at hp
    subst hp
    obtain ⟨vs, h1, h2⟩ := load_agg (P := P) h
    rw [hl] at h1
    exact ⟨.agg vs, by simp [loadVar, aggT_run hg, sizeT_run hz, h1], h2⟩
  | false =>
    simp only [cond_false] at hp
    split at hp
    · rename_i y
      cases hp
      obtain ⟨v, h1, h2, h3⟩ := h 0 p rfl
      have ha : ad.add 0 = ad := by simp [Addr.add]
      rw [ha] at h1
      exact ⟨v, by simp [loadVar, aggT_run hg, h1], h2⟩
    · cases hp

theorem snd_load (hs : Sim base bio w0 M0 bk0 nt L s M μ β a w) (hd : o.dst = d) (hdn : ∀ d', d = some d' → d' < nt) {F : CallF} {gd : Option (Nat × Bool)} {wl : Option Nat} {av : List Nat} {n : Nat} {agg : Bool} {x : PArg} {e : Eff}
    (ok : okOp P o.op o.type (.load n agg x) = true) (hev : evOp F s ⟨d, .load n agg x, gd, wl, av⟩ = some e)
    (hK : Goes K base bio w0 M0 bk0 nt L (s.app d e) a d) : o.wp P a w K Q := by
  simp only [okOp] at ok
  split at ok
  · rename_i t x' he
    simp only [Bool.and_eq_true, beq_iff_eq] at ok
    obtain ⟨⟨⟨ok1, ok2⟩, ok3⟩, ok4⟩ := ok
    have hr := okArg_rep hs.regs ok1
    simp only [evOp] at hev
    obtain ⟨ys, hys, hev⟩ := Option.bind_eq_some_iff.1 hev
    obtain ⟨hl, hev⟩ := cond_some hev
    simp only [beq_iff_eq] at hl
    have hat : ∃ ad, a.eval x' = .pointer (some ad) ∧ At M μ w ad ys := by
      split at hys
      · rename_i nm i c hx
        obtain ⟨_, hys⟩ := cond_some hys
        obtain ⟨ob, ho, hys⟩ := Option.bind_eq_some_iff.1 hys
        obtain ⟨xx, hxx, hys⟩ := Option.bind_eq_some_iff.1 hys
        cases hys
        rw [hx] at hr
        obtain ⟨ad, h1, h2⟩ := at_optr hs.obs hr ho hxx
        exact ⟨ad, h1, h2.take n⟩
      · rename_i yy hx
        cases hys
        rw [hx] at hr
        obtain ⟨ad, h1, h2⟩ := at_vptr hs.min hr
        exact ⟨ad, h1, h2.take n⟩
      · cases hys
    obtain ⟨ad, had, hat⟩ := hat
    have hp : ∃ p, (bif agg then some (.agg ys) else (match ys with | [y] => some y | _ => none)) = some p ∧ e = { v := p } := by
      cases agg with
      | true => simp only [cond_true, Option.some.injEq] at hev; exact ⟨_, rfl, hev.symm⟩
      | false =>
        simp only [cond_false] at hev ⊢
        split at hev
        · cases hev; exact ⟨_, rfl, rfl⟩
        · cases hev
    obtain ⟨p, hp, rfl⟩ := hp
    obtain ⟨v, hv, hrep⟩ := load_var (P := P) ok2 ok3 hl hat hp
    refine snd_pure hs hd hdn (v := v) ?_ hrep hK
    simp [execOp, he, had, Instr.loadAt, Instr.sureAddr, hv]
  · cases ok

/-! ### Stores -/
theorem seg_get {α : Type} (l : List α) (i : Nat) (ys : List α) (h : i + ys.length ≤ l.length) (j : Nat) :
    (l.take i ++ ys ++ l.drop (i + ys.length))[j]? = if i ≤ j ∧ j < i + ys.length then ys[j - i]? else l[j]? := by
  have h1 : (l.take i).length = i := by simp; omega
  rcases Nat.lt_or_ge j i with hj | hj
  · rw [if_neg (by omega), List.append_assoc, List.getElem?_append_left (by omega), List.getElem?_take, if_pos hj]
  · rcases Nat.lt_or_ge j (i + ys.length) with hk | hk
    · rw [if_pos ⟨hj, hk⟩, List.append_assoc, List.getElem?_append_right (by omega), h1, List.getElem?_append_left (by omega)]
    · rw [if_neg (by omega), List.getElem?_append_right (by simp; omega), List.getElem?_drop]
      congr 1
      simp
      omega

theorem setAt_get {α : Type} (l : List α) (i : Nat) (ys : List α) (h : i + ys.length ≤ l.length) (j : Nat) :
    (setAt l i ys)[j]? = if i ≤ j ∧ j < i + ys.length then ys[j - i]? else l[j]? := seg_get l i ys h j

theorem setAt_length {α : Type} (l : List α) (i : Nat) (ys : List α) (h : i + ys.length ≤ l.length) : (setAt l i ys).length = l.length := by
  simp [setAt]; omega

/-- Some cells of one element are written. -/
theorem write_elem {xs : List (List PV)} {i c sz tot : Nat} {x ys : List PV} {cc : Array Value} {vs : List Value}
    (hc : cc.size = tot * sz) (hxl : xs.length ≤ tot) (hx : xs[i]? = some x) (hfit : c + ys.length ≤ x.length) (hvl : vs.length = ys.length)
    (hcells : ∀ i x, xs[i]? = some x → x.length = sz ∧ ∀ j p, x[j]? = some p → ∃ v, cc[i * sz + j]? = some v ∧ Rep M μ p v ∧ v.oneCell' = true)
    (hvs : ∀ (j : Nat) (p : PV) (v : Value), ys[j]? = some p → vs[j]? = some v → Rep M μ p v) (hone : ∀ v ∈ vs, v.oneCell' = true) :
    ∀ (i' : Nat) (x' : List PV), (xs.set i (setAt x c ys))[i']? = some x' → x'.length = sz ∧ ∀ j p, x'[j]? = some p →
      ∃ v, ((cc.toList.take (i * sz + c) ++ vs ++ cc.toList.drop (i * sz + c + vs.length)).toArray)[i' * sz + j]? = some v ∧ Rep M μ p v ∧ v.oneCell' = true := by
  have hi : i < xs.length := (List.getElem?_eq_some_iff.1 hx).1
  have hxs := (hcells i x hx).1
  have hbound : i * sz + c + vs.length ≤ cc.toList.length := by
    simp only [Array.length_toList, hc]
    have : (i + 1) * sz ≤ tot * sz := Nat.mul_le_mul_right _ (by omega)
    rw [Nat.add_mul] at this
    omega
  intro i' x' hx'
  by_cases e : i = i'
  · subst e
    rw [List.getElem?_set_self hi] at hx'
    cases hx'
    refine ⟨by rw [setAt_length _ _ _ hfit]; exact hxs, fun j p hp => ?_⟩
    have hj : j < sz := by
      have := (List.getElem?_eq_some_iff.1 hp).1
      rw [setAt_length _ _ _ hfit, hxs] at this
      exact this
    rw [setAt_get _ _ _ hfit] at hp
    simp only [List.getElem?_toArray]
    rw [seg_get _ _ _ hbound]
    by_cases hjc : c ≤ j ∧ j < c + ys.length
    · rw [if_pos hjc] at hp
      rw [if_pos (by omega), show i * sz + j - (i * sz + c) = j - c by omega]
      have hjv : j - c < vs.length := by omega
      exact ⟨vs[j - c], List.getElem?_eq_getElem hjv, hvs _ _ _ hp (List.getElem?_eq_getElem hjv), hone _ (List.getElem_mem hjv)⟩
    · rw [if_neg hjc] at hp
      rw [if_neg (by omega)]
      obtain ⟨v, hv, h2⟩ := (hcells i x hx).2 j p hp
      exact ⟨v, by simpa using hv, h2⟩
  · rw [List.getElem?_set_ne e] at hx'
    obtain ⟨h1, h2⟩ := hcells i' x' hx'
    refine ⟨h1, fun j p hp => ?_⟩
    obtain ⟨v, hv, h3⟩ := h2 j p hp
    have hj : j < sz := by rw [← h1]; exact (List.getElem?_eq_some_iff.1 hp).1
    simp only [List.getElem?_toArray]
    rw [seg_get _ _ _ hbound, if_neg ?_]
    · exact ⟨v, by simpa using hv, h3⟩
    · intro ⟨q1, q2⟩
      rcases Nat.lt_or_gt_of_ne e with h | h
      · have : (i + 1) * sz ≤ i' * sz := Nat.mul_le_mul_right _ h
        rw [Nat.add_mul] at this
        omega
      · have : (i' + 1) * sz ≤ i * sz := Nat.mul_le_mul_right _ h
        rw [Nat.add_mul] at this
        omega

theorem storeVar_run {t : TypeId} {n g off : Nat} {v : Value} {cc : Array Value} {ty : TypeId} (hz : sizeT P t = some n) (hn : v.cells.size = n) (hg : w.heap[g]? = some (.cells cc ty (0, 0)))
    (hfit : off + n ≤ cc.size) (h1 : ∀ u ∈ v.cells, u.oneCell' = true) :
    (storeVar t ⟨g, off, none⟩ v).run P w = .ok () (w.setRow g (cc.toList.take off ++ v.cells.toList ++ cc.toList.drop (off + v.cells.toList.length)).toArray) := by
  have := run_storeCells_at P g off ty v.cells.toList 0 cc w hg (by simp [hn]; omega) (by simpa using h1)
  simp only [storeVar, Sem.run_bind, sizeT_run hz, Result.andThen_ok]
  simp only [hn, ne_eq, not_true_eq_false, if_false, Sem.run_pure, Result.andThen_ok]
  simpa using this

theorem store_core (hs : Sim base bio w0 M0 bk0 nt L s M μ β a w) {nm : Nm} {i c n : Nat} {ob : Obj} {x : List PV} {pv : PV} {pw aw : Value} {t : TypeId} {ent : Ent}
    (hz : sizeT P t = some n) (hva : Rep M μ (.optr nm i c) aw) (hvv : Rep M μ pv pw) (hl : (cellsOf pv).length = n) (hf : (cellsOf pv).all flat = true)
    (hfz : isFz s.h s.z nm = false) (ho : hobj s.h nm = some ob) (hx : ob.xs[i]? = some x) (hfit : c + n ≤ x.length) (he : efind s.h nm.l nm.g = some ent) :
    ∃ w', (Instr.storeAt t aw pw).run P w = .ok () w' ∧
      Sim base bio w0 M0 bk0 nt L { s with h := { ent with os := ent.os.set nm.j { xs := ob.xs.set i (setAt x c (cellsOf pv)), pure := ob.pure && (cellsOf pv).all pu0 } } :: s.h } M μ β a w' := by
  obtain ⟨c1, c2, c3⟩ := hvv.cells hf
  cases hva with
  | @optr _ _ _ _ b bk hn hb =>
    obtain ⟨k, hk, hcont, hown⟩ := hs.objs nm ob ho
    rw [hn] at hk
    cases hk
    obtain ⟨hp, htot, hc⟩ := hcont
    rw [hb] at hc
    obtain ⟨cc, ty, hh, hcs, hxl, hxx⟩ := hc
    have hi : i < ob.xs.length := (List.getElem?_eq_some_iff.1 hx).1
    have hxs := (hxx i x hx).1
    have hbound : i * bk.sz + c + n ≤ cc.size := by
      rw [hcs]
      have : (i + 1) * bk.sz ≤ bk.tot * bk.sz := Nat.mul_le_mul_right _ (by omega)
      rw [Nat.add_mul] at this
      omega
    have hrun := storeVar_run (P := P) hz (by rw [← c1]; exact hl) hh hbound c3
    refine ⟨_, by simp only [Instr.storeAt, Instr.sureAddr, Sem.run_bind, Sem.run_pure, Result.andThen_ok]; exact hrun, hs.write ho hfz hn hb he (setRow_heap _ _ _ _ _ _ hh) (fun b' hne => setRow_other _ _ _ _ hne) (by simp) rfl rfl rfl ?_ ?_ (by simpa using hxl) ?_⟩
    · intro hpp y hy p hpy
      simp only [Bool.and_eq_true, List.all_eq_true] at hpp
      rcases List.mem_or_eq_of_mem_set hy with h | h
      · exact hp hpp.1 y h p hpy
      · subst h
        obtain ⟨j, hj⟩ := List.mem_iff_getElem?.1 hpy
        rw [setAt_get _ _ _ (by omega)] at hj
        split at hj
        · exact hpp.2 p (List.mem_of_getElem? hj)
        · exact hp hpp.1 x (List.mem_of_getElem? hx) p (List.mem_of_getElem? hj)
    · have hlen : (a.eval (.const pw)).cells.size = n := by show pw.cells.size = n; rw [← c1]; exact hl
      simp only [List.size_toArray, List.length_append, List.length_take, List.length_drop, Array.length_toList]
      have : pw.cells.size = n := hlen
      omega
    · exact write_elem hcs hxl hx (by omega) (by simp [c1]) hxx (fun j p v hp hv => c2 j p v hp (by simpa using hv)) (by simpa using c3)

theorem snd_store (hs : Sim base bio w0 M0 bk0 nt L s M μ β a w) (hd : o.dst = d) (hdn : ∀ d', d = some d' → d' < nt) {wl : Option Nat} {av : List Nat} {n : Nat} {t : TypeId} {x y : Operand} {pa pv : PV} {e : Eff}
    (he : o.op = .store t x y) (hz : sizeT P t = some n) (hra : Rep M μ pa (a.eval x)) (hrv : Rep M μ pv (a.eval y)) (hev : evStore s av wl n pa pv = some e)
    (hK : Goes K base bio w0 M0 bk0 nt L (s.app d e) a d) : o.wp P a w K Q := by
  unfold evStore at hev
  split at hev
  · rename_i nm i c
    simp only at hev
    obtain ⟨hc, hev⟩ := cond_some hev
    simp only [Bool.and_eq_true, Bool.not_eq_true', beq_iff_eq] at hc
    obtain ⟨⟨⟨_, hfz⟩, hl⟩, hf⟩ := hc
    obtain ⟨ob, ho, hev⟩ := Option.bind_eq_some_iff.1 hev
    obtain ⟨xx, hxx, hev⟩ := Option.bind_eq_some_iff.1 hev
    obtain ⟨hfit, hev⟩ := cond_some hev
    simp only [decide_eq_true_eq] at hfit
    obtain ⟨en, hen, rfl⟩ := Option.map_eq_some_iff.1 hev
    unfold put at hen
    obtain ⟨ent, hent, rfl⟩ := Option.map_eq_some_iff.1 hen
    obtain ⟨w', hrun, hs'⟩ := store_core (P := P) hs hz hra hrv hl hf hfz ho hxx hfit hent
    have hs2 := hs'.fill d hdn (p := .any) (v := undef) .any
    exact wp_skp (by simp [execOp, he, hrun]) hd (hK _ _ _ _ _ hs2)
  · cases hev

end
end Go.Proofs.Ytbdknlejnacmgaa.Pi
