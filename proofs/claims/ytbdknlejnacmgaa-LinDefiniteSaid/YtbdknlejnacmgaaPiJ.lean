/-
  Each operation, on: append's end; copy, make, literals.
-/
import Derived.Test.YtbdknlejnacmgaaPiI
namespace Go.Proofs.Ytbdknlejnacmgaa.Pi
open Go
set_option linter.unusedVariables false
set_option linter.unusedSimpArgs false
section
variable {P : Program} {base : Nat} {bio : Option Nat} {w0 : World} {M0 : Mem} {bk0 : Option Blk} {nt : Nat} {L : List Nat} {s : St} {M : Mem} {μ : NMap} {β : Nat → Option Nm} {a : Act} {w : World}
variable {o : Oper} {d : Option Nat} {K : Act → World → Prop} {Q : Exit → Act → World → Prop}

theorem own_inv {n : Nm} {sz off len : Nat} {v : Value} (h : Rep M μ (.own n sz off len) v) : ∃ A cap bk, v = .slice A len cap ∧ μ n = some bk ∧ bk.sz = sz ∧ len ≤ cap ∧ off + cap = bk.tot ∧ bk.tot ≤ maxLen ∧
    (off = 0 ∨ 0 < cap → (bk.b = none ∧ A = none) ∨ ∃ b : Nat, bk.b = some b ∧ A = some ⟨b, off * bk.sz, none⟩) ∧ (bk.b = none → bk.tot = 0) := by
  cases h with
  | own hn hq hl ht hm ha hz => exact ⟨_, _, _, rfl, hn, hq, hl, ht, hm, ha, hz⟩

theorem ren_pu0 {l g l' g' : Nat} {p : PV} (h : pu0 p = true) : ren l g l' g' p = p := by
  cases p <;> first | rfl | (simp [pu0] at h)

theorem map_ren_pure {l g l' g' : Nat} : ∀ {xs : List (List PV)}, (∀ x ∈ xs, ∀ p ∈ x, pu0 p = true) → (xs.map fun x => x.map (ren l g l' g')) = xs := by
  intro xs h
  have : ∀ x ∈ xs, x.map (ren l g l' g') = x := by
    intro x hx
    have : ∀ p ∈ x, ren l g l' g' p = p := fun p hp => ren_pu0 (h x hx p hp)
    exact (List.map_congr_left this).trans (List.map_id' x)
  exact (List.map_congr_left this).trans (List.map_id' xs)

theorem noSelf_pu0 {l g : Nat} {p : PV} (h : pu0 p = true) : noSelf l g p = true := by
  cases p <;> first | rfl | (simp [pu0] at h)

theorem ren_rep {nl ng l g : Nat} {k' : Blk} {p : PV} {u : Value} (hle : NLe μ (mov μ nl ng l g k')) (h : Rep M μ p u) (hn : noSelf nl ng p = true) : Rep M (mov μ nl ng l g k') (ren nl ng l g p) u := by
  cases h with
  | @own _ n sz off len cap A bk hn' hq hl ht hm ha hz =>
    simp only [ren, Bool.cond_eq_ite, Bool.and_eq_true, beq_iff_eq]
    by_cases e : n.l = nl ∧ n.g = ng
    · rw [if_pos e]
      have hj : n.j ≠ 0 := by
        simp only [noSelf, e.1, e.2, beq_self_eq_true, Bool.true_and, Bool.not_eq_true', beq_eq_false_iff_ne] at hn
        exact hn
      refine .own ?_ hq hl ht hm ha hz
      simp only [mov, and_self, if_true, if_neg hj]
      rw [← e.1, ← e.2]
      exact hn'
    · rw [if_neg e]
      exact .own (hle _ _ hn') hq hl ht hm ha hz
  | any => exact .any
  | bool b => exact .bool b
  | int k n => exact .int k n
  | str h => exact .str h
  | agg hl h1 h => exact .agg hl h1 fun i p v hp hv => (h i p v hp hv).mono (MLe.refl _) hle
  | tuple hl h => exact .tuple hl fun i p v hp hv => (h i p v hp hv).mono (MLe.refl _) hle
  | view sz c hc hs hm h => exact .view sz c hc hs hm h
  | nil0 => exact .nil0
  | optr hn2 hb => exact .optr (hle _ _ hn2) hb
  | vptr c hm h => exact .vptr c hm h
  | fn hl h => exact .fn hl fun i p v hp hv => (h i p v hp hv).mono (MLe.refl _) hle

theorem Sim.movLe (h : Sim base bio w0 M0 bk0 nt L s M μ β a w) {nl ng l : Nat} {k' : Blk} (hl : l ∉ L) : NLe μ (mov μ nl ng l s.g k') := by
  intro m km hm
  unfold mov
  by_cases e1 : m.l = l ∧ m.g = s.g
  · have := h.fresh hl m.j
    have em : m = ⟨l, s.g, m.j⟩ := by cases m; simp_all
    rw [← em] at this
    rw [this] at hm; cases hm
  · rw [if_neg e1]; exact hm

/-- What append leaves: the group under its new label. -/
theorem app_core (hs : Sim base bio w0 M0 bk0 nt L s M μ β a w) {nl ng l sz bytes : Nat} {en : Ent} {ob : Obj} {os : List Obj} {len : Nat} {ys : List (List PV)} {vx vy : Value} {t ty e : TypeId} {p : Bool} {B : Option Addr} {c : Nat}
    (ht : P.underlying t = some (.slice e)) (hsize : sizeT P e = some sz) (hby : bytesT P e = some bytes) (hzs : (zeroT P e).map (·.length) = some sz) (hsp : 1 ≤ sz)
    (hl1 : 1 ≤ l) (hl : l ∉ L) (hn0 : nl ≠ 0) (he : efind s.h nl ng = some en) (hos : en.os = ob :: os) (hz : isFz s.h s.z ⟨nl, ng, 0⟩ = false)
    (hvx : Rep M μ (.own ⟨nl, ng, 0⟩ sz 0 len) vx) (hlen : ob.xs.length = len) (hself : ∀ x ∈ ob.xs, ∀ p ∈ x, noSelf nl ng p = true) (hself2 : ∀ x ∈ ys, ∀ p ∈ x, noSelf nl ng p = true)
    (hvy : vy = .slice B ys.length c) (hf : fits sz ys = true)
    (hcell : ∀ (i : Nat) (x : List PV) (j : Nat) (q : PV), ys[i]? = some x → x[j]? = some q → ∃ ad u, B = some ad ∧ w.cell? (ad.add (i * sz + j)) = some u ∧ Rep M μ q u ∧ u.oneCell' = true)
    (hbytes : (len + ys.length) * bytes ≤ 140737488355328) (hb1 : 1 ≤ bytes)
    (hp : p = true → ∀ x ∈ (ob.xs ++ ys).map (fun x => x.map (ren nl ng l s.g)), ∀ q ∈ x, pu0 q = true) :
    ∃ v w' μ' β', (Builtin.append_ #[t, t] ty #[vx, vy]).run P w = .ok v w' ∧
      Sim base bio w0 M0 bk0 nt (l :: L) { s with h := { l := l, g := s.g, fz := false, os := { xs := (ob.xs ++ ys).map (fun x => x.map (ren nl ng l s.g)), pure := p } :: os } :: { en with os := [] } :: s.h } M μ' β' a w' ∧
      Rep M μ' (.own ⟨l, s.g, 0⟩ sz 0 (len + ys.length)) v := by
  subst hvy
  have hno : hobj s.h ⟨nl, ng, 0⟩ = some ob := by unfold hobj; simp [he, hos]
  obtain ⟨k, hk, hcont, hown⟩ := hs.objs _ _ hno
  obtain ⟨hpure, htot, hc⟩ := hcont
  unfold sizeT at hsize
  obtain ⟨ti, hti, hisz⟩ := Option.map_eq_some_iff.1 hsize
  have hiby : ti.bytes = bytes := by unfold bytesT at hby; rw [hti] at hby; simpa using hby
  obtain ⟨z, hzz, hzc⟩ : ∃ z, ti.zero = some z ∧ z.cells.size = sz := by
    unfold zeroT at hzs
    rw [hti] at hzs
    cases hq : ti.zero with
    | none => simp [hq] at hzs
    | some z => simp [hq] at hzs; exact ⟨z, rfl, hzs⟩
  obtain ⟨news, hn1, hn2, hn3, hn4, hn5⟩ := flat_cells hf hcell
  have hle := hs.movLe (nl := nl) (ng := ng) (k' := k) hl
  have hM : len + ys.length ≤ maxLen := by
    have : (len + ys.length) * 1 ≤ (len + ys.length) * bytes := Nat.mul_le_mul_left _ hb1
    simp only [maxLen]
    omega
  obtain ⟨A, cap, bk, rfl, hn, hq, hlc, ht2, hm, ha, hz0⟩ := own_inv hvx
  rw [hk] at hn
  cases hn
  simp only [Nat.zero_add] at ht2
  -- old cells
  have hA : ∃ olds te, olds.length = len * sz ∧ ((cap = 0 ∧ len = 0) ∨ ∃ b cur, A = some ⟨b, 0, none⟩ ∧ w.heap[b]? = some (.cells cur te (0, 0)) ∧ cur.size = cap * sz ∧ len ≤ cap ∧ cur.toList.take (len * sz) = olds) ∧
      (∀ (i : Nat) (x : List PV) (j : Nat) (q : PV), ob.xs[i]? = some x → x[j]? = some q → ∃ u, olds[i * sz + j]? = some u ∧ Rep M μ q u ∧ u.oneCell' = true) ∧ (∀ b, k.b = some b → A = some ⟨b, 0, none⟩) ∧ (k.b = none → A = none ∧ cap = 0) ∧ (∀ b, A = some b → k.b = some b.block) := by
    cases hb : k.b with
    | none =>
      rw [hb] at hc
      obtain ⟨hx, h0⟩ := hc
      have hc0 : cap = 0 := by omega
      have hl0 : len = 0 := by omega
      have hAn : A = none := by
        rcases ha (.inl rfl) with ⟨_, h⟩ | ⟨b, h, _⟩
        · exact h
        · rw [hb] at h; cases h
      exact ⟨[], 0, by simp [hl0], .inl ⟨hc0, hl0⟩, fun i x j q hi => by rw [hx] at hi; simp at hi, fun b h => (by cases h), fun _ => ⟨hAn, hc0⟩, fun b h => (by rw [hAn] at h; cases h)⟩
    | some b =>
      rw [hb] at hc
      obtain ⟨cc, te, hh, hcs, hxl, hxx⟩ := hc
      have hAb : A = some ⟨b, 0, none⟩ := by
        rcases ha (.inl rfl) with ⟨h, _⟩ | ⟨b', h, h2⟩
        · rw [hb] at h; cases h
        · rw [hb] at h; cases h; simpa using h2
      refine ⟨cc.toList.take (len * sz), te, ?_, .inr ⟨b, cc, hAb, hh, by rw [hcs, ht2, hq], hlc, rfl⟩, fun i x j q hi hj => ?_, fun b' h => (by cases h; exact hAb), fun h => (by cases h), fun b' h => (by rw [hAb] at h; cases h; rfl)⟩
      · rw [List.length_take, Array.length_toList, hcs, hq, ← ht2]
        exact Nat.min_eq_left (Nat.mul_le_mul_right _ hlc)
      · obtain ⟨g1, g2⟩ := hxx i x hi
        obtain ⟨u, hu, hru, hfu⟩ := g2 j q hj
        rw [hq] at g1 hu
        refine ⟨u, ?_, hru, hfu⟩
        have hi2 : i < len := by rw [← hlen]; exact (List.getElem?_eq_some_iff.1 hi).1
        have hj2 : j < sz := by rw [← g1]; exact (List.getElem?_eq_some_iff.1 hj).1
        have : (i + 1) * sz ≤ len * sz := Nat.mul_le_mul_right _ hi2
        rw [Nat.add_mul] at this
        rw [List.getElem?_take, if_pos (by omega)]
        simpa using hu
  obtain ⟨olds, te, ho1, ho2, ho3, ho4, ho5, ho6⟩ := hA
  obtain ⟨A', cap', w', hrun, q1, q2, q3, q4, q5, q6, qnf, hres⟩ := append_run (P := P) (w := w) (t := t) (ty := ty) (te := te) ht hti hzz hisz hiby hzc ho1 hn1 hn2 hn3 hn4 ho2 hsp hM hbytes (by omega)
  -- the elements' cells
  have elem : ∀ (i : Nat) (x : List PV), (ob.xs ++ ys)[i]? = some x → x.length = sz ∧ ∀ (j : Nat) (q : PV), x[j]? = some q → ∃ u, (olds ++ news)[i * sz + j]? = some u ∧ Rep M μ q u ∧ u.oneCell' = true := by
    intro i x hi
    rcases Nat.lt_or_ge i ob.xs.length with h | h
    · rw [List.getElem?_append_left h] at hi
      have hxl : x.length = sz := by
        cases hb : k.b with
        | none => rw [hb] at hc; rw [hc.1] at hi; simp at hi
        | some b => rw [hb] at hc; obtain ⟨cc, te, hh, hcs, hxl, hxx⟩ := hc; rw [(hxx i x hi).1, hq]
      refine ⟨hxl, fun j q hj => ?_⟩
      obtain ⟨u, hu, h2⟩ := ho3 i x j q hi hj
      exact ⟨u, by rw [List.getElem?_append_left (List.getElem?_eq_some_iff.1 hu).1]; exact hu, h2⟩
    · rw [List.getElem?_append_right h] at hi
      have hxl : x.length = sz := by
        have := List.all_eq_true.1 hf x (List.mem_of_getElem? hi)
        simpa using this
      refine ⟨hxl, fun j q hj => ?_⟩
      obtain ⟨u, hu, h2⟩ := hn5 _ x j q hi hj
      refine ⟨u, ?_, h2⟩
      have : len * sz ≤ i * sz := Nat.mul_le_mul_right _ (by omega)
      rw [List.getElem?_append_right (by omega), ho1, ← hu]
      congr 1
      rw [hlen, Nat.sub_mul]
      omega
  have selfs : ∀ (i : Nat) (x : List PV), (ob.xs ++ ys)[i]? = some x → ∀ p ∈ x, noSelf nl ng p = true := by
    intro i x hi p hp
    rcases List.mem_append.1 (List.mem_of_getElem? hi) with h | h
    · exact hself x h p hp
    · exact hself2 x h p hp
  have cont : ∀ (k' : Blk) (b : Nat) (cur : Array Value) (te' : TypeId), k'.b = some b → k'.sz = sz → k'.tot = cap' → w'.heap[b]? = some (.cells cur te' (0, 0)) → cur.size = cap' * sz → cur.toList.take ((len + ys.length) * sz) = olds ++ news →
      Cont M (mov μ nl ng l s.g k') w' k' { xs := (ob.xs ++ ys).map (fun x => x.map (ren nl ng l s.g)), pure := p } := by
    intro k' b cur te' hb hsz htt hh hcs htk
    have hle' := hs.movLe (nl := nl) (ng := ng) (k' := k') hl
    refine ⟨hp, by rw [htt]; exact q5, ?_⟩
    rw [hb]
    refine ⟨cur, te', hh, by rw [hcs, htt, hsz], by simp; omega, fun i x hi => ?_⟩
    rw [List.getElem?_map, Option.map_eq_some_iff] at hi
    obtain ⟨x0, hx0, rfl⟩ := hi
    obtain ⟨g1, g2⟩ := elem i x0 hx0
    refine ⟨by rw [List.length_map, hsz, g1], fun j q hj => ?_⟩
    rw [List.getElem?_map, Option.map_eq_some_iff] at hj
    obtain ⟨q0, hq0, rfl⟩ := hj
    obtain ⟨u, hu, hru, hfu⟩ := g2 j q0 hq0
    refine ⟨u, ?_, ren_rep hle' hru (selfs i x0 hx0 q0 (List.mem_of_getElem? hq0)), hfu⟩
    rw [← htk, List.getElem?_take] at hu
    split at hu
    · rw [hsz]; simpa using hu
    · cases hu
  rcases hres with ⟨hAA, hcc, hc1, hl0, hm0, hww⟩ | ⟨b, cur, te', rfl, hh, hcs, htk, hwhere, hbl⟩
  · -- nothing was there, nothing comes
    have hww' := hww.symm
    subst hww'
    subst hAA
    subst hcc
    have hx0 : (ob.xs ++ ys).map (fun x => x.map (ren nl ng l s.g)) = [] := by
      have h1 : ob.xs = [] := List.eq_nil_of_length_eq_zero (by omega)
      have h2 : ys = [] := List.eq_nil_of_length_eq_zero (by omega)
      simp [h1, h2]
    have hct : Cont M (mov μ nl ng l s.g k) w k { xs := (ob.xs ++ ys).map (fun x => x.map (ren nl ng l s.g)), pure := p } := by
      refine ⟨hp, htot, ?_⟩
      rw [hx0]
      cases hb : k.b with
      | none => rw [hb] at hc; exact ⟨rfl, hc.2⟩
      | some b =>
        rw [hb] at hc
        obtain ⟨cc, te, hh, hcs, hxl, hxx⟩ := hc
        exact ⟨cc, te, hh, hcs, Nat.zero_le _, fun i x hi => by simp at hi⟩
    refine ⟨_, w, _, _, hrun, hs.append hl1 hl hn0 he hos hz hk (fun _ _ _ => rfl) (fun b hb => .inl hb) (fun b hb => hs.lt _ _ _ hk hb) (Nat.le_refl _) rfl rfl rfl (fun b hb c ty fr hx => by
      rcases hb with hb | hb
      · rw [Array.getElem?_eq_none hb] at hx; cases hx
      · rw [hb] at hc
        obtain ⟨cc, te, hh, _⟩ := hc
        rw [hh] at hx; cases hx; rfl) hct, ?_⟩
    refine .own (by simp [mov]) hq (by omega) (by omega) hm (fun h => ?_) hz0
    exact ha (.inl rfl)
  · have hs2 := hs.append (k' := ⟨some b, sz, cap'⟩) hl1 hl hn0 he hos hz hk (w' := w') (o' := { xs := (ob.xs ++ ys).map (fun x => x.map (ren nl ng l s.g)), pure := p })
      (fun b' hb' hne => by
        rcases hwhere with ⟨h1, _, h3⟩ | ⟨_, h3⟩
        · exact h3 b' (fun e => hne (by rw [e]; exact ho6 _ h1))
        · exact h3 b' hb')
      (fun b' hb' => by
        cases hb'
        rcases hwhere with ⟨h1, _, _⟩ | ⟨h1, _⟩
        · exact .inl (ho6 _ h1)
        · exact .inr (by omega))
      (fun b' hb' => by cases hb'; exact hbl) q4 q1 q2 q3 (fun b' hb' c ty fr hx => by
        rcases hb' with hb' | hb'
        · exact qnf b' hb' c ty fr hx
        · by_cases e : b' = b
          · subst e; rw [hh] at hx; cases hx; rfl
          · have hlt' := hs.lt _ _ _ hk hb'
            have hsame : w'.heap[b']? = w.heap[b']? := by
              rcases hwhere with ⟨_, _, h3⟩ | ⟨_, h3⟩
              · exact h3 b' e
              · exact h3 b' hlt'
            rw [hb'] at hc
            obtain ⟨cc, te2, hh2, _⟩ := hc
            rw [hsame, hh2] at hx; cases hx; rfl) (cont ⟨some b, sz, cap'⟩ b cur te' rfl rfl rfl hh hcs htk)
    refine ⟨_, w', _, _, hrun, hs2, ?_⟩
    exact .own (bk := ⟨some b, sz, cap'⟩) (by simp [mov]) rfl q6 (by simp) q5 (fun _ => .inr ⟨b, rfl, by simp⟩) (fun h => by cases h)

end
end Go.Proofs.Ytbdknlejnacmgaa.Pi
