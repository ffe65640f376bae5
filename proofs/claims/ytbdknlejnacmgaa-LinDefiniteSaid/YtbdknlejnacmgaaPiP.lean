/-
  Each operation, on: literals of lists and of structs.
-/
import Derived.Test.YtbdknlejnacmgaaPiO
import Derived.Great.BuildSlice
namespace Go.Proofs.Ytbdknlejnacmgaa.Pi
open Go
set_option linter.unusedVariables false
set_option linter.unusedSimpArgs false
section
variable {P : Program} {base : Nat} {bio : Option Nat} {w0 : World} {M0 : Mem} {bk0 : Option Blk} {nt : Nat} {L : List Nat} {s : St} {M : Mem} {μ : NMap} {β : Nat → Option Nm} {a : Act} {w : World}
variable {o : Oper} {d : Option Nat} {K : Act → World → Prop} {Q : Exit → Act → World → Prop} {F : CallF} {gd : Option (Nat × Bool)} {wl : Option Nat} {av : List Nat} {e : Eff}

theorem okElems_parts : ∀ {i : Nat} {ps : List (Nat × Operand)} {ys : List PArg}, okElems i ps ys = true → ∃ xs : List Operand, ps = (xs.zipIdx i).map (fun x => (x.2, x.1)) ∧ okArgs xs ys = true
  | i, [], [], _ => ⟨[], rfl, rfl⟩
  | i, (j, x) :: r, y :: q, h => by
    simp only [okElems, Bool.and_eq_true, beq_iff_eq] at h
    obtain ⟨⟨rfl, h1⟩, h2⟩ := h
    obtain ⟨xs, rfl, h3⟩ := okElems_parts h2
    exact ⟨x :: xs, by simp [List.zipIdx_cons], by simp [okArgs, h1, h3]⟩
  | _, [], _ :: _, h => by simp [okElems] at h
  | _, _ :: _, [], h => by simp [okElems] at h

theorem snd_lits (hs : Sim base bio w0 M0 bk0 nt L s M μ β a w) (hd : o.dst = d) (hdn : ∀ d', d = some d' → d' < nt) {l sz len : Nat} {parts : List PArg}
    (ok : okOp P o.op o.type (.lits l sz len parts) = true) (hl : l ∉ L) (hev : evOp F s ⟨d, .lits l sz len parts, gd, wl, av⟩ = some e)
    (hK : Goes K base bio w0 M0 bk0 nt (l :: L) (s.app d e) a d) : o.wp P a w K Q := by
  simp only [okOp] at ok
  split at ok
  · rename_i t n ps he
    simp only [Bool.and_eq_true, beq_iff_eq] at ok
    obtain ⟨⟨⟨rfl, okp⟩, hpl⟩, ok2⟩ := ok
    split at ok2
    · rename_i et het
      simp only [Bool.and_eq_true, beq_iff_eq, decide_eq_true_eq] at ok2
      obtain ⟨⟨⟨⟨hzs, hsz⟩, hzl⟩, hcap⟩, hsp⟩ := ok2
      have ht := elemT_und het
      obtain ⟨xs, hps, hxs⟩ := okElems_parts okp
      obtain ⟨h1, h2⟩ := okArgs_rep hs.regs hxs
      simp only [evOp] at hev
      obtain ⟨hc, hev2⟩ := cond_some hev
      clear hev
      cases hev2
      simp only [Bool.and_eq_true, decide_eq_true_eq, beq_iff_eq] at hc
      obtain ⟨⟨⟨hl1, hlen⟩, hfit⟩, hflat⟩ := hc
      unfold sizeT at hsz
      obtain ⟨ti, hti, hisz⟩ := Option.map_eq_some_iff.1 hsz
      obtain ⟨zv, hzz, hzc⟩ : ∃ zv, ti.zero = some zv ∧ zv.cells.size = sz := by
        unfold zeroT at hzl
        rw [hti] at hzl
        cases hq : ti.zero with
        | none => simp [hq] at hzl
        | some zv => simp [hq] at hzl; exact ⟨zv, rfl, hzl⟩
      have hxl : xs.length = n := by simp at hlen; omega
      have part : ∀ (i : Nat) (x : Operand), xs[i]? = some x → ∃ y, parts[i]? = some y ∧ (cellsOf (s.ev y)).length = (a.eval x).cells.size ∧ (cellsOf (s.ev y)).length = sz ∧
          (∀ (j : Nat) (q : PV) (u : Value), (cellsOf (s.ev y))[j]? = some q → (a.eval x).cells[j]? = some u → Rep M μ q u) ∧ ∀ u ∈ (a.eval x).cells, u.oneCell' = true := by
        intro i x hx
        have hi : i < parts.length := by rw [h1]; exact (List.getElem?_eq_some_iff.1 hx).1
        have hy : parts[i]? = some parts[i] := List.getElem?_eq_getElem hi
        have hm : cellsOf (s.ev parts[i]) ∈ parts.map fun x => cellsOf (s.ev x) := List.mem_map.2 ⟨_, List.getElem_mem hi, rfl⟩
        have hz := List.all_eq_true.1 hfit _ hm
        obtain ⟨c1, c2, c3⟩ := (h2 i _ x hy hx).cells (List.all_eq_true.1 hflat _ hm)
        exact ⟨_, hy, c1, by simpa using hz, c2, c3⟩
      let vs := xs.map a.eval
      have hvs : ∀ v ∈ vs, v.cells.size = sz := by
        intro v hv
        obtain ⟨x, hx, rfl⟩ := List.mem_map.1 hv
        obtain ⟨i, hi⟩ := List.mem_iff_getElem?.1 hx
        obtain ⟨y, _, g1, g2, _⟩ := part i x hi
        omega
      have hvl : vs.length = n := by simp [vs, hxl]
      have hparts : (ps.map fun (i, x) => (i, a.eval x)).toList = (vs.zipIdx 0).map fun x => (x.2, x.1) := by
        rw [Array.toList_map, hps, List.zipIdx_map, List.map_map, List.map_map]
        rfl
      obtain ⟨r, hr, hrs, hrk⟩ := Go.Great.fill_dense (s := sz) (by omega) vs 0 ((Array.range (n * ti.size)).map (zv.cells[· % zv.cells.size]!)) hvs (by simp [hvl, hisz])
      have hrun : (Instr.buildSlice t n (ps.map fun (i, x) => (i, a.eval x))).run P w = .ok (.slice (some ⟨w.heap.size, 0, none⟩) n n) (w.alloc (.cells r et)) := by
        by_cases h0 : n = 0
        · subst h0
          have hv0 : vs = [] := List.eq_nil_of_length_eq_zero hvl
          have hp0 : ps.map (fun (i, x) => (i, a.eval x)) = #[] := by
            apply Array.toList_inj.1
            rw [hparts, hv0]
            rfl
          have hr0 : r = #[] := by
            apply Array.eq_empty_of_size_eq_zero
            rw [hrs]; simp
          rw [hp0, hr0]
          simp [Instr.buildSlice, run_underlying ht, sizeOf, typeInfo, hti, Instr.fill, newRow, Array.range_zero']
        · have hpos : ¬ n * ti.size = 0 := by
            rw [hisz]
            intro h
            rcases Nat.mul_eq_zero.1 h with h | h <;> omega
          refine run_buildSlice (P := P) w t et n _ r ti zv ht hti hzz (by rw [hisz]; omega) hpos ?_
          rw [hparts, hisz, ← hr, hisz]
      have hs2 := hs.addBlk l sz n r et { xs := parts.map fun x => cellsOf (s.ev x), pure := (parts.map fun x => cellsOf (s.ev x)).all (·.all pu0) } hl1 hl
        (fun hp x hx p hpx => List.all_eq_true.1 (List.all_eq_true.1 hp x hx) p hpx) (by
          simp only [maxLen]
          have : n * 1 ≤ n * sz := Nat.mul_le_mul_left _ hsp
          omega) (by rw [hrs]; simp [hisz]) (by simp; omega)
        (fun i x hi => by
          simp only [List.getElem?_map, Option.map_eq_some_iff] at hi
          obtain ⟨y, hy, rfl⟩ := hi
          have hil : i < xs.length := by rw [← h1]; exact (List.getElem?_eq_some_iff.1 hy).1
          obtain ⟨y', hy', g1, g2, g3, g4⟩ := part i _ (List.getElem?_eq_getElem hil)
          rw [hy] at hy'
          cases hy'
          refine ⟨g2, fun j p hp => ?_⟩
          have hj : j < sz := by rw [← g2]; exact (List.getElem?_eq_some_iff.1 hp).1
          have hju : j < (a.eval xs[i]).cells.size := by omega
          refine ⟨(a.eval xs[i]).cells[j], ?_, g3 j p _ hp (Array.getElem?_eq_getElem hju), g4 _ (Array.getElem_mem hju)⟩
          have hlt : i * sz + j < n * sz := by
            have : (i + 1) * sz ≤ n * sz := Nat.mul_le_mul_right _ (by omega)
            rw [Nat.add_mul] at this
            omega
          rw [hrk, if_pos (by simp only [Nat.zero_mul, Nat.zero_add, hvl]; exact ⟨Nat.zero_le _, hlt⟩)]
          have hdiv : (i * sz + j) / sz = i := by
            rw [Nat.add_comm, Nat.add_mul_div_right _ _ (by omega), Nat.div_eq_of_lt hj, Nat.zero_add]
          have hmod : (i * sz + j) % sz = j := by
            rw [Nat.add_comm, Nat.add_mul_mod_self_right]
            exact Nat.mod_eq_of_lt hj
          rw [hdiv, hmod, Nat.sub_zero]
          have : vs[i]? = some (a.eval xs[i]) := by simp [vs, hil]
          rw [this, Option.bind_some]
          exact Array.getElem?_eq_getElem hju)
      have hs3 := hs2.fill d hdn (p := .own ⟨l, s.g, 0⟩ sz 0 n) (v := .slice (some ⟨w.heap.size, 0, none⟩) n n)
        (.own (upd_same ..) rfl (Nat.le_refl _) (by simp) (by
          simp only [maxLen]
          have : n * 1 ≤ n * sz := Nat.mul_le_mul_left _ hsp
          omega) (fun _ => .inr ⟨_, rfl, by simp⟩) (fun h => by cases h))
      exact wp_val (by simp [execOp, he, hrun]) hd (hK _ _ _ _ _ hs3)
    · cases ok2
  · cases ok

/-! ### Structs -/
theorem places_get : ∀ {fs : List Field} {places : List (Nat × Nat)}, fs.mapM (fun f => (P.info? f.type).map fun i => (f.offset, i.size)) = some places → ∀ (i : Nat) (f : Field), fs[i]? = some f →
    places[i]? = (P.info? f.type).map fun i => (f.offset, i.size)
  | [], _, _, i, f, h => by simp at h
  | g :: fs, places, hp, i, f, h => by
    simp only [List.mapM_cons, Option.bind_eq_bind, Option.pure_def] at hp
    obtain ⟨x, hx, hp⟩ := Option.bind_eq_some_iff.1 hp
    obtain ⟨r, hr, hp⟩ := Option.bind_eq_some_iff.1 hp
    cases hp
    cases i with
    | zero => simp at h; subst h; simp [hx]
    | succ i => simp at h ⊢; exact places_get hr i f h

theorem fill_put (hr : ∀ t, Rep M μ (rget s.t t) (a.tmps.getD t undef)) {fs : Array Field} {places : List (Nat × Nat)} (hpl : fs.toList.mapM (fun f => (P.info? f.type).map fun i => (f.offset, i.size)) = some places) :
    ∀ (ps : List (Nat × Operand)) (ys : List (Nat × Nat × PArg)) (cs cs2 : List PV) (cells : Array Value), okParts P fs ps ys = true → putParts s cs ys = some cs2 →
    cs.length = cells.size → (∀ (i : Nat) (p : PV) (v : Value), cs[i]? = some p → cells[i]? = some v → Rep M μ p v) → (∀ (i : Nat) (v : Value), cells[i]? = some v → v.oneCell' = true) →
    ∃ r, Instr.fill (places.toArray[·]?) cells (ps.map fun (i, x) => (i, a.eval x)) = some r ∧ cs2.length = r.size ∧ (∀ (i : Nat) (p : PV) (v : Value), cs2[i]? = some p → r[i]? = some v → Rep M μ p v) ∧ ∀ (i : Nat) (v : Value), r[i]? = some v → v.oneCell' = true
  | [], [], cs, cs2, cells, _, hp, h1, h2, h3 => by
    simp only [putParts, Option.some.injEq] at hp
    subst hp
    exact ⟨cells, rfl, h1, h2, h3⟩
  | (i, x) :: ps, (off, sz, y) :: ys, cs, cs2, cells, ok, hp, h1, h2, h3 => by
    simp only [okParts, Bool.and_eq_true] at ok
    obtain ⟨⟨okf, oky⟩, okr⟩ := ok
    cases hf : fs[i]? with
    | none => rw [hf] at okf; simp at okf
    | some f =>
      rw [hf] at okf
      simp only [Option.map_some, Option.getD_some, Bool.and_eq_true, beq_iff_eq] at okf
      obtain ⟨rfl, hsz⟩ := okf
      unfold sizeT at hsz
      obtain ⟨ti, hti, hisz⟩ := Option.map_eq_some_iff.1 hsz
      have hplace : places.toArray[i]? = some (f.offset, sz) := by
        have := places_get hpl i f (by simpa using hf)
        rw [hti] at this
        simp only [Option.map_some, Option.some.injEq] at this
        simpa [← hisz] using this
      simp only [putParts] at hp
      obtain ⟨hc, hp⟩ := cond_some hp
      simp only [Bool.and_eq_true, beq_iff_eq, decide_eq_true_eq] at hc
      obtain ⟨⟨hl, hfit⟩, hflat⟩ := hc
      obtain ⟨c1, c2, c3⟩ := (okArg_rep hr oky).cells hflat
      have hvs : (a.eval x).cells.size = sz := by omega
      obtain ⟨g1, g2⟩ := Go.Great.foldl_set f.offset (a.eval x).cells.toList 0 cells
      have hget : ∀ k, (((a.eval x).cells.toList.zipIdx 0).foldl (fun cs (x : Value × Nat) => cs.setIfInBounds (f.offset + x.2) x.1) cells)[k]? = if f.offset ≤ k ∧ k < f.offset + sz then (a.eval x).cells[k - f.offset]? else cells[k]? := by
        intro k
        rw [g2 k]
        simp only [Nat.add_zero, Array.length_toList, hvs, Array.getElem?_toList]
        by_cases hk : f.offset ≤ k ∧ k < f.offset + sz
        · rw [if_pos hk, if_pos ⟨hk.1, hk.2, by omega⟩]
        · rw [if_neg hk, if_neg (fun h => hk ⟨h.1, h.2.1⟩)]
      obtain ⟨r, hr1, hr2⟩ := fill_put hr hpl ps ys _ cs2 (((a.eval x).cells.toList.zipIdx 0).foldl (fun cs (x : Value × Nat) => cs.setIfInBounds (f.offset + x.2) x.1) cells) okr hp
        (by rw [setAt_length _ _ _ (by omega), g1]; exact h1)
        (fun k p v hk hv => by
          rw [setAt_get _ _ _ (by omega), hl] at hk
          rw [hget] at hv
          split at hk
          · rename_i hin
            rw [if_pos hin] at hv
            exact c2 _ _ _ hk hv
          · rename_i hin
            rw [if_neg hin] at hv
            exact h2 _ _ _ hk hv)
        (fun k v hv => by
          rw [hget] at hv
          split at hv
          · exact c3 _ (Array.mem_of_getElem? hv)
          · exact h3 _ _ hv)
      refine ⟨r, ?_, hr2⟩
      rw [← hr1]
      simp only [List.map_cons]
      rw [Instr.fill]
      simp only [hplace]
      rw [if_neg (by simp; omega), ← Array.foldl_toList, Array.toList_zipIdx]
  | [], _ :: _, _, _, _, ok, _, _, _, _ => by simp [okParts] at ok
  | _ :: _, [], _, _, _, ok, _, _, _, _ => by simp [okParts] at ok

theorem pur_build (hs : Sim base bio w0 M0 bk0 nt L s M μ β a w) {zero : List PV} {parts : List (Nat × Nat × PArg)} (ok : okOp P o.op o.type (.build zero parts) = true) (hev : evOp F s ⟨d, .build zero parts, gd, wl, av⟩ = some e) : Pur P M μ o a w e := by
  simp only [okOp] at ok
  split at ok
  · rename_i t ps he
    simp only [Bool.and_eq_true] at ok
    obtain ⟨okz, ok2⟩ := ok
    split at okz
    · rename_i z hz
      split at ok2
      · rename_i fs hu
        simp only [Bool.and_eq_true] at ok2
        obtain ⟨okp, okf⟩ := ok2
        obtain ⟨k1, k2⟩ := okCells_rep okz
        simp only [evOp] at hev
        obtain ⟨cs, hcs, rfl⟩ := Option.map_eq_some_iff.1 hev
        unfold zeroT at hz
        obtain ⟨ti, hti, hz⟩ := Option.bind_eq_some_iff.1 hz
        obtain ⟨zv, hzz, hzc⟩ := Option.map_eq_some_iff.1 hz
        obtain ⟨places, hpl⟩ : ∃ places, fs.toList.mapM (fun f => (P.info? f.type).map fun i => (f.offset, i.size)) = some places := by
          have : ∀ l : List Field, (l.all fun f => (P.info? f.type).isSome) = true → ∃ places, l.mapM (fun f => (P.info? f.type).map fun i => (f.offset, i.size)) = some places := by
            intro l
            induction l with
            | nil => intro _; exact ⟨[], rfl⟩
            | cons f l ih =>
              intro h
              simp only [List.all_cons, Bool.and_eq_true] at h
              obtain ⟨i, hi⟩ := Option.isSome_iff_exists.1 h.1
              obtain ⟨pl, hpl⟩ := ih h.2
              exact ⟨(f.offset, i.size) :: pl, by simp [List.mapM_cons, hi, hpl]⟩
          exact this _ okf
        have hlit : ∀ (i : Nat) (p : PV) (v : Value), zero[i]? = some p → zv.cells[i]? = some v → Rep M μ p v ∧ v.oneCell' = true := by
          intro i p v hp hv
          obtain ⟨u, hu', hlit⟩ := k2 i p hp
          rw [← hzc] at hu'
          have : zv.cells[i]? = some u := by simpa using hu'
          rw [this] at hv
          cases hv
          exact ⟨(okLit_rep hlit M μ).1, (okLit_rep hlit M μ).2.1⟩
        have hlen : zero.length = zv.cells.size := by rw [← k1, ← hzc]; simp
        obtain ⟨r, hr, hr1, hr2, hr3⟩ := fill_put hs.regs hpl ps.toList parts zero cs zv.cells okp hcs hlen (fun i p v hp hv => (hlit i p v hp hv).1)
          (fun i v hv => by
            have hi : i < zero.length := by
              rw [hlen]
              rcases Nat.lt_or_ge i zv.cells.size with h | h
              · exact h
              · rw [Array.getElem?_eq_none h] at hv; cases hv
            exact (hlit i _ v (List.getElem?_eq_getElem hi) hv).2)
        have hb : P.built t (ps.map fun (i, x) => (i, a.eval x)).toList = some r := by
          unfold Program.built
          simp only [hti, hu, hzz, hpl]
          rw [← hr]
          simp
        exact ⟨_, _, rfl, by simp [execOp, he, run_build (P := P) w t _ r hb], .agg hr1 hr3 hr2⟩
      · cases ok2
    · cases okz
  · cases ok

end
end Go.Proofs.Ytbdknlejnacmgaa.Pi
