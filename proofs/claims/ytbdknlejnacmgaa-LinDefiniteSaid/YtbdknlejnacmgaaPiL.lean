/-
  Each operation, on: those that reckon a value and ask for no more.
-/
import Derived.Test.YtbdknlejnacmgaaPiK
import Derived.Laws.BytesString
namespace Go.Proofs.Ytbdknlejnacmgaa.Pi
open Go
set_option linter.unusedVariables false
set_option linter.unusedSimpArgs false
section
variable {P : Program} {base : Nat} {bio : Option Nat} {w0 : World} {M0 : Mem} {bk0 : Option Blk} {nt : Nat} {L : List Nat} {s : St} {M : Mem} {μ : NMap} {β : Nat → Option Nm} {a : Act} {w : World}
variable {o : Oper} {d : Option Nat} {K : Act → World → Prop} {Q : Exit → Act → World → Prop} {F : CallF} {gd : Option (Nat × Bool)} {wl : Option Nat} {av : List Nat} {e : Eff}

/-- It reckons a value. -/
def Pur (P : Program) (M : Mem) (μ : NMap) (o : Oper) (a : Act) (w : World) (e : Eff) : Prop := ∃ p v, e = { v := p } ∧ (execOp a.eval o).run P w = .ok (.value v) w ∧ Rep M μ p v

theorem snd_of_pur (hs : Sim base bio w0 M0 bk0 nt L s M μ β a w) (hd : o.dst = d) (hdn : ∀ d', d = some d' → d' < nt) (h : Pur P M μ o a w e) (hK : Goes K base bio w0 M0 bk0 nt L (s.app d e) a d) : o.wp P a w K Q := by
  obtain ⟨p, v, rfl, hrun, hr⟩ := h
  exact snd_pure hs hd hdn hrun hr hK

theorem pur_ext (hs : Sim base bio w0 M0 bk0 nt L s M μ β a w) {x : PArg} {i : Nat} (ok : okOp P o.op o.type (.ext x i) = true) (hev : evOp F s ⟨d, .ext x i, gd, wl, av⟩ = some e) : Pur P M μ o a w e := by
  simp only [okOp] at ok
  split at ok
  · rename_i x' i' he
    simp only [Bool.and_eq_true, beq_iff_eq] at ok
    obtain ⟨ok1, rfl⟩ := ok
    have hr := okArg_rep hs.regs ok1
    simp only [evOp] at hev
    split at hev
    · rename_i vs hx
      rw [hx] at hr
      obtain ⟨p, hp, rfl⟩ := Option.map_eq_some_iff.1 hev
      generalize hv : a.eval x' = v at hr
      cases hr with
      | @tuple _ _ vs' hl h =>
        have hi : i < vs'.size := by rw [← hl]; exact (List.getElem?_eq_some_iff.1 hp).1
        have hu : vs'[i]? = some vs'[i] := Array.getElem?_eq_getElem hi
        exact ⟨p, _, rfl, by simp [execOp, he, hv, Instr.extract, hu], h _ _ _ hp hu⟩
    · cases hev
  · cases ok

/-- A part of a struct's cells. -/
theorem part_run {t : TypeId} {c n : Nat} {agg : Bool} {cs : List PV} {vs : Array Value} {p : PV} (hz : sizeT P t = some n) (hg : aggT P t = some agg) (hl : cs.length = vs.size) (h1 : ∀ (i : Nat) (v : Value), vs[i]? = some v → v.oneCell' = true)
    (h : ∀ (i : Nat) (p : PV) (v : Value), cs[i]? = some p → vs[i]? = some v → Rep M μ p v) (hn : ((cs.drop c).take n).length = n)
    (hp : (bif agg then some (PV.agg ((cs.drop c).take n)) else (match (cs.drop c).take n with | [y] => some y | _ => none)) = some p) :
    ∃ v, (part t vs c).run P w = .ok v w ∧ Rep M μ p v := by
  have hsub : ∀ (i : Nat) (q : PV) (v : Value), ((cs.drop c).take n)[i]? = some q → (vs.extract c (c + n))[i]? = some v → Rep M μ q v := by
    intro i q v hq hv
    rw [List.getElem?_take] at hq
    split at hq
    · rw [List.getElem?_drop] at hq
      rw [Array.getElem?_extract] at hv
      split at hv
      · exact h _ _ _ hq hv
      · cases hv
    · cases hq
  cases agg with
  | true =>
    simp only [cond_true, Option.some.injEq] at hp
    subst hp
    refine ⟨.agg (vs.extract c (c + n)), by simp [part, aggT_run hg, sizeT_run hz], .agg ?_ (fun i v hv => ?_) hsub⟩
    · simp at hn ⊢; omega
    · rw [Array.getElem?_extract] at hv
      split at hv
      · exact h1 _ _ hv
      · cases hv
  | false =>
    simp only [cond_false] at hp
    split at hp
    · rename_i y hy
      have hp := Option.some.inj hp
      subst hp
      have hq : cs[c]? = some y := by
        have : ((cs.drop c).take n)[0]? = some y := by rw [hy]; rfl
        rw [List.getElem?_take] at this
        split at this
        · rw [List.getElem?_drop] at this; simpa using this
        · cases this
      have hc : c < vs.size := by rw [← hl]; exact (List.getElem?_eq_some_iff.1 hq).1
      have hu : vs[c]? = some vs[c] := Array.getElem?_eq_getElem hc
      exact ⟨_, by simp [part, aggT_run hg, hu], h _ _ _ hq hu⟩
    · cases hp

theorem pur_getf (hs : Sim base bio w0 M0 bk0 nt L s M μ β a w) {c n : Nat} {agg : Bool} {x : PArg} (ok : okOp P o.op o.type (.getf c n agg x) = true) (hev : evOp F s ⟨d, .getf c n agg x, gd, wl, av⟩ = some e) : Pur P M μ o a w e := by
  simp only [okOp] at ok
  split at ok
  · rename_i t x' f he
    simp only [Bool.and_eq_true] at ok
    obtain ⟨ok1, ok2⟩ := ok
    split at ok2
    · rename_i fs hu
      cases hf : fs[f]? with
      | none => rw [hf] at ok2; simp at ok2
      | some fl =>
        rw [hf] at ok2
        simp only [Option.map_some, Option.getD_some, Bool.and_eq_true, beq_iff_eq] at ok2
        obtain ⟨⟨⟨rfl, hz⟩, hg⟩, _⟩ := ok2
        have hr := okArg_rep hs.regs ok1
        simp only [evOp] at hev
        split at hev
        · rename_i cs hx
          rw [hx] at hr
          obtain ⟨hl, hev⟩ := cond_some hev
          simp only [beq_iff_eq] at hl
          generalize hv : a.eval x' = v at hr
          cases hr with
          | @agg _ _ vs hl2 h1 h =>
            have hp : ∃ p, (bif agg then some (PV.agg ((cs.drop fl.offset).take n)) else (match (cs.drop fl.offset).take n with | [y] => some y | _ => none)) = some p ∧ e = { v := p } := by
              cases agg with
              | true => simp only [cond_true, Option.some.injEq] at hev; exact ⟨_, rfl, hev.symm⟩
              | false =>
                simp only [cond_false] at hev ⊢
                split at hev
                · rename_i y hy
                  cases hev
                  exact ⟨y, by rw [hy], rfl⟩
                · cases hev
            obtain ⟨p, hp, rfl⟩ := hp
            obtain ⟨u, hu2, hr2⟩ := part_run (P := P) (w := w) hz hg hl2 h1 h hl hp
            exact ⟨p, u, rfl, by simp [execOp, he, hv, Instr.field, run_underlying hu, hf, asAgg, hu2], hr2⟩
        · cases hev
    · cases ok2
  · cases ok

theorem pur_field (hs : Sim base bio w0 M0 bk0 nt L s M μ β a w) {c n : Nat} {x : PArg} (ok : okOp P o.op o.type (.field c n x) = true) (hev : evOp F s ⟨d, .field c n x, gd, wl, av⟩ = some e) : Pur P M μ o a w e := by
  simp only [okOp] at ok
  split at ok
  · rename_i t x' f he
    simp only [Bool.and_eq_true] at ok
    obtain ⟨ok1, ok2⟩ := ok
    split at ok2
    · rename_i fs hu
      cases hf : fs[f]? with
      | none => rw [hf] at ok2; simp at ok2
      | some fl =>
        rw [hf] at ok2
        simp only [Option.map_some, Option.getD_some, Bool.and_eq_true, beq_iff_eq, decide_eq_true_eq] at ok2
        obtain ⟨⟨rfl, hz⟩, hn⟩ := ok2
        have hr := okArg_rep hs.regs ok1
        have hrun : ∀ ad, a.eval x' = .pointer (some ad) → (execOp a.eval o).run P w = .ok (.value (.pointer (some (ad.add fl.offset)))) w := by
          intro ad had
          have hn0 : n ≠ 0 := by omega
          simp [execOp, he, had, Instr.fieldAt, run_underlying hu, hf, Instr.sureAddr, fieldPlace, sizeT_run hz, hn0]
        simp only [evOp] at hev
        split at hev
        · rename_i nm i c0 hx
          cases hev
          rw [hx] at hr
          generalize hv : a.eval x' = v at hr hrun
          cases hr with
          | @optr _ _ _ _ b bk hn hb =>
            refine ⟨_, _, rfl, hrun _ rfl, ?_⟩
            rw [add_none, Nat.add_assoc]
            exact .optr hn hb
        · rename_i y hx
          cases hev
          rw [hx] at hr
          generalize hv : a.eval x' = v at hr hrun
          cases hr with
          | vptr cc h1 h2 =>
            refine ⟨_, _, rfl, hrun _ rfl, .vptr (fun j => cc (fl.offset + j)) (fun j p hp => ?_) (fun j p hp => ?_)⟩
            · rw [List.getElem?_drop] at hp
              rw [add_add]
              exact h1 _ _ hp
            · rw [List.getElem?_drop] at hp
              exact h2 _ _ hp
        · cases hev
    · cases ok2
  · cases ok

theorem nat?_rep {p : PV} {v : Value} {n : Nat} (h : nat? p = some n) (hr : Rep M μ p v) : ∃ k, v = .int k (n : Int) := by
  unfold nat? at h
  split at h
  · obtain ⟨h0, h⟩ := cond_some h
    cases h
    simp only [decide_eq_true_eq] at h0
    cases hr
    exact ⟨_, by rw [Int.toNat_of_nonneg h0]⟩
  · cases h

theorem pur_idx (hs : Sim base bio w0 M0 bk0 nt L s M μ β a w) {sz : Nat} {x i : PArg} (ok : okOp P o.op o.type (.idx sz x i) = true) (hev : evOp F s ⟨d, .idx sz x i, gd, wl, av⟩ = some e) : Pur P M μ o a w e := by
  simp only [okOp] at ok
  split at ok
  · rename_i t x' i' he
    simp only [Bool.and_eq_true] at ok
    obtain ⟨⟨ok1, ok3⟩, ok2⟩ := ok
    split at ok2
    · rename_i et hu
      simp only [beq_iff_eq] at ok2
      have hr := okArg_rep hs.regs ok1
      have hri := okArg_rep hs.regs ok3
      simp only [evOp] at hev
      obtain ⟨k, hk, hev⟩ := Option.bind_eq_some_iff.1 hev
      obtain ⟨ik, hi⟩ := nat?_rep hk hri
      have hrun : ∀ ad len cap, a.eval x' = .slice (some ad) len cap → k < len → (execOp a.eval o).run P w = .ok (.value (.pointer (some (ad.add (k * sz))))) w := by
        intro ad len cap had hlt
        simp [execOp, he, had, hi, Instr.indexAt, asIntOf, run_underlying hu, sizeT_run ok2, hlt]
      split at hev
      · rename_i xs hx
        obtain ⟨y, hy, hev⟩ := Option.bind_eq_some_iff.1 hev
        obtain ⟨hc, hev⟩ := cond_some hev
        simp only [Bool.and_eq_true, beq_iff_eq, decide_eq_true_eq] at hc
        cases hev
        rw [hx] at hr
        generalize hv : a.eval x' = v at hr hrun
        cases hr with
        | view sz' cc hcap hsz hm h =>
          have e1 := hsz _ _ hy
          rw [hc.1] at e1
          subst e1
          have hy0 : y[0]? = some y[0] := List.getElem?_eq_getElem (by omega)
          obtain ⟨ad, rfl, _⟩ := hm k y 0 _ hy hy0
          refine ⟨_, _, rfl, hrun ad _ _ rfl (List.getElem?_eq_some_iff.1 hy).1, .vptr (fun j => cc k j) (fun j p hp => ?_) (fun j p hp => h k y j p hy hp)⟩
          obtain ⟨ad', had, h1, h2⟩ := hm k y j p hy hp
          cases had
          rw [add_add]
          exact ⟨h1, h2⟩
      · rename_i n zs off len hx
        obtain ⟨hc, hev⟩ := cond_some hev
        simp only [Bool.and_eq_true, beq_iff_eq, decide_eq_true_eq] at hc
        cases hev
        rw [hx] at hr
        generalize hv : a.eval x' = v at hr hrun
        cases hr with
        | @own _ _ _ _ _ cap A bk hn hq hl ht hm ha hz =>
          rcases ha (.inr (by omega)) with ⟨h1, _⟩ | ⟨b, hb, rfl⟩
          · have := hz h1; omega
          · refine ⟨_, _, rfl, hrun _ _ _ rfl hc.1, ?_⟩
            have := Rep.optr (M := M) (i := off + k) (c := 0) hn hb
            rw [add_none]
            rw [← hc.2, ← hq, ← Nat.add_mul]
            exact this
      · cases hev
    · cases ok2
  · cases ok

theorem pur_sidx (hs : Sim base bio w0 M0 bk0 nt L s M μ β a w) {x i : PArg} (ok : okOp P o.op o.type (.sidx x i) = true) (hev : evOp F s ⟨d, .sidx x i, gd, wl, av⟩ = some e) : Pur P M μ o a w e := by
  simp only [okOp] at ok
  split at ok
  · rename_i t x' i' he
    simp only [Bool.and_eq_true] at ok
    obtain ⟨⟨ok1, ok3⟩, ok2⟩ := ok
    split at ok2
    · rename_i hu
      have hr := okArg_rep hs.regs ok1
      have hri := okArg_rep hs.regs ok3
      simp only [evOp] at hev
      obtain ⟨k, hk, hev⟩ := Option.bind_eq_some_iff.1 hev
      obtain ⟨ik, hi⟩ := nat?_rep hk hri
      split at hev
      · rename_i l hx
        obtain ⟨c, hc, rfl⟩ := Option.map_eq_some_iff.1 hev
        rw [hx] at hr
        generalize hv : a.eval x' = v at hr
        cases hr with
        | @str _ _ sb h =>
          have hlt : k < sb.size := by
            have := (List.getElem?_eq_some_iff.1 hc).1
            rw [← h] at this
            simpa using this
          have hcv : c = sb[k].toNat := by
            subst h
            rw [List.getElem?_map, Option.map_eq_some_iff] at hc
            obtain ⟨q, hq, rfl⟩ := hc
            obtain ⟨hq1, hq2⟩ := List.getElem?_eq_some_iff.1 hq
            rw [← hq2]
            simp [ByteArray.getElem_eq_getElem_data]
          refine ⟨_, _, rfl, ?_, .int .u8 (c : Int)⟩
          have := run_index_string (P := P) w t sb ik (k : Int) hu
          rw [dif_pos ⟨by omega, by omega⟩] at this
          simp only [Int.toNat_natCast] at this
          simp [execOp, he, hv, hi, this, hcv]
      · cases hev
    · cases ok2
  · cases ok

theorem pur_un (hs : Sim base bio w0 M0 bk0 nt L s M μ β a w) {op : UnOp} {x : PArg} (ok : okOp P o.op o.type (.un op x) = true) (hev : evOp F s ⟨d, .un op x, gd, wl, av⟩ = some e) : Pur P M μ o a w e := by
  simp only [okOp] at ok
  split at ok
  · rename_i op' t x' he
    simp only [Bool.and_eq_true, decide_eq_true_eq] at ok
    obtain ⟨rfl, ok1⟩ := ok
    have hr := okArg_rep hs.regs ok1
    simp only [evOp] at hev
    obtain ⟨p, hp, rfl⟩ := Option.map_eq_some_iff.1 hev
    generalize hpx : s.ev x = px at hr hp
    unfold bun at hp
    split at hp
    · cases hp
      generalize hv : a.eval x' = v at hr
      cases hr
      exact ⟨_, _, rfl, by simp [execOp, he, hv, Op.unary, Op.intArith], .int _ _⟩
    · cases hp
      generalize hv : a.eval x' = v at hr
      cases hr
      exact ⟨_, _, rfl, by simp [execOp, he, hv, Op.unary, Op.intBits], .int _ _⟩
    · cases hp
      generalize hv : a.eval x' = v at hr
      cases hr
      exact ⟨_, _, rfl, by simp [execOp, he, hv, Op.unary], .bool _⟩
    · cases hp
  · cases ok

theorem pur_conv (hs : Sim base bio w0 M0 bk0 nt L s M μ β a w) {k : IntKind} {x : PArg} (ok : okOp P o.op o.type (.conv k x) = true) (hev : evOp F s ⟨d, .conv k x, gd, wl, av⟩ = some e) : Pur P M μ o a w e := by
  simp only [okOp] at ok
  split at ok
  · rename_i ts td x' he
    simp only [Bool.and_eq_true] at ok
    obtain ⟨⟨ok1, ok2⟩, ok3⟩ := ok
    split at ok3
    · rename_i k' hu
      simp only [decide_eq_true_eq] at ok3
      subst ok3
      have hr := okArg_rep hs.regs ok1
      simp only [evOp] at hev
      split at hev
      · rename_i q n hx
        cases hev
        rw [hx] at hr
        generalize hv : a.eval x' = v at hr
        cases hr
        obtain ⟨ds, hds⟩ := Option.isSome_iff_exists.1 ok2
        exact ⟨_, _, rfl, by simp [execOp, he, hv, convert, run_underlying hds, run_underlying hu, Conv.intToInt], .int _ _⟩
      · cases hev
    · cases ok3
  · cases ok

theorem pur_clos (hs : Sim base bio w0 M0 bk0 nt L s M μ β a w) {f : Nat} {cap : List PArg} (ok : okOp P o.op o.type (.clos f cap) = true) (hev : evOp F s ⟨d, .clos f cap, gd, wl, av⟩ = some e) : Pur P M μ o a w e := by
  simp only [okOp] at ok
  split at ok
  · rename_i f' first caps he
    simp only [Bool.and_eq_true, beq_iff_eq] at ok
    obtain ⟨⟨rfl, hf⟩, ok⟩ := ok
    have hfe : first = #[] := by simpa using hf
    subst hfe
    simp only [evOp, Option.some.injEq] at hev
    subst hev
    obtain ⟨h1, h2⟩ := okArgs_rep hs.regs ok
    refine ⟨_, .func (.func f) #[] (caps.map a.eval), rfl, by simp [execOp, he, Instr.makeFunc], .fn (by simpa using h1) (fun i p v hp hv => ?_)⟩
    rw [List.getElem?_map, Option.map_eq_some_iff] at hp
    obtain ⟨y, hy, rfl⟩ := hp
    rw [Array.getElem?_map, Option.map_eq_some_iff] at hv
    obtain ⟨x, hx, rfl⟩ := hv
    exact h2 i y x hy (by simpa using hx)
  · cases ok

theorem slen_rep {p : PV} {v : Value} {n : Nat} (h : slen p = some n) (hr : Rep M μ p v) : ∃ A c, v = .slice A n c := by
  unfold slen at h
  split at h
  · cases h; cases hr; exact ⟨_, _, rfl⟩
  · cases h; cases hr; exact ⟨_, _, rfl⟩
  · cases h; cases hr; exact ⟨_, _, rfl⟩
  · cases h

theorem pur_len (hs : Sim base bio w0 M0 bk0 nt L s M μ β a w) {str : Bool} {x : PArg} (ok : okOp P o.op o.type (.len str x) = true) (hev : evOp F s ⟨d, .len str x, gd, wl, av⟩ = some e) : Pur P M μ o a w e := by
  simp only [okOp] at ok
  split at ok
  · rename_i args ats he
    simp only [Bool.and_eq_true] at ok
    obtain ⟨ok1, ok2⟩ := ok
    obtain ⟨ox, hargs, okx⟩ := okArgs1 ok1
    have hargs := arr1 hargs
    subst hargs
    split at ok2
    · rename_i t hat
      have hr := okArg_rep hs.regs okx
      have hrun0 : ∀ v w', (Builtin.len_ ats o.type #[a.eval ox]).run P w = .ok v w' → (execOp a.eval o).run P w = .ok (.value v) w' := by
        intro v w' h
        obtain ⟨cs, hcs⟩ := builtin_run (P := P) (a := a) (w := w) he
        rw [hcs]
        simp [builtin, h]
      simp only [evOp] at hev
      obtain ⟨n, hn, rfl⟩ := Option.map_eq_some_iff.1 hev
      split at ok2
      · rename_i hu
        subst ok2
        simp only [cond_true] at hn
        split at hn
        · rename_i l hx
          cases hn
          rw [hx] at hr
          generalize hv : a.eval ox = v at hr hrun0
          cases hr with
          | @str _ _ sb h =>
            refine ⟨_, _, rfl, hrun0 (goInt sb.size) _ (by simp [Builtin.len_, hat, run_underlying hu]), ?_⟩
            have : l.length = sb.size := by rw [← h]; simp
            rw [this]
            exact .int .i64 _
        · cases hn
      · rename_i et hu
        simp only [Bool.not_eq_true'] at ok2
        subst ok2
        simp only [cond_false] at hn
        obtain ⟨A, c, hv⟩ := slen_rep hn hr
        refine ⟨_, _, rfl, hrun0 (goInt n) _ (by simp [Builtin.len_, hat, run_underlying hu, hv]), .int .i64 _⟩
      · cases ok2
    · cases ok2
  · cases ok

end
end Go.Proofs.Ytbdknlejnacmgaa.Pi
