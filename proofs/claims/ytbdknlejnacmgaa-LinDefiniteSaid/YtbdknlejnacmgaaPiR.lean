/-
  Calls, on: the operation.
-/
import Derived.Test.YtbdknlejnacmgaaPiQ
namespace Go.Proofs.Ytbdknlejnacmgaa.Pi
open Go
set_option linter.unusedVariables false
set_option linter.unusedSimpArgs false
section
variable {P : Program} {base : Nat} {bio : Option Nat} {w0 : World} {M0 : Mem} {bk0 : Option Blk} {nt : Nat} {L : List Nat} {s : St} {M : Mem} {μ : NMap} {β : Nat → Option Nm} {a : Act} {w : World}
variable {o : Oper} {d : Option Nat} {K : Act → World → Prop} {Q : Exit → Act → World → Prop} {F : CallF} {gd : Option (Nat × Bool)} {wl : Option Nat} {av : List Nat} {e : Eff}

theorem noLabel {ν : Nat → Option Blk} (h : ∀ j, ν j = none) (μ : NMap) : NLe (ownMap ν) μ := by
  intro n k hn
  unfold ownMap at hn
  split at hn
  · rw [h] at hn; cases hn
  · cases hn

/-- What comes of what a callee hands back. -/
theorem left_val {bk : Option Blk} {r : Ret} {v : Value} {w1 : World} {ν : Nat → Option Blk} {β2 : Nat → Option Nat} {M1 : Mem} (hL : Left w M bk r v w1 M1 ν β2) {imp : Option Nat} {zs : List (Nat × Nat)} {io : List Ent}
    (ht : takeIn s imp r zs io = some e) :
    (∃ M3, MLe M1 M3 ∧ MIn M3 w1 ∧ (∀ b, b < w.heap.size → M3 b = M b) ∧ e.up = io ∧ e.z = zs ∧ Rep M3 noNm e.v v) ∨
    (∃ l, imp = some l ∧ 1 ≤ l ∧ e.up = { l := l, g := s.g, fz := false, os := r.own.map (renO 1 0 l s.g) } :: io ∧ e.z = zs ∧ e.v = ren 1 0 l s.g (one r.vs) ∧ r.own ≠ []) := by
  unfold takeIn at ht
  split at ht
  · rename_i h0
    cases ht
    refine .inl ⟨M1, MLe.refl _, hL.min, hL.mnew, rfl, rfl, hL.val.mono (MLe.refl _) (noLabel (fun j => hL.kids j (by rw [h0]; exact Nat.zero_le _)) _)⟩
  · rename_i h0
    split at ht
    · rename_i l
      obtain ⟨hl, ht⟩ := cond_some ht
      simp only [decide_eq_true_eq] at hl
      cases ht
      exact .inr ⟨l, rfl, hl, rfl, rfl, rfl, fun h => h0 h⟩
    · obtain ⟨⟨q, z2⟩, hq, he⟩ := Option.map_eq_some_iff.1 ht
      cases he
      obtain ⟨_, _, hgood⟩ := fzv_good _ _ _ hq
      let M3 : Mem := fun b => if w.heap.size ≤ b ∧ (β2 b).isSome = true then (match w1.heap[b]? with | some (.cells c _ _) => some c | _ => M1 b) else M1 b
      have hle : MLe M1 M3 := by
        intro b c hb
        obtain ⟨ty, fr, hh⟩ := hL.min b c hb
        show (if w.heap.size ≤ b ∧ (β2 b).isSome = true then (match w1.heap[b]? with | some (.cells c _ _) => some c | _ => M1 b) else M1 b) = some c
        split
        · rw [hh]
        · exact hb
      refine .inl ⟨M3, hle, ?_, ?_, rfl, rfl, ?_⟩
      · intro b c hb
        have hb2 : (if w.heap.size ≤ b ∧ (β2 b).isSome = true then (match w1.heap[b]? with | some (.cells c _ _) => some c | _ => M1 b) else M1 b) = some c := hb
        split at hb2
        · split at hb2
          · rename_i c' ty fr hh
            cases hb2
            exact ⟨ty, fr, hh⟩
          · exact hL.min b c hb2
        · exact hL.min b c hb2
      · intro b hb
        show (if w.heap.size ≤ b ∧ (β2 b).isSome = true then (match w1.heap[b]? with | some (.cells c _ _) => some c | _ => M1 b) else M1 b) = M b
        rw [if_neg (by omega)]
        exact hL.mnew b hb
      · have hobjs : ∀ (n : Nm) (o : Obj), hobj [{ l := 1, g := 0, fz := false, os := r.own }] n = some o → n.l = 1 ∧ n.g = 0 ∧ r.own[n.j]? = some o := by
          intro n o hn
          rw [hobj_cons] at hn
          split at hn
          · rename_i e; exact ⟨e.1.symm, e.2.symm, hn⟩
          · simp [hobj, efind] at hn
        refine hgood M1 M3 (ownMap ν) w1 v hle (fun n o hn => ?_) (fun n o k b c ty fr hn _ hk hb hh => ?_) hL.val
        · obtain ⟨h1, h2, h3⟩ := hobjs n o hn
          obtain ⟨k, g1, g2, _⟩ := hL.objs n.j o h3
          exact ⟨k, by simp [ownMap, h1, h2, g1], g2⟩
        · obtain ⟨h1, h2, h3⟩ := hobjs n o hn
          obtain ⟨k', g1, _, g3⟩ := hL.objs n.j o h3
          have : k' = k := by simp [ownMap, h1, h2, g1] at hk; exact hk
          subst this
          obtain ⟨q1, _, _, q4⟩ := g3 b hb
          show (if w.heap.size ≤ b ∧ (β2 b).isSome = true then (match w1.heap[b]? with | some (.cells c _ _) => some c | _ => M1 b) else M1 b) = some c
          rw [if_pos ⟨q1, by rw [q4]; rfl⟩, hh]

/-- A call without an object to change. -/
theorem call_plain (hs : Sim base bio w0 M0 bk0 nt L s M μ β a w) {r : Ret} {v : Value} {w1 : World} {ν : Nat → Option Blk} {β2 : Nat → Option Nat} {M1 : Mem} {io : List Ent} {zs : List (Nat × Nat)} {bk : Option Blk} {MC : Mem}
    (hL : Left w MC bk r v w1 M1 ν β2) {imp : Option Nat} (himp : ∀ l, imp = some l → l ∉ L)
    -- the state with the groups frozen, and the changed object put
    (hs1 : ∀ M3, MLe M1 M3 → MIn M3 w1 → (∀ b, b < w.heap.size → M3 b = MC b) → Sim base bio w0 M0 bk0 nt L { s with h := io ++ s.h, z := zs ++ s.z } M3 μ β a w1)
    (ht : takeIn s imp r zs io = some e) :
    ∃ M3 μ' β', Sim base bio w0 M0 bk0 nt (imp.toList ++ L) (s.app none e) M3 μ' β' a w1 ∧ Rep M3 μ' e.v v := by
  rcases left_val hL ht with ⟨M3, h1, h2, h3, h4, h5, h6⟩ | ⟨l, rfl, h1, h2, h3, h4, h5⟩
  · refine ⟨M3, μ, β, ?_, h6.mono (MLe.refl _) (NLe.noNm _)⟩
    have := (hs1 M3 h1 h2 h3).more imp.toList
    simpa [St.app, h4, h5] using this
  · have hs2 := hs1 M1 (MLe.refl _) hL.min hL.mnew
    obtain ⟨μ', β', hle, hin, hs3⟩ := hs2.addOwn (B := w.heap.size) (os := r.own) (ν := ν) (β2 := β2) h1 (himp l rfl) hs.grow hs.lt
      hL.objs hL.kids hL.cells
    refine ⟨M1, μ', β', by simpa [St.app, h2, h3] using hs3, ?_⟩
    obtain ⟨sz, len, hv⟩ := hL.one h5
    rw [h4]
    refine ren_in (fun j k hk => by rw [← hk]; exact hin j) hL.val ?_
    rw [hv]
    exact .inr rfl


theorem Sim.fzin (hs : Sim base bio w0 M0 bk0 nt L s M μ β a w) (zs : List (Nat × Nat)) : FzIn μ w s.h (Pi.frz M β w zs) zs := by
  intro n o k b c ty fr hn hz hk hb hh
  obtain ⟨k', hk', _, hβ⟩ := hs.objs n o hn
  rw [hk'] at hk
  cases hk
  exact frz_zin hz (hβ b hb) hh

theorem enter_run {f' : Operand} {args : Array Operand} {ats : Array TypeId} {k : Nat} {vs : Array Value} (he : o.op = .call { callee := .value f', args := args, argTypes := ats }) (hv : a.eval f' = .func (.func k) #[] vs)
    (hfn : ∃ fn, P.funcs[k]? = some fn ∧ fn.body.isSome = true ∧ (fn.name == "runtime.NumGoroutine") = false) : (execOp a.eval o).run P w = .ok (.enter k (args.map a.eval ++ vs)) w := by
  obtain ⟨fn, h1, h2, h3⟩ := hfn
  obtain ⟨c, hc⟩ := Option.isSome_iff_exists.1 h2
  have h3' : fn.name ≠ "runtime.NumGoroutine" := by simpa using h3
  simp [execOp, he, resolve, hv, Deferred.ofValue, invoke, callFunc, h1, h3', hc]

theorem snd_call (hG : Good P F) (hs : Sim base bio w0 M0 bk0 nt L s M μ β a w) (hd : o.dst = d) (hdn : ∀ d', d = some d' → d' < nt) {f : PArg} {al : List PArg} {io imp : Option Nat}
    (ok : okOp P o.op o.type (.call f al io imp) = true) (himp : ∀ l, imp = some l → l ∉ L) (hev : evCall F s av wl (s.ev f) (al.map s.ev) io imp = some e)
    (hK : Goes K base bio w0 M0 bk0 nt (imp.toList ++ L) (s.app d e) a d) : o.wp P a w K Q := by
  simp only [okOp] at ok
  split at ok
  · rename_i f' args ats he
    simp only [Bool.and_eq_true] at ok
    obtain ⟨okf, oka⟩ := ok
    have hrf := okArg_rep hs.regs okf
    obtain ⟨ha1, ha2⟩ := okArgs_rep hs.regs oka
    have ha1 : al.length = args.size := by rw [ha1]; exact Array.length_toList
    unfold evCall at hev
    split at hev
    · rename_i k cap hfk
      rw [hfk] at hrf
      generalize hvf : a.eval f' = vf at hrf
      cases hrf with
      | @fn _ _ _ vs hcl hch =>
        simp only at hev
        -- the arguments
        have hlen : (al.map s.ev ++ cap).length = (args.map a.eval ++ vs).size := by simp [ha1, hcl]
        have hrep : ∀ (i : Nat) (p : PV) (v : Value), (al.map s.ev ++ cap)[i]? = some p → (args.map a.eval ++ vs)[i]? = some v → Rep M μ p v := by
          intro i p v hp hv
          rcases Nat.lt_or_ge i al.length with hi | hi
          · rw [List.getElem?_append_left (by simpa using hi), List.getElem?_map, Option.map_eq_some_iff] at hp
            rw [Array.getElem?_append_left (by simp; omega), Array.getElem?_map, Option.map_eq_some_iff] at hv
            obtain ⟨y, hy, rfl⟩ := hp
            obtain ⟨x, hx, rfl⟩ := hv
            exact ha2 i y x hy (by simpa using hx)
          · rw [List.getElem?_append_right (by simpa using hi)] at hp
            rw [Array.getElem?_append_right (by simp; omega)] at hv
            refine hch _ p v hp ?_
            simpa [ha1] using hv
        have done : ∀ (v : Value) (w1 : World) (M3 : Mem) (μ' : NMap) (β' : Nat → Option Nm), Sim base bio w0 M0 bk0 nt (imp.toList ++ L) (s.app none e) M3 μ' β' a w1 → Rep M3 μ' e.v v → K (a.put o.dst v) w1 := by
          intro v w1 M3 μ' β' h1 h2
          rw [hd]
          exact hK _ _ _ _ _ (h1.fill d hdn h2)
        have plain : ∀ (q : List PV × List (Nat × Nat)) (r : Ret), fzl (fzv s.h) (al.map s.ev ++ cap) = some q → F k q.1 none = some r → takeIn s imp r q.2 [] = some e → o.wp P a w K Q := by
          intro q r hq hF ht
          obtain ⟨z1, z2, z3⟩ := fzl_good (qs := q.1) (zs := q.2) hq
          have hs2 := hs.frz q.2 z1
          obtain ⟨g1, g2, g3⟩ := hG k q.1 none r hF
          have hcalls := g3 w (frz M β w q.2) (args.map a.eval ++ vs) none hs2.min (by rw [z2, hlen]) (fun i p v hp hv => by
            have hi : i < (al.map s.ev ++ cap).length := by rw [← z2]; exact (List.getElem?_eq_some_iff.1 hp).1
            exact (z3 M _ μ w (hs.mfrz q.2) hs.obs (hs.fzin q.2) i _ p v (List.getElem?_eq_getElem hi) hp (hrep i _ v (List.getElem?_eq_getElem hi) hv)).mono (MLe.refl _) (NLe.noNm _)) rfl
          unfold Oper.wp
          rw [enter_run he hvf g1]
          refine Calls.mono hcalls fun en w1 hpost => ?_
          cases en with
          | returned v =>
            obtain ⟨M1, ν, β2, hL⟩ := hpost
            obtain ⟨M3, μ', β', h1, h2⟩ := call_plain hs (hL := hL) himp (zs := q.2) (io := []) (fun M3 i1 i2 i3 => hs2.ext (hL.mle.trans i1) i3 i2 (fun b hb => hL.frame b hb (by simp)) hL.grow hL.os hL.tape hL.out hL.nofz) ht
            exact done v w1 M3 μ' β' h1 h2
          | panicked _ => exact hpost.elim
          | outgrown => exact hpost.elim
        split at hev
        · rename_i n sz off len p hio
          obtain ⟨p', hp', hpn⟩ := Option.bind_eq_some_iff.1 hio
          simp only [Option.some.injEq] at hp'
          subst hp'
          obtain ⟨hav, hev0⟩ := cond_some hev
          clear hev
          have hev := hev0
          clear hev0
          cases hfz : isFz s.h s.z n with
          | true =>
            simp only [hfz, cond_true] at hev
            obtain ⟨q, hq, hev2⟩ := Option.bind_eq_some_iff.1 hev
            obtain ⟨_, hev3⟩ := cond_some hev2
            obtain ⟨r, hF, ht⟩ := Option.bind_eq_some_iff.1 hev3
            exact plain q r hq hF ht
          | false =>
            simp only [hfz, cond_false] at hev
            obtain ⟨q, hq, hev2⟩ := Option.bind_eq_some_iff.1 hev
            obtain ⟨hc, hev3⟩ := cond_some hev2
            simp only [Bool.and_eq_true, List.all_eq_true, Bool.not_eq_true', beq_iff_eq] at hc
            obtain ⟨hq2, _⟩ := hc
            obtain ⟨ob, hob, hev4⟩ := Option.bind_eq_some_iff.1 hev3
            obtain ⟨hc2, hev5⟩ := cond_some hev4
            simp only [Bool.and_eq_true, decide_eq_true_eq] at hc2
            obtain ⟨hpure, hle⟩ := hc2
            obtain ⟨r, hF, hev6⟩ := Option.bind_eq_some_iff.1 hev5
            split at hev6
            · rename_i o' hro
              obtain ⟨en', hen', ht⟩ := Option.bind_eq_some_iff.1 hev6
              unfold put at hen'
              obtain ⟨en, hen, rfl⟩ := Option.map_eq_some_iff.1 hen'
              clear hev hev2 hev3 hev4 hev5 hev6 hen'
              obtain ⟨z1, z2, z3⟩ := fzl_good (qs := q.1) (zs := q.2) hq
              have hs2 := hs.frz q.2 z1
              have hzin : zin q.2 n.l n.g = false := by
                have : ∀ (zs : List (Nat × Nat)), (∀ x ∈ zs, (x.1 == n.l && x.2 == n.g) = false) → zin zs n.l n.g = false := by
                  intro zs
                  induction zs with
                  | nil => intro _; rfl
                  | cons x zs ih =>
                    intro h
                    obtain ⟨x1, x2⟩ := x
                    simp only [zin, Bool.or_eq_false_iff]
                    exact ⟨h (x1, x2) (by simp), ih fun y hy => h y (by simp [hy])⟩
                exact this _ fun x hx => (hq2 x hx).2
              have hfz2 : isFz s.h (q.2 ++ s.z) n = false := by
                unfold isFz at hfz ⊢
                rw [zin_append, hzin, Bool.false_or]
                exact hfz
              obtain ⟨bk, hbk, hcont, hβ⟩ := hs.objs n ob hob
              obtain ⟨bk2, hbk2, hcont2, hβ2⟩ := hs2.objs n ob hob
              rw [hbk] at hbk2
              cases hbk2
              have hnil : (al.map s.ev ++ cap).length = ((al.map s.ev ++ cap).set p .nil0).length := by simp
              have hpl : p < (al.map s.ev ++ cap).length := (List.getElem?_eq_some_iff.1 hpn).1
              have hcontN : Cont (frz M β w q.2) noNm w bk ob := by
                obtain ⟨c1, c2, c3⟩ := hcont2
                refine ⟨c1, c2, ?_⟩
                cases hb : bk.b with
                | none => rw [hb] at c3; exact c3
                | some b =>
                  rw [hb] at c3
                  obtain ⟨c, ty, r1, r2, r3, r4⟩ := c3
                  refine ⟨c, ty, r1, r2, r3, fun i x hi => ⟨(r4 i x hi).1, fun j p hp => ?_⟩⟩
                  obtain ⟨v, u1, u2, u3⟩ := (r4 i x hi).2 j p hp
                  exact ⟨v, u1, u2.pure0 (c1 hpure x (List.mem_of_getElem? hi) p (List.mem_of_getElem? hp)), u3⟩
              obtain ⟨g1, g2, g3⟩ := hG k _ (some ob) r hF
              have hcalls := g3 w (frz M β w q.2) (args.map a.eval ++ vs) (some bk) hs2.min (by simp [z2, hlen]) (fun i p' v hp' hv => by
                by_cases hip : p = i
                · subst hip
                  rw [List.getElem?_set_self (by rw [z2, ← hnil]; exact hpl)] at hp'
                  cases hp'
                  have hr := hrep p _ v hpn hv
                  obtain ⟨A, cp, bk', rfl, k1, k2, k3, k4, k5, k6, k7⟩ := own_inv hr
                  rw [hbk] at k1
                  cases k1
                  exact .own (by simp [ioMap]) k2 k3 k4 k5 k6 k7
                · rw [List.getElem?_set_ne hip] at hp'
                  have hi : i < ((al.map s.ev ++ cap).set p .nil0).length := by rw [← z2]; exact (List.getElem?_eq_some_iff.1 hp').1
                  have hi2 : i < (al.map s.ev ++ cap).length := by rw [hnil]; exact hi
                  have hg : ((al.map s.ev ++ cap).set p .nil0)[i]? = some (al.map s.ev ++ cap)[i] := by rw [List.getElem?_set_ne hip, List.getElem?_eq_getElem hi2]
                  exact (z3 M _ μ w (hs.mfrz q.2) hs.obs (hs.fzin q.2) i _ p' v hg hp' (hrep i _ v (List.getElem?_eq_getElem hi2) hv)).mono (MLe.refl _) (NLe.noNm _))
                ⟨bk, rfl, hcontN, hpure, fun b hb => ⟨hs.lt n bk b hbk hb, hs2.unf n ob bk b hob hfz2 hbk hb⟩⟩
              unfold Oper.wp
              rw [enter_run he hvf g1]
              refine Calls.mono hcalls fun ed w1 hpost => ?_
              cases ed with
              | panicked _ => exact hpost.elim
              | outgrown => exact hpost.elim
              | returned v =>
                obtain ⟨M1, ν, β2, hL⟩ := hpost
                obtain ⟨kio, hkio, hcio, hpio⟩ := hL.io o' hro
                cases hkio
                have hs3 : ∀ M3, MLe M1 M3 → MIn M3 w1 → (∀ b, b < w.heap.size → M3 b = frz M β w q.2 b) → Sim base bio w0 M0 bk0 nt L { s with h := { en with os := en.os.set n.j o' } :: s.h, z := q.2 ++ s.z } M3 μ β a w1 := by
                  intro M3 i1 i2 i3
                  cases hb : bk.b with
                  | none =>
                    have hsx := hs2.ext (hL.mle.trans i1) i3 i2 (fun b hb' => hL.frame b hb' (by simp [hb])) hL.grow hL.os hL.tape hL.out hL.nofz
                    have ho1 : ob = o' := by
                      obtain ⟨_, _, c3⟩ := hcont
                      obtain ⟨_, _, c4⟩ := hcio
                      rw [hb] at c3 c4
                      cases ob; cases o'
                      simp only at c3 c4 hpure hpio
                      simp [c3.1, c4.1, hpure, hpio]
                    refine hsx.congr ⟨fun _ => rfl, fun l g => ?_, fun _ _ => rfl, rfl⟩
                    obtain ⟨el, eg⟩ := efind_lg hen
                    rw [efind_cons]
                    by_cases e1 : en.l = l ∧ en.g = g
                    · have hset : en.os.set n.j o' = en.os := by
                        rw [← ho1]
                        unfold hobj at hob
                        rw [hen] at hob
                        simp only [Option.bind_some] at hob
                        obtain ⟨q1, q2⟩ := List.getElem?_eq_some_iff.1 hob
                        rw [← q2]
                        exact List.set_getElem_self q1
                      rw [if_pos e1, hset]
                      show efind s.h l g = some en
                      rw [← e1.1, ← e1.2, el, eg, hen]
                    · rw [if_neg e1]
                  | some b =>
                    obtain ⟨cp, ct, cc4⟩ := hcio
                    rw [hb] at cc4
                    obtain ⟨c, ty, r1, r2, r3, r4⟩ := cc4
                    have hblt := hs.lt n bk b hbk hb
                    obtain ⟨_, _, cc3⟩ := hcont
                    rw [hb] at cc3
                    obtain ⟨cold, tyo, hhold, _⟩ := cc3
                    have hb1 : b < w1.heap.size := Nat.lt_of_lt_of_le hblt hL.grow
                    let wm : World := { w1 with heap := w1.heap.set b (.cells cold tyo (0, 0)) hb1 }
                    have hwm : ∀ b', wm.heap[b']? = if b = b' then some (.cells cold tyo (0, 0)) else w1.heap[b']? := fun b' => by
                      show (w1.heap.set b (.cells cold tyo (0, 0)) hb1)[b']? = _
                      rw [Array.getElem?_set]
                    have hMb : M3 b = none := by rw [i3 b hblt]; exact hs2.unf n ob bk b hob hfz2 hbk hb
                    have hsx : Sim base bio w0 M0 bk0 nt L { s with z := q.2 ++ s.z } M3 μ β a wm := hs2.ext (hL.mle.trans i1) i3
                      (fun b' c' hc' => by
                        obtain ⟨ty', fr', hh'⟩ := i2 b' c' hc'
                        refine ⟨ty', fr', ?_⟩
                        rw [hwm, if_neg ?_]
                        · exact hh'
                        · intro e1; subst e1; rw [hMb] at hc'; cases hc')
                      (fun b' hb' => by
                        rw [hwm]
                        split
                        · rename_i e1; subst e1; exact hhold.symm
                        · rename_i e1; exact hL.frame b' hb' (by simp [hb]; exact e1))
                      (by show w.heap.size ≤ (w1.heap.set b (.cells cold tyo (0, 0)) hb1).size; rw [Array.size_set]; exact hL.grow) hL.os hL.tape hL.out (fun b' hb' c' ty' fr' hx' => by
                        rw [hwm, if_neg (by omega)] at hx'
                        exact hL.nofz b' hb' c' ty' fr' hx')
                    refine hsx.write (o' := o') (c := c) (ty := ty) (w' := w1) hob hfz2 hbk hb hen r1 (fun b' hne => by rw [hwm, if_neg (fun e1 => hne e1.symm)]) (by show w1.heap.size = (w1.heap.set b (.cells cold tyo (0, 0)) hb1).size; rw [Array.size_set]) rfl rfl rfl ?_ r2 r3 ?_
                    · exact cp
                    · intro i x hi
                      obtain ⟨t1, t2⟩ := r4 i x hi
                      refine ⟨t1, fun j p hp => ?_⟩
                      obtain ⟨u, u1, u2, u3⟩ := t2 j p hp
                      exact ⟨u, u1, u2.mono i1 (NLe.noNm _), u3⟩
                obtain ⟨M3, μ', β', h1, h2⟩ := call_plain hs (hL := hL) himp (zs := q.2) (io := [{ en with os := en.os.set n.j o' }]) hs3 ht
                exact done v w1 M3 μ' β' h1 h2
            · cases hev6
        · obtain ⟨q, hq, hev2⟩ := Option.bind_eq_some_iff.1 hev
          obtain ⟨_, hev3⟩ := cond_some hev2
          obtain ⟨r, hF, ht⟩ := Option.bind_eq_some_iff.1 hev3
          exact plain q r hq hF ht
    · cases hev
  · cases ok

end
end Go.Proofs.Ytbdknlejnacmgaa.Pi
