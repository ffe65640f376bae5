/-
  Each operation, on: append, copy, make, literals, arithmetic and the rest.
-/
import Derived.Test.YtbdknlejnacmgaaPiJ
namespace Go.Proofs.Ytbdknlejnacmgaa.Pi
open Go
set_option linter.unusedVariables false
set_option linter.unusedSimpArgs false
section
variable {P : Program} {base : Nat} {bio : Option Nat} {w0 : World} {M0 : Mem} {bk0 : Option Blk} {nt : Nat} {L : List Nat} {s : St} {M : Mem} {μ : NMap} {β : Nat → Option Nm} {a : Act} {w : World}
variable {o : Oper} {d : Option Nat} {K : Act → World → Prop} {Q : Exit → Act → World → Prop}

theorem okArgs1 {xs : List Operand} {p : PArg} (h : okArgs xs [p] = true) : ∃ x, xs = [x] ∧ okArg x p = true := by
  cases xs with
  | nil => simp [okArgs] at h
  | cons x r => cases r with
    | nil => simp [okArgs] at h; exact ⟨x, rfl, h⟩
    | cons => simp [okArgs] at h
theorem okArgs2 {xs : List Operand} {p q : PArg} (h : okArgs xs [p, q] = true) : ∃ x y, xs = [x, y] ∧ okArg x p = true ∧ okArg y q = true := by
  cases xs with
  | nil => simp [okArgs] at h
  | cons x r => cases r with
    | nil => simp [okArgs] at h
    | cons y r => cases r with
      | nil => simp [okArgs] at h; exact ⟨x, y, rfl, h⟩
      | cons => simp [okArgs] at h

theorem builtin_run {b : Builtin} {args : Array Operand} {ats : Array TypeId} (he : o.op = .call { callee := .builtin b, args := args, argTypes := ats }) :
    ∃ cs, (execOp a.eval o).run P w = (builtin b ats o.type cs (args.map a.eval)).run P w := by
  apply Exists.intro
  unfold execOp
  simp only [he, resolve, invoke, Sem.run_bind, Sem.run_pure, Result.andThen_ok]
  rfl

theorem arr2 {α : Type} {xs : Array α} {x y : α} (h : xs.toList = [x, y]) : xs = #[x, y] := by cases xs; simp_all
theorem arr1 {α : Type} {xs : Array α} {x : α} (h : xs.toList = [x]) : xs = #[x] := by cases xs; simp_all

theorem allflat {ys : List (List PV)} (h : (ys.all (·.all flat)) = true) : ∀ x ∈ ys, ∀ p ∈ x, flat p = true := fun x hx p hp => List.all_eq_true.1 (List.all_eq_true.1 h x hx) p hp
theorem allpu {ys : List (List PV)} (h : (ys.all (·.all pu0)) = true) : ∀ x ∈ ys, ∀ p ∈ x, pu0 p = true := fun x hx p hp => List.all_eq_true.1 (List.all_eq_true.1 h x hx) p hp

theorem snd_app (hs : Sim base bio w0 M0 bk0 nt L s M μ β a w) (hd : o.dst = d) (hdn : ∀ d', d = some d' → d' < nt) {wl : Option Nat} {av : List Nat} {l sz bytes : Nat} {x y : PArg} {e : Eff}
    (ok : okOp P o.op o.type (.app l sz bytes x y) = true) (hl : l ∉ L) (hev : evApp s av wl l sz bytes (s.ev x) (s.ev y) = some e)
    (hK : Goes K base bio w0 M0 bk0 nt (l :: L) (s.app d e) a d) : o.wp P a w K Q := by
  simp only [okOp] at ok
  split at ok
  · rename_i args ats he
    simp only [Bool.and_eq_true] at ok
    obtain ⟨ok1, ok2⟩ := ok
    obtain ⟨ox, oy, hargs, okx, oky⟩ := okArgs2 ok1
    have hargs := arr2 hargs
    subst hargs
    split at ok2
    · rename_i t t' hat
      simp only [Bool.and_eq_true, beq_iff_eq] at ok2
      obtain ⟨rfl, ok2⟩ := ok2
      have hat := arr2 hat
      subst hat
      split at ok2
      · rename_i et het
        simp only [Bool.and_eq_true, beq_iff_eq, decide_eq_true_eq] at ok2
        obtain ⟨⟨⟨⟨hsize, hby⟩, hb1⟩, hsp⟩, hzs⟩ := ok2
        have ht := elemT_und het
        have hrx := okArg_rep hs.regs okx
        have hry := okArg_rep hs.regs oky
        have hrun0 : ∀ v w', (Builtin.append_ #[t, t] o.type #[a.eval ox, a.eval oy]).run P w = .ok v w' → (execOp a.eval o).run P w = .ok (.value v) w' := by
          intro v w' h
          obtain ⟨cs, hcs⟩ := builtin_run (P := P) (a := a) (w := w) he
          rw [hcs]
          simp [builtin, h]
        unfold evApp at hev
        obtain ⟨ys, hys, hev⟩ := Option.bind_eq_some_iff.1 hev
        obtain ⟨hc, hev⟩ := cond_some hev
        simp only [Bool.and_eq_true, decide_eq_true_eq] at hc
        obtain ⟨⟨hl1, hfit⟩, hflat⟩ := hc
        obtain ⟨B, c, hvy, hcell⟩ := elems_sound hs hys hry hfit
        split at hev
        · -- appended to a list that is nil
          rename_i hx
          rw [hx] at hrx
          generalize hvx : a.eval ox = vx at hrx hrun0
          cases hrx
          rename_i A
          unfold sizeT at hsize
          obtain ⟨ti, hti, hisz⟩ := Option.map_eq_some_iff.1 hsize
          have hiby : ti.bytes = bytes := by unfold bytesT at hby; rw [hti] at hby; simpa using hby
          obtain ⟨z, hzz, hzc⟩ : ∃ z, ti.zero = some z ∧ z.cells.size = sz := by
            unfold zeroT at hzs
            rw [hti] at hzs
            cases hq : ti.zero with
            | none => simp [hq] at hzs
            | some z => simp [hq] at hzs; exact ⟨z, rfl, hzs⟩
          obtain ⟨news, hn1, hn2, hn3, hn4, hn5⟩ := flat_cells hfit hcell
          rw [hvy] at hrun0
          cases hye : ys.isEmpty with
          | true =>
            have hy0 : ys = [] := by simpa using hye
            subst hy0
            simp only [List.isEmpty_nil, cond_true, Option.some.injEq] at hev
            subst hev
            have h0 : (Builtin.append_ #[t, t] o.type #[.slice A 0 0, .slice B 0 c]).run P w = .ok (.slice A 0 0) w := by
              cases A <;> cases B <;> simp [Builtin.append_, run_underlying ht, sizeOf, typeInfo, hti, Builtin.lenOf, Builtin.firstCells, loadCells, loadCellsFrom, storeCells]
            have := (hs.more [l]).fill d hdn (p := .view []) (v := .slice A 0 0) (.view 0 (fun _ _ => undef) (Nat.le_refl _) (by simp) (by simp) (by simp))
            exact wp_val (hrun0 _ _ h0) hd (hK _ _ _ _ _ this)
          | false =>
            simp only [hye, cond_false] at hev
            obtain ⟨hc2, hev⟩ := cond_some hev
            simp only [Bool.and_eq_true, decide_eq_true_eq] at hc2
            obtain ⟨hbytes, hpu⟩ := hc2
            cases hev
            have hyp : 0 < ys.length := by
              cases ys with
              | nil => simp at hye
              | cons => simp
            have hM : ys.length ≤ maxLen := by
              have : ys.length * 1 ≤ ys.length * bytes := Nat.mul_le_mul_left _ hb1
              simp only [maxLen]
              omega
            obtain ⟨A', cap', w', hr, q1, q2, q3, q4, q5, q6, qnf, hres⟩ := append_run (P := P) (w := w) (t := t) (ty := o.type) (te := 0) (A := A) (B := B) (n := 0) (cap := 0) (m := ys.length) (c := c) (olds := []) ht hti hzz hisz hiby hzc (by simp) hn1 hn2 hn3 hn4 (.inl ⟨rfl, rfl⟩) hsp (by omega) (by simpa using hbytes) (Nat.zero_le _)
            simp only [Nat.zero_add] at hr hres q6
            rcases hres with ⟨_, _, _, _, h0, _⟩ | ⟨b, cur, te', rfl, hh, hcs, htk, hwhere, hbl⟩
            · omega
            · rcases hwhere with ⟨_, h1, _⟩ | ⟨rfl, hsame⟩
              · omega
              · have hs2 := hs.addBlkW l sz cap' cur te' { xs := ys, pure := true } hl1 hl (fun _ => allpu hpu) q5 hcs q6 hh hsame hbl q1 q2 q3 qnf (fun i x hi => by
                  have hxl : x.length = sz := by
                    have := List.all_eq_true.1 hfit x (List.mem_of_getElem? hi)
                    simpa using this
                  refine ⟨hxl, fun j q hj => ?_⟩
                  obtain ⟨u, hu, hru, hfu⟩ := hn5 i x j q hi hj
                  refine ⟨u, ?_, hru, hfu⟩
                  have : ([] ++ news)[i * sz + j]? = some u := by simpa using hu
                  rw [← htk, List.getElem?_take] at this
                  split at this
                  · simpa using this
                  · cases this)
                have hs3 := hs2.fill d hdn (p := .own ⟨l, s.g, 0⟩ sz 0 ys.length) (v := .slice (some ⟨w.heap.size, 0, none⟩) ys.length cap')
                  (.own (upd_same ..) rfl q6 (by simp) q5 (fun _ => .inr ⟨_, rfl, by simp⟩) (fun h => by cases h))
                exact wp_val (hrun0 _ _ hr) hd (hK _ _ _ _ _ hs3)
        · -- appended to an object
          rename_i n zs len hx
          rw [hx] at hrx
          obtain ⟨hc2, hev2⟩ := cond_some hev
          clear hev
          simp only [Bool.and_eq_true, Bool.not_eq_true', beq_iff_eq, decide_eq_true_eq, beq_eq_false_iff_ne, ne_eq] at hc2
          obtain ⟨⟨⟨⟨⟨⟨hzz1, _⟩, _⟩, hfz⟩, hj⟩, hn0⟩, hbytes⟩ := hc2
          have hzz2 := hzz1.symm
          subst hzz2
          obtain ⟨nl, ng, nj⟩ := n
          simp only at hj hn0 hfz
          subst hj
          obtain ⟨en, hen, hev3⟩ := Option.bind_eq_some_iff.1 hev2
          clear hev2
          simp only at hen
          split at hev3
          · rename_i ob os hos
            obtain ⟨hc3, hev⟩ := cond_some hev3
            clear hev3
            simp only [Bool.and_eq_true, beq_iff_eq, Bool.or_eq_true] at hc3
            obtain ⟨hlen, hself⟩ := hc3
            have hno : hobj s.h ⟨nl, ng, 0⟩ = some ob := by unfold hobj; simp [hen, hos]
            obtain ⟨k0, hk0, hcont0, _⟩ := hs.objs _ _ hno
            have hself' : ∀ x ∈ ob.xs, ∀ p ∈ x, noSelf nl ng p = true := by
              intro x hx p hp
              rcases hself with h | h
              · exact noSelf_pu0 (hcont0.1 h x hx p hp)
              · exact List.all_eq_true.1 (List.all_eq_true.1 h x hx) p hp
            cases hpu : ys.all (·.all pu0) with
            | true =>
              simp only [hpu, cond_true, Option.some.injEq] at hev
              subst hev
              obtain ⟨v, w', μ', β', hr, hs2, hrep⟩ := app_core (P := P) (ty := o.type) (p := ob.pure) hs ht hsize hby hzs hsp hl1 hl hn0 hen hos hfz hrx hlen hself' (fun x hx p hp => noSelf_pu0 (allpu hpu x hx p hp)) hvy hfit hcell hbytes hb1
                (fun hp x hx q hq => by
                  have hall : ∀ x ∈ ob.xs ++ ys, ∀ p ∈ x, pu0 p = true := fun x hx => (List.mem_append.1 hx).elim (hcont0.1 hp x) (allpu hpu x)
                  rw [map_ren_pure hall] at hx
                  exact hall x hx q hq)
              have heq : renO nl ng l s.g { xs := ob.xs ++ ys, pure := ob.pure } = { xs := (ob.xs ++ ys).map (fun x => x.map (ren nl ng l s.g)), pure := ob.pure } := by
                unfold renO
                cases hp : ob.pure with
                | true =>
                  simp only [cond_true]
                  rw [map_ren_pure (fun x hx => (List.mem_append.1 hx).elim (hcont0.1 hp x) (allpu hpu x))]
                | false => simp only [cond_false]
              simp only [heq] at hK
              exact wp_val (hrun0 _ _ hr) hd (hK _ _ _ _ _ (hs2.fill d hdn hrep))
            | false =>
              simp only [hpu, cond_false] at hev
              split at hev
              · rename_i m zm k _
                obtain ⟨hc4, hev⟩ := cond_some hev
                simp only [Bool.and_eq_true, Bool.not_eq_true', beq_iff_eq, beq_eq_false_iff_ne, ne_eq] at hc4
                obtain ⟨⟨⟨⟨⟨⟨_, hmj⟩, hmz⟩, hm0⟩, hmn⟩, hml⟩, hsz1⟩ := hc4
                have hme : m = ⟨m.l, m.g, 0⟩ := by rw [← hmj]
                have hmz : isFz s.h s.z ⟨m.l, m.g, 0⟩ = false := hmz
                obtain ⟨rn, hrn, hev⟩ := Option.bind_eq_some_iff.1 hev
                split at hev
                · rename_i ro hro
                  obtain ⟨hc5, hev⟩ := cond_some hev
                  simp only [Bool.and_eq_true, beq_iff_eq] at hc5
                  obtain ⟨hrop, hrol⟩ := hc5
                  have hev := (Option.some.inj hev).symm
                  subst hev
                  have hmo : hobj s.h ⟨m.l, m.g, 0⟩ = some ro := by unfold hobj; simp [hrn, hro]
                  obtain ⟨km, hkm, _⟩ := hs.objs _ _ hmo
                  have hez : en.fz = false := by unfold isFz at hfz; simp [hen] at hfz; exact hfz.1
                  have hne : en.os ≠ [] := by rw [hos]; simp
                  have hs1 := hs.adopt hen hne hez hrn hro hmz (fun e => hmn e.symm) hn0 hm0 hkm ⟨k0, hk0⟩
                  have hlen2 : en.os.length = os.length + 1 := by rw [hos]; simp
                  have hf := hs.kids nl ng en hen hne _ (Nat.le_refl _)
                  have hle : NLe μ (upd μ ⟨nl, ng, en.os.length⟩ km) := NLe.upd _ hf
                  obtain ⟨el, eg⟩ := efind_lg hen
                  have he1 : efind ({ en with os := en.os ++ [ro] } :: { rn with os := [] } :: s.h) nl ng = some { en with os := en.os ++ [ro] } := by
                    rw [efind_cons, if_pos ⟨el, eg⟩]
                  have hz1 : isFz ({ en with os := en.os ++ [ro] } :: { rn with os := [] } :: s.h) s.z ⟨nl, ng, 0⟩ = false := by
                    rw [isFz_cons, if_pos ⟨el, eg⟩]
                    unfold isFz at hfz
                    simp [hen] at hfz
                    simp [hfz]
                  have hcell1 : ∀ (i : Nat) (x : List PV) (j : Nat) (q : PV), [[PV.own ⟨nl, ng, os.length + 1⟩ zm 0 k]][i]? = some x → x[j]? = some q →
                      ∃ ad u, B = some ad ∧ w.cell? (ad.add (i * sz + j)) = some u ∧ Rep M (upd μ ⟨nl, ng, en.os.length⟩ km) q u ∧ u.oneCell' = true := by
                    intro i x j q hi hj
                    cases i with
                    | succ i => simp at hi
                    | zero =>
                      simp at hi
                      subst hi
                      cases j with
                      | succ j => simp at hj
                      | zero =>
                        simp at hj
                        subst hj
                        obtain ⟨ad, u, h1, h2, h3, h4⟩ := hcell 0 _ 0 _ rfl rfl
                        refine ⟨ad, u, h1, h2, ?_, h4⟩
                        obtain ⟨A2, cap2, bk2, rfl, g1, g2, g3, g4, g5, g6, g7⟩ := own_inv h3
                        rw [hme, hkm] at g1
                        cases g1
                        rw [← hlen2]
                        exact .own (upd_same ..) g2 g3 g4 g5 g6 g7
                  obtain ⟨v, w', μ', β', hr, hs2, hrep⟩ := app_core (P := P) (ty := o.type) (p := false) (ys := [[.own ⟨nl, ng, os.length + 1⟩ zm 0 k]]) (os := os ++ [ro]) (B := B) (c := c) (vy := a.eval oy) hs1 ht hsize hby hzs hsp hl1 hl hn0 he1 (by simp [hos]) hz1
                    (hrx.mono (MLe.refl _) hle) hlen hself' (fun x hx p hp => by
                      simp only [List.mem_singleton] at hx
                      subst hx
                      simp only [List.mem_singleton] at hp
                      subst hp
                      simp [noSelf]) (by simpa using hvy) (by simp [fits, hsz1]) hcell1 (by simpa using hbytes) hb1 (fun h => by cases h)
                  have hs3 := hs2.congr (s' := { s with h := [{ l := l, g := s.g, fz := false, os := { xs := ob.xs.map (fun x => x.map (ren nl ng l s.g)) ++ [[.own ⟨l, s.g, os.length + 1⟩ zm 0 k]], pure := false } :: (os ++ [ro]) }, { en with os := [] }, { rn with os := [] }] ++ s.h }) (by
                    refine ⟨fun _ => rfl, fun l' g' => ?_, fun _ _ => rfl, rfl⟩
                    simp only [List.cons_append, List.nil_append, List.map_append, List.map_cons, List.map_nil, ren, beq_self_eq_true, Bool.and_self, cond_true]
                    rw [efind_cons, efind_cons, efind_cons, efind_cons, efind_cons, efind_cons, efind_cons]
                    by_cases e1 : l = l' ∧ s.g = g'
                    · simp [e1]
                    · simp only [e1, if_false]
                      by_cases e2 : en.l = l' ∧ en.g = g'
                      · simp [e2]
                      · simp [e2])
                  exact wp_val (hrun0 _ _ hr) hd (hK _ _ _ _ _ (hs3.fill d hdn hrep))
                · cases hev
              · cases hev
          · cases hev3
        · cases hev
      · cases ok2
    · cases ok2
  · cases ok

end
end Go.Proofs.Ytbdknlejnacmgaa.Pi
