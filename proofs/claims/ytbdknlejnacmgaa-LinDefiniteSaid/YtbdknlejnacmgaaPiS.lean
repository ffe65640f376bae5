/-
  Each operation, and its guard.
-/
import Derived.Test.YtbdknlejnacmgaaPiR
namespace Go.Proofs.Ytbdknlejnacmgaa.Pi
open Go
set_option linter.unusedVariables false
set_option linter.unusedSimpArgs false
section
variable {P : Program} {base : Nat} {bio : Option Nat} {w0 : World} {M0 : Mem} {bk0 : Option Blk} {nt : Nat} {L : List Nat} {s : St} {M : Mem} {μ : NMap} {β : Nat → Option Nm} {a : Act} {w : World}
variable {o : Oper} {d : Option Nat} {K : Act → World → Prop} {Q : Exit → Act → World → Prop} {F : CallF} {gd : Option (Nat × Bool)} {wl : Option Nat} {av : List Nat} {e : Eff}

theorem Goes.of_app {l : List Nat} (h : Goes K base bio w0 M0 bk0 nt (l ++ L) s a d) : Goes K base bio w0 M0 bk0 nt L s a d := fun M μ β v w hs => h M μ β v w (hs.more l)

theorem op_sound (hG : Good P F) (hs : Sim base bio w0 M0 bk0 nt L s M μ β a w) {p : POp} (hd : o.dst = d) (hdn : ∀ d', d = some d' → d' < nt) (ok : okOp P o.op o.type p = true)
    (fresh : ∀ l ∈ p.cl, l ∉ L) (nodup : nodupB p.cl = true) (hev : evOp F s ⟨d, p, gd, wl, av⟩ = some e) (hK : Goes K base bio w0 M0 bk0 nt (p.cl ++ L) (s.app d e) a d) : o.wp P a w K Q := by
  cases p with
  | mv x => simp only [evOp, Option.some.injEq] at hev; subst hev; exact snd_mv hs hd hdn ok hK
  | nils l sz =>
    simp only [evOp] at hev
    obtain ⟨h1, hev⟩ := cond_some hev
    simp only [Option.some.injEq] at hev; subst hev
    exact snd_nils hs hd hdn ok (by simpa using h1) (fresh l (by simp [POp.cl])) hK
  | pick c x y =>
    simp only [evOp] at hev
    split at hev
    · rename_i hc; simp only [Option.some.injEq] at hev; subst hev; exact snd_pick (b := true) hs hd hdn ok hc hK
    · rename_i hc; simp only [Option.some.injEq] at hev; subst hev; exact snd_pick (b := false) hs hd hdn ok hc hK
    · cases hev
  | alloc l cells nils =>
    simp only [evOp] at hev
    obtain ⟨h1, hev⟩ := cond_some hev
    simp only [Bool.and_eq_true, decide_eq_true_eq] at h1
    simp only [Option.some.injEq] at hev; subst hev
    exact snd_alloc hs hd hdn ok h1.1 h1.2 nodup fresh hK
  | box l x =>
    simp only [evOp] at hev
    obtain ⟨h1, hev⟩ := cond_some hev
    simp only [Bool.and_eq_true, decide_eq_true_eq] at h1
    simp only [Option.some.injEq] at hev; subst hev
    exact snd_box hs hd hdn ok h1.1 (fresh l (by simp [POp.cl])) h1.2 hK
  | load n agg x => exact snd_load hs hd hdn ok hev hK
  | store n x y =>
    simp only [okOp] at ok
    split at ok
    · rename_i t x' y' he
      simp only [Bool.and_eq_true, beq_iff_eq] at ok
      exact snd_store hs hd hdn he ok.2 (okArg_rep hs.regs ok.1.1) (okArg_rep hs.regs ok.1.2) hev hK
    · cases ok
  | storeRow x y =>
    simp only [okOp] at ok
    split at ok
    · rename_i t x' y' he
      simp only [Bool.and_eq_true, beq_iff_eq] at ok
      have hra := okArg_rep hs.regs ok.1.1
      have hrv := okArg_rep hs.regs ok.1.2
      simp only [evOp] at hev
      split at hev
      · rename_i nm i c m sz off len h1 h2
        rw [h1] at hra
        rw [h2] at hrv
        cases hc : (nm.l == m.l) with
        | true =>
          rw [hc] at hev
          exact snd_store hs hd hdn he ok.2 hra hrv hev hK
        | false =>
          rw [hc] at hev
          exact snd_storeRow hs hd hdn he ok.2 hra hrv hev hK
      · exact snd_store hs hd hdn he ok.2 hra hrv hev hK
    · cases ok
  | bin tag op x y => exact snd_of_pur hs hd hdn (pur_bin hs ok hev) hK
  | un op x => exact snd_of_pur hs hd hdn (pur_un hs ok hev) hK
  | conv k x => exact snd_of_pur hs hd hdn (pur_conv hs ok hev) hK
  | tostr x => exact snd_of_pur hs hd hdn (pur_tostr hs ok hev) hK
  | clos f cap => exact snd_of_pur hs hd hdn (pur_clos hs ok hev) hK
  | make l zero bytes n c => exact snd_make hs hd hdn ok (fresh l (by simp [POp.cl])) hev hK
  | slice str sz x lo hi mx => exact snd_of_pur hs hd hdn (pur_slice hs ok hev) hK
  | field c n x => exact snd_of_pur hs hd hdn (pur_field hs ok hev) hK
  | getf c n agg x => exact snd_of_pur hs hd hdn (pur_getf hs ok hev) hK
  | idx sz x i => exact snd_of_pur hs hd hdn (pur_idx hs ok hev) hK
  | sidx x i => exact snd_of_pur hs hd hdn (pur_sidx hs ok hev) hK
  | ext x i => exact snd_of_pur hs hd hdn (pur_ext hs ok hev) hK
  | build zero parts => exact snd_of_pur hs hd hdn (pur_build hs ok hev) hK
  | lits l sz len parts => exact snd_lits hs hd hdn ok (fresh l (by simp [POp.cl])) hev hK
  | len str x => exact snd_of_pur hs hd hdn (pur_len hs ok hev) hK
  | app l sz bytes x y => exact snd_app hs hd hdn ok (fresh l (by simp [POp.cl])) hev hK
  | copy sz x y => exact snd_copy hs hd hdn ok hev hK
  | mm mx xs => exact snd_of_pur hs hd hdn (pur_mm hs ok hev) hK
  | call f al io imp =>
    have hcl : imp.toList = (POp.call f al io imp).cl := by cases imp <;> rfl
    refine snd_call hG hs hd hdn ok (fun l hl => fresh l (by rw [← hcl, hl]; simp)) hev ?_
    rw [hcl]
    exact hK
  | bad => simp [evOp] at hev

theorem gd_sound (hG : Good P F) (hs : Sim base bio w0 M0 bk0 nt L s M μ β a w) {ops : Array Oper} {i : Nat} {p : POper} (ho : ops[i]? = some o) (ok : okOper P nt ops o p = true)
    (fresh : ∀ l ∈ p.op.cl, l ∉ L) (nodup : nodupB p.op.cl = true) (hev : evGd F s p = some e) (hK : Goes K base bio w0 M0 bk0 nt (p.op.cl ++ L) (s.app p.d e) a p.d) : wpOp P ops Q i K a w := by
  simp only [okOper, Bool.and_eq_true, beq_iff_eq] at ok
  obtain ⟨⟨⟨hd, hdn⟩, hgd⟩, hop⟩ := ok
  have hdn : ∀ d', p.d = some d' → d' < nt := by
    intro d' h
    rw [h] at hdn
    simpa using hdn
  unfold wpOp
  simp only [ho]
  have run : evOp F s p = some e → o.wp P a w K Q := by
    intro h
    obtain ⟨pd, pop, pgd, pwl, pav⟩ := p
    exact op_sound hG hs hd hdn hop fresh nodup h hK
  unfold evGd at hev
  cases hpg : p.gd with
  | none =>
    rw [hpg] at hgd hev
    cases hog : o.guard with
    | some x => rw [hog] at hgd; simp at hgd
    | none =>
      have hw : Region.wanted o (yielded ops a.tmps) = true := by simp [Region.wanted, hog]
      rw [if_pos hw]
      exact .inl (run hev)
  | some x =>
    obtain ⟨t, want⟩ := x
    rw [hpg] at hgd hev
    cases hog : o.guard with
    | none => rw [hog] at hgd; simp at hgd
    | some y =>
      obtain ⟨j, want2⟩ := y
      rw [hog] at hgd
      simp only [Bool.and_eq_true, beq_iff_eq] at hgd
      obtain ⟨hj, rfl⟩ := hgd
      simp only at hev
      split at hev
      · rename_i b hb
        have hr := hs.regs t
        rw [hb] at hr
        have hy : yielded ops a.tmps j = some b := by
          generalize hv : a.tmps.getD t undef = v at hr
          cases hr
          have : a.tmps[t]? = some (.bool b) := by
            rw [Array.getD_eq_getD_getElem?] at hv
            cases hq : a.tmps[t]? with
            | none => rw [hq] at hv; simp [undef] at hv
            | some u => rw [hq] at hv; simp at hv; rw [hv]
          unfold yielded
          rw [hj]
          simp [this]
        have hw : Region.wanted o (yielded ops a.tmps) = (b == want2) := by
          simp only [Region.wanted, hog, hy]
          cases b <;> cases want2 <;> rfl
        cases hbw : (b == want2) with
        | true =>
          rw [hbw] at hev hw
          rw [if_pos hw]
          exact .inl (run hev)
        | false =>
          rw [hbw] at hev hw
          simp only [cond_false, Option.some.injEq] at hev
          subst hev
          rw [if_neg (by rw [hw]; simp), hd]
          exact hK.of_app _ _ _ _ _ (hs.fill p.d hdn .any)
      · cases hev

end
end Go.Proofs.Ytbdknlejnacmgaa.Pi
