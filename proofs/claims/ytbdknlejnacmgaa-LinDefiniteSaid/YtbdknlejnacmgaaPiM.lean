/-
  Each operation, on: arithmetic of two, least and greatest, parts of lists and strings.
-/
import Derived.Test.YtbdknlejnacmgaaPiL
import Derived.Laws.Strings2
import Derived.Laws.Cover3
namespace Go.Proofs.Ytbdknlejnacmgaa.Pi
open Go
set_option linter.unusedVariables false
set_option linter.unusedSimpArgs false
section
variable {P : Program} {base : Nat} {bio : Option Nat} {w0 : World} {M0 : Mem} {bk0 : Option Blk} {nt : Nat} {L : List Nat} {s : St} {M : Mem} {μ : NMap} {β : Nat → Option Nm} {a : Act} {w : World}
variable {o : Oper} {d : Option Nat} {K : Act → World → Prop} {Q : Exit → Act → World → Prop} {F : CallF} {gd : Option (Nat × Bool)} {wl : Option Nat} {av : List Nat} {e : Eff}

theorem bcmp_run {op : BinOp} {x y : Int} {p : PV} (h : bcmp op x y = some p) : ∃ b, p = .bool b ∧ (Op.intCmp op x y).run P w = .ok (.bool b) w := by
  cases op <;> simp [bcmp] at h <;> subst h <;> exact ⟨_, rfl, by simp [Op.intCmp]⟩

theorem bint_run {t : TypeId} {op : BinOp} {k : IntKind} {x y : Int} {p : PV} (h : bint op k x y = some p) (h1 : op ≠ .shl) (h2 : op ≠ .shr) :
    ∃ v, (binOp op t (.int k x) (.int k y)).run P w = .ok v w ∧ Rep M μ p v := by
  have cmp : (binOp op t (.int k x) (.int k y)).run P w = (Op.intCmp op x y).run P w → bcmp op x y = some p → ∃ v, (binOp op t (.int k x) (.int k y)).run P w = .ok v w ∧ Rep M μ p v := by
    intro e1 e2
    obtain ⟨b, rfl, hr⟩ := bcmp_run (P := P) (w := w) e2
    exact ⟨_, e1.trans hr, .bool _⟩
  cases op
  case add => simp only [bint, Option.some.injEq] at h; subst h; exact ⟨_, by simp [binOp, Op.intArith], .int _ _⟩
  case sub => simp only [bint, Option.some.injEq] at h; subst h; exact ⟨_, by simp [binOp, Op.intArith], .int _ _⟩
  case mul => simp only [bint, Option.some.injEq] at h; subst h; exact ⟨_, by simp [binOp, Op.intArith], .int _ _⟩
  case quo =>
    simp only [bint] at h
    cases hy : (y == 0) with
    | true => simp [hy] at h
    | false =>
      simp only [hy, cond_false, Option.some.injEq] at h
      subst h
      have : y ≠ 0 := by simpa using hy
      exact ⟨_, by simp [binOp, Op.intDiv, this], .int _ _⟩
  case rem =>
    simp only [bint] at h
    cases hy : (y == 0) with
    | true => simp [hy] at h
    | false =>
      simp only [hy, cond_false, Option.some.injEq] at h
      subst h
      have : y ≠ 0 := by simpa using hy
      exact ⟨_, by simp [binOp, Op.intDiv, this], .int _ _⟩
  case and => simp only [bint, Option.some.injEq] at h; subst h; exact ⟨_, by simp [binOp, Op.intBits], .int _ _⟩
  case or => simp only [bint, Option.some.injEq] at h; subst h; exact ⟨_, by simp [binOp, Op.intBits], .int _ _⟩
  case xor => simp only [bint, Option.some.injEq] at h; subst h; exact ⟨_, by simp [binOp, Op.intBits], .int _ _⟩
  case shl => exact absurd rfl h1
  case shr => exact absurd rfl h2
  case andNot => simp [bint, bcmp] at h
  all_goals exact cmp (by simp [binOp]) (by simpa [bint] using h)

theorem str_inj {s t : ByteArray} (h : s.data.toList.map UInt8.toNat = t.data.toList.map UInt8.toNat) : s = t := by
  have : s.data.toList = t.data.toList := List.map_inj_right (fun x y h => UInt8.toNat_inj.1 h) |>.1 h
  cases s; cases t
  simp only [ByteArray.mk.injEq]
  exact Array.toList_inj.1 this

theorem pur_bin (hs : Sim base bio w0 M0 bk0 nt L s M μ β a w) {tag : Nat} {op : BinOp} {x y : PArg} (ok : okOp P o.op o.type (.bin tag op x y) = true) (hev : evOp F s ⟨d, .bin tag op x y, gd, wl, av⟩ = some e) : Pur P M μ o a w e := by
  simp only [okOp] at ok
  split at ok
  · rename_i op' t x' y' lc he
    simp only [Bool.and_eq_true, decide_eq_true_eq] at ok
    obtain ⟨⟨⟨⟨rfl, okx⟩, oky⟩, okt⟩, okn⟩ := ok
    have hrx := okArg_rep hs.regs okx
    have hry := okArg_rep hs.regs oky
    simp only [evOp] at hev
    obtain ⟨p, hp, rfl⟩ := Option.map_eq_some_iff.1 hev
    have key : (∃ v, (eqGuard op t x' y' (a.eval x') (a.eval y')).run P w = .ok () w ∧ (binOp op t (a.eval x') (a.eval y')).run P w = .ok v w ∧ Rep M μ p v) → Pur P M μ o a w { v := p } := by
      rintro ⟨v, h1, h2, h3⟩
      exact ⟨p, v, rfl, by simp [execOp, he, h1, h2], h3⟩
    apply key
    generalize hpx : s.ev x = px at hrx hp
    generalize hpy : s.ev y = py at hry hp
    have guard_int : ∀ k k' (m n : Int), (eqGuard op t x' y' (.int k m) (.int k' n)).run P w = .ok () w := by
      intro k k' m n
      cases op <;> simp [eqGuard]
    unfold bbin at hp
    split at hp
    · rename_i k m k' n
      generalize a.eval x' = vx at hrx ⊢
      generalize a.eval y' = vy at hry ⊢
      cases hrx
      cases hry
      split at hp
      · obtain ⟨hb, hp⟩ := cond_none hp
        cases hp
        have hb : ¬ n < 0 := by simpa using hb
        exact ⟨_, guard_int .., by simp [binOp, Op.shift, hb], .int _ _⟩
      · obtain ⟨hb, hp⟩ := cond_none hp
        cases hp
        have hb : ¬ n < 0 := by simpa using hb
        exact ⟨_, guard_int .., by simp [binOp, Op.shift, hb], .int _ _⟩
      · rename_i hn1 hn2
        obtain ⟨hk, hp2⟩ := cond_some hp
        clear hp
        simp only [decide_eq_true_eq] at hk
        subst hk
        obtain ⟨v, h1, h2⟩ := bint_run (P := P) (w := w) (t := t) (M := M) (μ := μ) hp2 (fun h => hn1 h) (fun h => hn2 h)
        exact ⟨v, guard_int .., h1, h2⟩
    · rename_i m n
      generalize a.eval x' = vx at hrx ⊢
      generalize a.eval y' = vy at hry ⊢
      cases hrx
      cases hry
      have hu : tag = 1 → P.underlying t = some .bool := by
        intro e1
        subst e1
        simp only [okTag] at okt
        split at okt
        · assumption
        · cases okt
      split at hp
      · obtain ⟨ht, hp⟩ := cond_some hp
        cases hp
        have := run_equal_bool (P := P) w t m n (hu (by simpa using ht))
        exact ⟨_, by simp [eqGuard], by simp [binOp, this], .bool _⟩
      · obtain ⟨ht, hp⟩ := cond_some hp
        cases hp
        have := run_equal_bool (P := P) w t m n (hu (by simpa using ht))
        exact ⟨_, by simp [eqGuard], by simp [binOp, this], .bool _⟩
      · cases hp
    · rename_i m n
      generalize a.eval x' = vx at hrx ⊢
      generalize a.eval y' = vy at hry ⊢
      cases hrx with
      | @str _ _ sx hx =>
        cases hry with
        | @str _ _ sy hy =>
          have heq : (sx.toList == sy.toList) = decide (m = n) := by
            rw [← hx, ← hy]
            by_cases h : sx = sy
            · subst h; simp
            · have h1 : ¬ (sx.data.toList.map UInt8.toNat = sy.data.toList.map UInt8.toNat) := fun h2 => h (str_inj h2)
              have h2 : sx.toList ≠ sy.toList := by
                intro h3
                rw [ByteArray.toList_eq, ByteArray.toList_eq] at h3
                exact h1 (by rw [h3])
              simp [h1, h2]
          split at hp
          · obtain ⟨hl, hp⟩ := cond_some hp
            cases hp
            simp only [decide_eq_true_eq] at hl
            refine ⟨.string (sx ++ sy), by simp [eqGuard], ?_, .str (by rw [← hx, ← hy]; simp)⟩
            have h1 : sx.size + sy.size ≤ 4611686018427387904 := by
              rw [← hx, ← hy] at hl
              simpa using hl
            have h2 : ¬ (IntKind.i64.max < ((sx.size + sy.size : Nat) : Int)) := by
              have : IntKind.i64.max = 9223372036854775807 := by decide
              omega
            simp only [binOp, Op.stringOp, gt_iff_lt, if_neg h2, Sem.run_pure]
          · cases hp
            exact ⟨_, by simp [eqGuard], by simp [binOp, Op.stringOp, heq], .bool _⟩
          · cases hp
            exact ⟨_, by simp [eqGuard], by simp [binOp, Op.stringOp, heq], .bool _⟩
          · cases hp
    · rename_i q r rs
      generalize hvx : a.eval x' = vx at hrx ⊢
      have hu : tag = 3 → ∃ et, P.underlying t = some (.slice et) ∧ a.eval y' = .slice none 0 0 := by
        intro e1
        subst e1
        simp only [okTag] at okt
        split at okt
        · exact ⟨_, by assumption, nilSlice_eval (by simpa using okn)⟩
        · cases okt
      cases hrx with
      | view sz cc hcap hsz hm h =>
        obtain ⟨ad, rfl, _⟩ := hm 0 _ 0 _ rfl rfl
        split at hp
        · obtain ⟨ht, hp⟩ := cond_some hp
          cases hp
          obtain ⟨et, h1, h2⟩ := hu (by simpa using ht)
          rw [h2]
          exact ⟨_, by simp [eqGuard], by simp [binOp, run_equal_slice_nil (P := P) w t et _ _ _ h1], .bool _⟩
        · obtain ⟨ht, hp⟩ := cond_some hp
          cases hp
          obtain ⟨et, h1, h2⟩ := hu (by simpa using ht)
          rw [h2]
          exact ⟨_, by simp [eqGuard], by simp [binOp, run_equal_slice_nil (P := P) w t et _ _ _ h1], .bool _⟩
        · cases hp
    · rename_i nm sz off len
      generalize hvx : a.eval x' = vx at hrx ⊢
      have hu : tag = 3 → ∃ et, P.underlying t = some (.slice et) ∧ a.eval y' = .slice none 0 0 := by
        intro e1
        subst e1
        simp only [okTag] at okt
        split at okt
        · exact ⟨_, by assumption, nilSlice_eval (by simpa using okn)⟩
        · cases okt
      obtain ⟨A, cap, bk, rfl, g1, g2, g3, g4, g5, g6, g7⟩ := own_inv hrx
      obtain ⟨ad, rfl⟩ : ∃ ad, A = some ad := by
        rcases g6 (.inr (by omega)) with ⟨h1, _⟩ | ⟨b, _, h⟩
        · have := g7 h1; omega
        · exact ⟨_, h⟩
      split at hp
      · obtain ⟨ht, hp⟩ := cond_some hp
        cases hp
        obtain ⟨et, h1, h2⟩ := hu (by simpa using ht)
        rw [h2]
        exact ⟨_, by simp [eqGuard], by simp [binOp, run_equal_slice_nil (P := P) w t et _ _ _ h1], .bool _⟩
      · obtain ⟨ht, hp⟩ := cond_some hp
        cases hp
        obtain ⟨et, h1, h2⟩ := hu (by simpa using ht)
        rw [h2]
        exact ⟨_, by simp [eqGuard], by simp [binOp, run_equal_slice_nil (P := P) w t et _ _ _ h1], .bool _⟩
      · cases hp
    · cases hp
  · cases ok

end
end Go.Proofs.Ytbdknlejnacmgaa.Pi
