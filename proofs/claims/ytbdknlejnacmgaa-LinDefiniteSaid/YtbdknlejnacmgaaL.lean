import Derived.Test.YtbdknlejnacmgaaFns
import Derived.Test.YtbdknlejnacmgaaW
import Derived.Test.YtbdknlejnacmgaaNum

section
/-
  Package long on our machine: numbers as the machine holds them; made, Of, Sign, Neg.
-/
namespace Go.Proofs.Ytbdknlejnacmgaa.Pi.W
open Go Num
set_option linter.unusedVariables false
set_option linter.unusedSimpArgs false

/-- A number's parts. -/
def ql (n : Nat) : List Int := dig 4294967296 n
/-- A number's two cells; a number. -/
def zc (x : Int) : List PV := [.bool (decide (x < 0)), sl u32c true (ql x.natAbs)]
def Z (x : Int) : PV := .agg (zc x)
def sg (b : Bool) (n : Int) : Int := if b then -n else n

theorem cellsOf_Z (x : Int) : cellsOf (Z x) = zc x := nrfl rfl
theorem zc_len (x : Int) : (zc x).length = 2 := nrfl rfl
theorem zc_flat (x : Int) : (zc x).all flat = true := by simp only [zc, List.all_cons, List.all_nil, flat_sl, flat_bool, Bool.and_self]
theorem zc_pu0 (x : Int) : (zc x).all pu0 = true := by simp only [zc, List.all_cons, List.all_nil, pu0_sl, pu0_bool, Bool.and_self]
theorem zc_set2 (a b : PV) (x : Int) : setAt [a, b] 0 (zc x) = zc x := nrfl rfl
theorem zc_set (y x : Int) : setAt (zc y) 0 (zc x) = zc x := nrfl rfl
theorem zc_agg (x : Int) : PV.agg (zc x) = Z x := nrfl rfl
theorem zc_take (x : Int) : List.take 2 (zc x) = zc x := nrfl rfl
theorem fzv_Z (h : List Ent) (x : Int) : fzv h (Z x) = some (Z x, []) := by
  simp only [Z, zc, fzv_agg, fzl, fz2_bool, fz2_sl, Option.bind_some, thn_some]; rfl
theorem zc_pk0 (x : Int) : pk 1 false (List.take 1 (zc x)) = some (.bool (decide (x < 0))) := nrfl rfl
theorem zc_pk1 (x : Int) : pk 1 false (List.take 1 (List.drop 1 (zc x))) = some (sl u32c true (ql x.natAbs)) := nrfl rfl
theorem zc_pk1' (x : Int) : pk 1 false (List.drop 1 (zc x)) = some (sl u32c true (ql x.natAbs)) := nrfl rfl
attribute [go_sem] zc_pk0 zc_pk1 zc_pk1'
attribute [go_sem] cellsOf_Z zc_len zc_flat zc_pu0 zc_set2 zc_set zc_agg zc_take fzv_Z

theorem trim_ql {l : List Int} (h : In 4294967296 l) : trim l = ql (val 4294967296 l).toNat := trim_dig (B := 4294967296) (by omega) h
theorem val_ql (n : Nat) : val 4294967296 (ql n) = n := val_dig (B := 4294967296) (by omega) n
theorem In_ql (n : Nat) : In 4294967296 (ql n) := In_dig (B := 4294967296) (by omega) n
theorem ql_nil {n : Nat} : ql n = [] ↔ n = 0 := dig_nil (by omega)

theorem Z_0 : PV.agg [.bool false, .nil0] = Z 0 := by
  unfold Z zc; rw [show ql (Int.natAbs 0) = [] from ql_nil.2 rfl]; rfl
attribute [go_sem] Z_0

/-- What made makes. -/
theorem Z_made (b : Bool) {l : List Int} (h : In 4294967296 l) : PV.agg [.bool (b && decide (0 < (trim l).length)), sl u32c true (trim l)] = Z (sg b (val 4294967296 l)) := by
  have h2 := val_nonneg (B := 4294967296) (by decide) h
  obtain ⟨v, hv⟩ := Int.eq_ofNat_of_zero_le h2
  have e1 : (sg b (val 4294967296 l)).natAbs = v := by
    unfold sg; rw [hv]; split <;> omega
  have e2 : trim l = ql v := by rw [trim_ql h, hv]; rfl
  have e3 : (b && decide (0 < (trim l).length)) = decide (sg b (val 4294967296 l) < 0) := by
    rw [e2, hv]
    have : (0 < (ql v).length) ↔ 0 < v := by
      rw [List.length_pos_iff, ne_eq, ql_nil]; omega
    cases b
    · simp [sg]
    · simp [sg, this]
  rw [e3]
  unfold Z zc
  rw [e1, e2]

theorem made_lim (b e : Bool) (l : List Int) (hl : l.length ≤ 1099511627776) (h : In 4294967296 l) : lim tab F_long_made [.bool b, sl u32c e l] none = some ⟨[Z (sg b (val 4294967296 l))], [], none⟩ := by
  rw [← Z_made b h]
  refine runs_w rfl rfl ?_
  (repeat (first | refine w_seq ?_ | refine w_block ?_ | refine w_regS (by simp (disch := omega) only [go_sem]; with_reducible rfl) ?_ | refine w_reg (by simp (disch := omega) only [go_sem]; with_reducible rfl) ?_ | refine w_skipS ?_ | refine w_skipB ?_ | refine w_exitS ?_ | refine w_exitB ?_ | refine w_exitN rfl ?_ | refine w_exitL ?_ | refine w_retS ?_ | refine w_retB ?_ | refine w_retL ?_ | refine w_condT (by simp (disch := omega) only [go_sem]; with_reducible rfl) (by with_reducible rfl) ?_ | refine w_condF (by simp (disch := omega) only [go_sem]; with_reducible rfl) (by with_reducible rfl) ?_ | fail))
  refine w_loop (fun m s => m ≤ l.length ∧ (∀ j (h : j < l.length), m ≤ j → l[j] = 0) ∧ ∃ g,
    s = ⟨[(0, .bool b), (1, sl u32c e l), (4, .optr ⟨5, 1, 0⟩ 0 0), (5, .int .i64 (m : Nat))], [⟨5, 1, false, [⟨[[.bool false, .nil0]], true⟩]⟩], [], g⟩) l.length ?_ ?_
  · exact ⟨Nat.le_refl _, fun j h1 h2 => by omega, _, rfl⟩
  · rintro m s ⟨h1, h2, g, rfl⟩
    by_cases hm : m = 0
    · have ht : trim l = l.take 0 := trim_take (Nat.zero_le _) (fun j hj _ => h2 j hj (by omega)) (.inl rfl)
      subst hm
      rw [ht]
      cases b
      · (repeat (first | refine w_seq ?_ | refine w_block ?_ | refine w_regS (by simp (disch := omega) only [go_sem, Int.natCast_zero]; with_reducible rfl) ?_ | refine w_reg (by simp (disch := omega) only [go_sem, Int.natCast_zero]; with_reducible rfl) ?_ | refine w_skipS ?_ | refine w_skipB ?_ | refine w_exitS ?_ | refine w_exitB ?_ | refine w_exitN rfl ?_ | refine w_exitL ?_ | refine w_retS ?_ | refine w_retB ?_ | refine w_retL ?_ | refine w_condT (by simp (disch := omega) only [go_sem, Int.natCast_zero]; with_reducible rfl) (by with_reducible rfl) ?_ | refine w_condF (by simp (disch := omega) only [go_sem, Int.natCast_zero]; with_reducible rfl) (by with_reducible rfl) ?_ | fail))
        (first | refine w_fini ?_ | refine w_finiN ?_); simp (disch := omega) only [go_sem]
      · (repeat (first | refine w_seq ?_ | refine w_block ?_ | refine w_regS (by simp (disch := omega) only [go_sem, Int.natCast_zero]; with_reducible rfl) ?_ | refine w_reg (by simp (disch := omega) only [go_sem, Int.natCast_zero]; with_reducible rfl) ?_ | refine w_skipS ?_ | refine w_skipB ?_ | refine w_exitS ?_ | refine w_exitB ?_ | refine w_exitN rfl ?_ | refine w_exitL ?_ | refine w_retS ?_ | refine w_retB ?_ | refine w_retL ?_ | refine w_condT (by simp (disch := omega) only [go_sem, Int.natCast_zero]; with_reducible rfl) (by with_reducible rfl) ?_ | refine w_condF (by simp (disch := omega) only [go_sem, Int.natCast_zero]; with_reducible rfl) (by with_reducible rfl) ?_ | fail))
        (first | refine w_fini ?_ | refine w_finiN ?_); simp (disch := omega) only [go_sem]
    · obtain ⟨n, rfl⟩ := Nat.exists_eq_succ_of_ne_zero hm
      have e1 : IntKind.i64.wrap ((n.succ : Nat) - 1 : Int) = (n : Nat) := by rw [wrap_i64] <;> omega
      have e2 : l[n]? = some l[n] := List.getElem?_eq_getElem (by omega)
      by_cases hz : l[n] = 0
      · (repeat (first | refine w_seq ?_ | refine w_block ?_ | refine w_regS (by simp (disch := omega) only [go_sem, e1, e2]; with_reducible rfl) ?_ | refine w_reg (by simp (disch := omega) only [go_sem, e1, e2]; with_reducible rfl) ?_ | refine w_skipS ?_ | refine w_skipB ?_ | refine w_exitS ?_ | refine w_exitB ?_ | refine w_exitN rfl ?_ | refine w_exitL ?_ | refine w_retS ?_ | refine w_retB ?_ | refine w_retL ?_ | refine w_condT (by simp (disch := omega) only [go_sem, e1, e2]; with_reducible rfl) (by with_reducible rfl) ?_ | refine w_condF (by simp (disch := omega) only [go_sem, e1, e2]; with_reducible rfl) (by with_reducible rfl) ?_ | fail))
        refine w_skipL ⟨n, by omega, by omega, fun j h3 h4 => ?_, _, rfl⟩
        by_cases hj : j = n
        · subst hj; exact hz
        · exact h2 j h3 (by omega)
      · have ht : trim l = l.take (n + 1) := trim_take h1 h2 (.inr ⟨l[n], e2, hz⟩)
        have e3 : decide (0 < (l.take (n + 1)).length) = true := by
          rw [List.length_take]; exact decide_eq_true (by omega)
        rw [ht, e3]
        cases b
        · (repeat (first | refine w_seq ?_ | refine w_block ?_ | refine w_regS (by simp (disch := omega) only [go_sem, e1, e2]; with_reducible rfl) ?_ | refine w_reg (by simp (disch := omega) only [go_sem, e1, e2]; with_reducible rfl) ?_ | refine w_skipS ?_ | refine w_skipB ?_ | refine w_exitS ?_ | refine w_exitB ?_ | refine w_exitN rfl ?_ | refine w_exitL ?_ | refine w_retS ?_ | refine w_retB ?_ | refine w_retL ?_ | refine w_condT (by simp (disch := omega) only [go_sem, e1, e2]; with_reducible rfl) (by with_reducible rfl) ?_ | refine w_condF (by simp (disch := omega) only [go_sem, e1, e2]; with_reducible rfl) (by with_reducible rfl) ?_ | fail))
          (first | refine w_fini ?_ | refine w_finiN ?_); simp (disch := omega) only [go_sem]
        · (repeat (first | refine w_seq ?_ | refine w_block ?_ | refine w_regS (by simp (disch := omega) only [go_sem, e1, e2]; with_reducible rfl) ?_ | refine w_reg (by simp (disch := omega) only [go_sem, e1, e2]; with_reducible rfl) ?_ | refine w_skipS ?_ | refine w_skipB ?_ | refine w_exitS ?_ | refine w_exitB ?_ | refine w_exitN rfl ?_ | refine w_exitL ?_ | refine w_retS ?_ | refine w_retB ?_ | refine w_retL ?_ | refine w_condT (by simp (disch := omega) only [go_sem, e1, e2]; with_reducible rfl) (by with_reducible rfl) ?_ | refine w_condF (by simp (disch := omega) only [go_sem, e1, e2]; with_reducible rfl) (by with_reducible rfl) ?_ | fail))
          (first | refine w_fini ?_ | refine w_finiN ?_); simp (disch := omega) only [go_sem]

attribute [go_sem] made_lim

theorem of_lim (n : Int) (h1 : -9223372036854775808 ≤ n) (h2 : n ≤ 9223372036854775807) : lim tab F_long_Of [.int .i64 n] none = some ⟨[Z n], [], none⟩ := by
  refine runs_w rfl rfl ?_
  by_cases hn : n < 0
  · have hI : In 4294967296 [-(n % 18446744073709551616) % 18446744073709551616 % 4294967296, -(n % 18446744073709551616) % 18446744073709551616 / 4294967296] := .cons (by omega) (.cons (by omega) .nil)
    have e : sg true (val 4294967296 [-(n % 18446744073709551616) % 18446744073709551616 % 4294967296, -(n % 18446744073709551616) % 18446744073709551616 / 4294967296]) = n := by simp only [val, sg, if_true]; omega
    (repeat (first | refine w_seq ?_ | refine w_block ?_ | refine w_regS (by simp (disch := omega) only [go_sem, made_lim true false _ (by simp) hI, e]; with_reducible rfl) ?_ | refine w_reg (by simp (disch := omega) only [go_sem, made_lim true false _ (by simp) hI, e]; with_reducible rfl) ?_ | refine w_skipS ?_ | refine w_skipB ?_ | refine w_exitS ?_ | refine w_exitB ?_ | refine w_exitN rfl ?_ | refine w_exitL ?_ | refine w_retS ?_ | refine w_retB ?_ | refine w_retL ?_ | refine w_condT (by simp (disch := omega) only [go_sem, made_lim true false _ (by simp) hI, e]; with_reducible rfl) (by with_reducible rfl) ?_ | refine w_condF (by simp (disch := omega) only [go_sem, made_lim true false _ (by simp) hI, e]; with_reducible rfl) (by with_reducible rfl) ?_ | fail))
    (first | refine w_fini ?_ | refine w_finiN ?_); simp (disch := omega) only [go_sem]
  · have hI : In 4294967296 [n % 4294967296, n / 4294967296] := .cons (by omega) (.cons (by omega) .nil)
    have e : sg false (val 4294967296 [n % 4294967296, n / 4294967296]) = n := by simp only [val, sg]; simp; omega
    (repeat (first | refine w_seq ?_ | refine w_block ?_ | refine w_regS (by simp (disch := omega) only [go_sem, made_lim false false _ (by simp) hI, e]; with_reducible rfl) ?_ | refine w_reg (by simp (disch := omega) only [go_sem, made_lim false false _ (by simp) hI, e]; with_reducible rfl) ?_ | refine w_skipS ?_ | refine w_skipB ?_ | refine w_exitS ?_ | refine w_exitB ?_ | refine w_exitN rfl ?_ | refine w_exitL ?_ | refine w_retS ?_ | refine w_retB ?_ | refine w_retL ?_ | refine w_condT (by simp (disch := omega) only [go_sem, made_lim false false _ (by simp) hI, e]; with_reducible rfl) (by with_reducible rfl) ?_ | refine w_condF (by simp (disch := omega) only [go_sem, made_lim false false _ (by simp) hI, e]; with_reducible rfl) (by with_reducible rfl) ?_ | fail))
    (first | refine w_fini ?_ | refine w_finiN ?_); simp (disch := omega) only [go_sem]

theorem sign_lim (x : Int) : lim tab F_long_Int_Sign [Z x] none = some ⟨[.int .i64 x.sign], [], none⟩ := by
  unfold Z zc
  refine runs_w rfl rfl ?_
  by_cases h0 : x = 0
  · subst h0
    have e : (ql (Int.natAbs 0)).length = 0 := by rw [show ql (Int.natAbs 0) = [] from ql_nil.2 rfl]; rfl
    (repeat (first | refine w_seq ?_ | refine w_block ?_ | refine w_regS (by simp (disch := omega) only [go_sem, e]; with_reducible rfl) ?_ | refine w_reg (by simp (disch := omega) only [go_sem, e]; with_reducible rfl) ?_ | refine w_skipS ?_ | refine w_skipB ?_ | refine w_exitS ?_ | refine w_exitB ?_ | refine w_exitN rfl ?_ | refine w_exitL ?_ | refine w_retS ?_ | refine w_retB ?_ | refine w_retL ?_ | refine w_condT (by simp (disch := omega) only [go_sem, e]; with_reducible rfl) (by with_reducible rfl) ?_ | refine w_condF (by simp (disch := omega) only [go_sem, e]; with_reducible rfl) (by with_reducible rfl) ?_ | fail))
    (first | refine w_fini ?_ | refine w_finiN ?_); simp (disch := omega) only [go_sem]
    rfl
  · have e : (ql x.natAbs).length ≠ 0 := fun h => h0 (by have := ql_nil.1 (List.length_eq_zero_iff.1 h); omega)
    by_cases hx : x < 0
    · (repeat (first | refine w_seq ?_ | refine w_block ?_ | refine w_regS (by simp (disch := omega) only [go_sem]; with_reducible rfl) ?_ | refine w_reg (by simp (disch := omega) only [go_sem]; with_reducible rfl) ?_ | refine w_skipS ?_ | refine w_skipB ?_ | refine w_exitS ?_ | refine w_exitB ?_ | refine w_exitN rfl ?_ | refine w_exitL ?_ | refine w_retS ?_ | refine w_retB ?_ | refine w_retL ?_ | refine w_condT (by simp (disch := omega) only [go_sem]; with_reducible rfl) (by with_reducible rfl) ?_ | refine w_condF (by simp (disch := omega) only [go_sem]; with_reducible rfl) (by with_reducible rfl) ?_ | fail))
      (first | refine w_fini ?_ | refine w_finiN ?_); simp (disch := omega) only [go_sem]
      rw [Int.sign_eq_neg_one_of_neg hx]
    · (repeat (first | refine w_seq ?_ | refine w_block ?_ | refine w_regS (by simp (disch := omega) only [go_sem]; with_reducible rfl) ?_ | refine w_reg (by simp (disch := omega) only [go_sem]; with_reducible rfl) ?_ | refine w_skipS ?_ | refine w_skipB ?_ | refine w_exitS ?_ | refine w_exitB ?_ | refine w_exitN rfl ?_ | refine w_exitL ?_ | refine w_retS ?_ | refine w_retB ?_ | refine w_retL ?_ | refine w_condT (by simp (disch := omega) only [go_sem]; with_reducible rfl) (by with_reducible rfl) ?_ | refine w_condF (by simp (disch := omega) only [go_sem]; with_reducible rfl) (by with_reducible rfl) ?_ | fail))
      (first | refine w_fini ?_ | refine w_finiN ?_); simp (disch := omega) only [go_sem]
      rw [Int.sign_eq_one_of_pos (by omega)]

theorem neg_lim (x : Int) (hx : (ql x.natAbs).length ≤ 1099511627776) : lim tab F_long_Int_Neg [Z x] none = some ⟨[Z (-x)], [], none⟩ := by
  have hI := In_ql x.natAbs
  have e : sg (!decide (x < 0)) (val 4294967296 (ql x.natAbs)) = -x := by
    rw [val_ql]; unfold sg
    by_cases h : x < 0 <;> simp [h] <;> omega
  rw [← e]
  have e1 : Z x = .agg [.bool (decide (x < 0)), sl u32c true (ql x.natAbs)] := rfl
  rw [e1]
  refine runs_w rfl rfl ?_
  (repeat (first | refine w_seq ?_ | refine w_block ?_ | refine w_regS (by simp (disch := omega) only [go_sem, hI]; with_reducible rfl) ?_ | refine w_reg (by simp (disch := omega) only [go_sem, hI]; with_reducible rfl) ?_ | refine w_skipS ?_ | refine w_skipB ?_ | refine w_exitS ?_ | refine w_exitB ?_ | refine w_exitN rfl ?_ | refine w_exitL ?_ | refine w_retS ?_ | refine w_retB ?_ | refine w_retL ?_ | refine w_condT (by simp (disch := omega) only [go_sem, hI]; with_reducible rfl) (by with_reducible rfl) ?_ | refine w_condF (by simp (disch := omega) only [go_sem, hI]; with_reducible rfl) (by with_reducible rfl) ?_ | fail))
  (first | refine w_fini ?_ | refine w_finiN ?_); simp (disch := omega) only [go_sem]

theorem clone_lim (e : Bool) (l : List Int) (h : 0 < l.length) (hl : l.length ≤ 1099511627776) : lim tab F_slices_Clone_Suint32_uint32 [sl u32c e l] none = some ⟨[.own ⟨1, 0, 0⟩ 1 0 l.length], [⟨l.map u32c, true⟩], none⟩ := by
  refine runs_w rfl rfl ?_
  (repeat (first | refine w_seq ?_ | refine w_block ?_ | refine w_regS (by simp (disch := omega) only [go_sem]; with_reducible rfl) ?_ | refine w_reg (by simp (disch := omega) only [go_sem]; with_reducible rfl) ?_ | refine w_skipS ?_ | refine w_skipB ?_ | refine w_exitS ?_ | refine w_exitB ?_ | refine w_exitN rfl ?_ | refine w_exitL ?_ | refine w_retS ?_ | refine w_retB ?_ | refine w_retL ?_ | refine w_condT (by simp (disch := omega) only [go_sem]; with_reducible rfl) (by with_reducible rfl) ?_ | refine w_condF (by simp (disch := omega) only [go_sem]; with_reducible rfl) (by with_reducible rfl) ?_ | fail))
  (first | refine w_fini ?_ | refine w_finiN ?_); simp (disch := omega) only [go_sem]
end Go.Proofs.Ytbdknlejnacmgaa.Pi.W
end

section
/-
  Package long on our machine: cmp, plus, less, Add, Sub, Cmp.
-/
namespace Go.Proofs.Ytbdknlejnacmgaa.Pi.W
open Go Num
set_option linter.unusedVariables false
set_option linter.unusedSimpArgs false
set_option maxRecDepth 100000

theorem ql_lt_of_len {n m : Nat} (h : (ql n).length < (ql m).length) : n < m := by
  rcases Nat.lt_or_ge n m with h1 | h1
  · exact h1
  · have := dig_len_mono (B := 4294967296) (by omega) h1
    unfold ql at h; omega

theorem cmp_lim (e1 e2 : Bool) (n m : Nat) (hn : (ql n).length ≤ 1099511627776) (hm : (ql m).length ≤ 1099511627776) :
    lim tab F_long_cmp [sl u32c e1 (ql n), sl u32c e2 (ql m)] none = some ⟨[.int .i64 ((n : Int) - m).sign], [], none⟩ := by
  refine runs_w rfl rfl ?_
  by_cases hl : (ql n).length = (ql m).length
  · (repeat (first | refine w_seq ?_ | refine w_block ?_ | refine w_regS (by simp (disch := omega) only [go_sem]; with_reducible rfl) ?_ | refine w_reg (by simp (disch := omega) only [go_sem]; with_reducible rfl) ?_ | refine w_skipS ?_ | refine w_skipB ?_ | refine w_exitS ?_ | refine w_exitB ?_ | refine w_exitN rfl ?_ | refine w_exitL ?_ | refine w_retS ?_ | refine w_retB ?_ | refine w_retL ?_ | refine w_condT (by simp (disch := omega) only [go_sem]; with_reducible rfl) (by with_reducible rfl) ?_ | refine w_condF (by simp (disch := omega) only [go_sem]; with_reducible rfl) (by with_reducible rfl) ?_ | fail))
    refine w_loop (fun k s => k ≤ (ql n).length ∧ (ql n).drop k = (ql m).drop k ∧ ∃ g z, z = (k : Int) - 1 ∧ s = ⟨[(0, sl u32c e1 (ql n)), (1, sl u32c e2 (ql m)), (5, .int .i64 z)], [], [], g⟩) (ql n).length ?_ ?_
    · exact ⟨Nat.le_refl _, by rw [List.drop_eq_nil_of_le (Nat.le_refl _), List.drop_eq_nil_of_le (by omega)], _, _, rfl, rfl⟩
    · rintro k s ⟨h1, h2, g, z, hz, rfl⟩
      cases k with
      | zero =>
        have e : n = m := by
          have h3 := val_ql n
          simp only [List.drop_zero] at h2
          rw [h2, val_ql] at h3
          omega
        subst e
        (repeat (first | refine w_seq ?_ | refine w_block ?_ | refine w_regS (by simp (disch := omega) only [go_sem]; with_reducible rfl) ?_ | refine w_reg (by simp (disch := omega) only [go_sem]; with_reducible rfl) ?_ | refine w_skipS ?_ | refine w_skipB ?_ | refine w_exitS ?_ | refine w_exitB ?_ | refine w_exitN rfl ?_ | refine w_exitL ?_ | refine w_retS ?_ | refine w_retB ?_ | refine w_retL ?_ | refine w_condT (by simp (disch := omega) only [go_sem]; with_reducible rfl) (by with_reducible rfl) ?_ | refine w_condF (by simp (disch := omega) only [go_sem]; with_reducible rfl) (by with_reducible rfl) ?_ | fail))
        (first | refine w_fini ?_ | refine w_finiN ?_); simp (disch := omega) only [go_sem]
        simp
      | succ i =>
        obtain rfl : z = (i : Int) := by omega
        have ha : (ql n)[i]? = some (ql n)[i] := List.getElem?_eq_getElem (by omega)
        have hb : (ql m)[i]? = some (ql m)[i] := List.getElem?_eq_getElem (by omega)
        have e1 := split_at (l := ql n) (i := i) (by omega)
        have e2 := split_at (l := ql m) (i := i) (by omega)
        rw [← h2] at e2
        have i1 := (In_ql n).take i
        have i2 := (In_ql m).take i
        have v1 := val_ql n
        have v2 := val_ql m
        by_cases c1 : (ql n)[i] < (ql m)[i]
        · have := val_lt_of (t := (ql n).drop (i + 1)) (by omega) i1 i2 (by simp; omega) c1
          rw [← e1, ← e2, v1, v2] at this
          rw [Int.sign_eq_neg_one_of_neg (by omega)]
          (repeat (first | refine w_seq ?_ | refine w_block ?_ | refine w_regS (by simp (disch := omega) only [go_sem, ha, hb]; with_reducible rfl) ?_ | refine w_reg (by simp (disch := omega) only [go_sem, ha, hb]; with_reducible rfl) ?_ | refine w_skipS ?_ | refine w_skipB ?_ | refine w_exitS ?_ | refine w_exitB ?_ | refine w_exitN rfl ?_ | refine w_exitL ?_ | refine w_retS ?_ | refine w_retB ?_ | refine w_retL ?_ | refine w_condT (by simp (disch := omega) only [go_sem, ha, hb]; with_reducible rfl) (by with_reducible rfl) ?_ | refine w_condF (by simp (disch := omega) only [go_sem, ha, hb]; with_reducible rfl) (by with_reducible rfl) ?_ | fail))
          (first | refine w_fini ?_ | refine w_finiN ?_); simp (disch := omega) only [go_sem]
        · by_cases c2 : (ql m)[i] < (ql n)[i]
          · have := val_lt_of (t := (ql n).drop (i + 1)) (by omega) i2 i1 (by simp; omega) c2
            rw [← e1, ← e2, v1, v2] at this
            rw [Int.sign_eq_one_of_pos (by omega)]
            (repeat (first | refine w_seq ?_ | refine w_block ?_ | refine w_regS (by simp (disch := omega) only [go_sem, ha, hb]; with_reducible rfl) ?_ | refine w_reg (by simp (disch := omega) only [go_sem, ha, hb]; with_reducible rfl) ?_ | refine w_skipS ?_ | refine w_skipB ?_ | refine w_exitS ?_ | refine w_exitB ?_ | refine w_exitN rfl ?_ | refine w_exitL ?_ | refine w_retS ?_ | refine w_retB ?_ | refine w_retL ?_ | refine w_condT (by simp (disch := omega) only [go_sem, ha, hb]; with_reducible rfl) (by with_reducible rfl) ?_ | refine w_condF (by simp (disch := omega) only [go_sem, ha, hb]; with_reducible rfl) (by with_reducible rfl) ?_ | fail))
            (first | refine w_fini ?_ | refine w_finiN ?_); simp (disch := omega) only [go_sem]
          · (repeat (first | refine w_seq ?_ | refine w_block ?_ | refine w_regS (by simp (disch := omega) only [go_sem, ha, hb]; with_reducible rfl) ?_ | refine w_reg (by simp (disch := omega) only [go_sem, ha, hb]; with_reducible rfl) ?_ | refine w_skipS ?_ | refine w_skipB ?_ | refine w_exitS ?_ | refine w_exitB ?_ | refine w_exitN rfl ?_ | refine w_exitL ?_ | refine w_retS ?_ | refine w_retB ?_ | refine w_retL ?_ | refine w_condT (by simp (disch := omega) only [go_sem, ha, hb]; with_reducible rfl) (by with_reducible rfl) ?_ | refine w_condF (by simp (disch := omega) only [go_sem, ha, hb]; with_reducible rfl) (by with_reducible rfl) ?_ | fail))
            refine w_skipL ⟨i, by omega, by omega, ?_, _, _, rfl, rfl⟩
            rw [drop_at (l := ql n) (i := i) (by omega), h2, drop_at (l := ql m) (i := i) (by omega)]
            congr 1; omega
  · by_cases hlt : (ql n).length < (ql m).length
    · have := ql_lt_of_len hlt
      rw [Int.sign_eq_neg_one_of_neg (by omega)]
      (repeat (first | refine w_seq ?_ | refine w_block ?_ | refine w_regS (by simp (disch := omega) only [go_sem]; with_reducible rfl) ?_ | refine w_reg (by simp (disch := omega) only [go_sem]; with_reducible rfl) ?_ | refine w_skipS ?_ | refine w_skipB ?_ | refine w_exitS ?_ | refine w_exitB ?_ | refine w_exitN rfl ?_ | refine w_exitL ?_ | refine w_retS ?_ | refine w_retB ?_ | refine w_retL ?_ | refine w_condT (by simp (disch := omega) only [go_sem]; with_reducible rfl) (by with_reducible rfl) ?_ | refine w_condF (by simp (disch := omega) only [go_sem]; with_reducible rfl) (by with_reducible rfl) ?_ | fail))
      (first | refine w_fini ?_ | refine w_finiN ?_); simp (disch := omega) only [go_sem]
    · have := ql_lt_of_len (n := m) (m := n) (by omega)
      rw [Int.sign_eq_one_of_pos (by omega)]
      (repeat (first | refine w_seq ?_ | refine w_block ?_ | refine w_regS (by simp (disch := omega) only [go_sem]; with_reducible rfl) ?_ | refine w_reg (by simp (disch := omega) only [go_sem]; with_reducible rfl) ?_ | refine w_skipS ?_ | refine w_skipB ?_ | refine w_exitS ?_ | refine w_exitB ?_ | refine w_exitN rfl ?_ | refine w_exitL ?_ | refine w_retS ?_ | refine w_retB ?_ | refine w_retL ?_ | refine w_condT (by simp (disch := omega) only [go_sem]; with_reducible rfl) (by with_reducible rfl) ?_ | refine w_condF (by simp (disch := omega) only [go_sem]; with_reducible rfl) (by with_reducible rfl) ?_ | fail))
      (first | refine w_fini ?_ | refine w_finiN ?_); simp (disch := omega) only [go_sem]

/-- What plus makes. -/
def PlusOk (a b : List Int) (r : Ret) : Prop := ∃ l, r = ⟨[sl u32c false l], [], none⟩ ∧ In 4294967296 l ∧ val 4294967296 l = val 4294967296 a + val 4294967296 b ∧ l.length = a.length + 1

theorem plus_tail (e1 e2 : Bool) (a b : List Int) (t : List (Nat × PV)) (g : Nat) (ht : rget t 0 = sl u32c e1 a ∧ rget t 1 = sl u32c e2 b) (hab : b.length ≤ a.length) (ha : a.length ≤ 1099511627776) (ia : In 4294967296 a) (ib : In 4294967296 b) :
    Wp tab T_long_plus_5 ⟨t, [], [], g⟩ (kE [.tmp 4] false none (PlusOk a b)) := by
  have hA : (a ++ [0]).length = a.length + 1 := by simp
  have iA : In 4294967296 (a ++ [0]) := ia.app (.cons (by omega) .nil)
  have vA : val 4294967296 (a ++ [0]) = val 4294967296 a := by rw [val_snoc]; simp
  have st : List.take (a.length + 1) a ++ List.drop (List.take (a.length + 1) a).length (List.replicate (a.length + 1) 0) = [] ++ (a ++ [0]).drop 0 := by
    rw [List.take_of_length_le (by omega)]; simp
  (repeat (first | refine w_seq ?_ | refine w_block ?_ | refine w_regS (by simp (disch := omega) only [go_sem, st, ht.1, ht.2]; with_reducible rfl) ?_ | refine w_reg (by simp (disch := omega) only [go_sem, st, ht.1, ht.2]; with_reducible rfl) ?_ | refine w_skipS ?_ | refine w_skipB ?_ | refine w_exitS ?_ | refine w_exitB ?_ | refine w_exitN rfl ?_ | refine w_exitL ?_ | refine w_retS ?_ | refine w_retB ?_ | refine w_retL ?_ | refine w_condT (by simp (disch := omega) only [go_sem, st, ht.1, ht.2]; with_reducible rfl) (by with_reducible rfl) ?_ | refine w_condF (by simp (disch := omega) only [go_sem, st, ht.1, ht.2]; with_reducible rfl) (by with_reducible rfl) ?_ | fail))
  generalize hA' : a ++ [0] = A at *
  refine w_loop (fun m s => ∃ i o done g', i + m = a.length + 1 ∧ done.length = i ∧ In 4294967296 done ∧ 0 ≤ o ∧ o ≤ 1 ∧ val 4294967296 done + 4294967296 ^ i * o = val 4294967296 (A.take i) + val 4294967296 (b.take i) ∧
    s = ⟨[(1, sl u32c e2 b), (5, .own ⟨19, g, 0⟩ 1 0 (a.length + 1)), (6, .int .u64 o), (23, .int .i64 ((a.length + 1 : Nat) : Int)), (24, .int .i64 (i : Nat))], [⟨19, g, false, [⟨(done ++ A.drop i).map u32c, true⟩]⟩], [], g'⟩) (a.length + 1) ?_ ?_
  · exact ⟨0, 0, [], _, by omega, rfl, .nil, by omega, by omega, by simp [val], rfl⟩
  · rintro m s ⟨i, o, done, g', h1, h2, h4, h5, h6, h7, rfl⟩
    by_cases hi : i < a.length + 1
    · have hx := iA.get (i := i) (by omega)
      have hv := val_take 4294967296 (l := A) (i := i) (by omega)
      rw [drop_at (l := A) (i := i) (by omega)]
      generalize A[i]'(by omega) = x at *
      by_cases hb : i < b.length
      · have hy := ib.get hb
        have hb' : b[i]? = some b[i] := List.getElem?_eq_getElem hb
        have hw := val_take 4294967296 hb
        (repeat (first | refine w_seq ?_ | refine w_block ?_ | refine w_regS (by simp (disch := omega) only [go_sem, hb']; with_reducible rfl) ?_ | refine w_reg (by simp (disch := omega) only [go_sem, hb']; with_reducible rfl) ?_ | refine w_skipS ?_ | refine w_skipB ?_ | refine w_exitS ?_ | refine w_exitB ?_ | refine w_exitN rfl ?_ | refine w_exitL ?_ | refine w_retS ?_ | refine w_retB ?_ | refine w_retL ?_ | refine w_condT (by simp (disch := omega) only [go_sem, hb']; with_reducible rfl) (by with_reducible rfl) ?_ | refine w_condF (by simp (disch := omega) only [go_sem, hb']; with_reducible rfl) (by with_reducible rfl) ?_ | fail))
        generalize b[i] = y at *
        refine w_skipL ⟨m - 1, by omega, i + 1, (o + x + y) / 4294967296, done ++ [(o + x + y) % 4294967296], ?_, by omega, by simp; omega, h4.app (.cons (by omega) .nil), by omega, by omega, ?_, ?_⟩
        rotate_left
        · rw [hv, hw, val_snoc, h2, Int.pow_succ, Int.mul_assoc]
          have e : x + y + o = (o + x + y) % 4294967296 + 4294967296 * ((o + x + y) / 4294967296) := by omega
          have e2 : (4294967296 : Int) ^ i * _ = 4294967296 ^ i * _ := congrArg _ e
          simp only [Int.mul_add] at e2
          omega
        · rw [List.append_assoc]; rfl
      · have hw : b.take (i + 1) = b.take i := by rw [List.take_of_length_le (by omega), List.take_of_length_le (by omega)]
        (repeat (first | refine w_seq ?_ | refine w_block ?_ | refine w_regS (by simp (disch := omega) only [go_sem]; with_reducible rfl) ?_ | refine w_reg (by simp (disch := omega) only [go_sem]; with_reducible rfl) ?_ | refine w_skipS ?_ | refine w_skipB ?_ | refine w_exitS ?_ | refine w_exitB ?_ | refine w_exitN rfl ?_ | refine w_exitL ?_ | refine w_retS ?_ | refine w_retB ?_ | refine w_retL ?_ | refine w_condT (by simp (disch := omega) only [go_sem]; with_reducible rfl) (by with_reducible rfl) ?_ | refine w_condF (by simp (disch := omega) only [go_sem]; with_reducible rfl) (by with_reducible rfl) ?_ | fail))
        refine w_skipL ⟨m - 1, by omega, i + 1, (o + x) / 4294967296, done ++ [(o + x) % 4294967296], ?_, by omega, by simp; omega, h4.app (.cons (by omega) .nil), by omega, by omega, ?_, ?_⟩
        rotate_left
        · rw [hv, hw, val_snoc, h2, Int.pow_succ, Int.mul_assoc]
          have e : x + o = (o + x) % 4294967296 + 4294967296 * ((o + x) / 4294967296) := by omega
          have e2 : (4294967296 : Int) ^ i * _ = 4294967296 ^ i * _ := congrArg _ e
          simp only [Int.mul_add] at e2
          omega
        · rw [List.append_assoc]; rfl
    · have hd : A.drop i = [] := List.drop_eq_nil_of_le (by omega)
      rw [hd, List.append_nil]
      have ho : o = 0 := by
        rw [List.take_of_length_le (by omega), List.take_of_length_le (by omega), vA] at h7
        have v1 := val_lt (by omega) ia
        have v2 := val_lt (by omega) ib
        have v3 := val_nonneg (by omega) h4
        have v4 : (4294967296 : Int) ^ b.length ≤ 4294967296 ^ a.length := pow_mono (by omega) hab
        have v5 := pow_pos' (B := 4294967296) (by omega) a.length
        rw [show i = a.length + 1 by omega, Int.pow_succ] at h7
        rcases (by omega : o = 0 ∨ o = 1) with rfl | rfl
        · rfl
        · omega
      have hq : done.take (a.length + 1) = done := List.take_of_length_le (by omega)
      (repeat (first | refine w_seq ?_ | refine w_block ?_ | refine w_regS (by simp (disch := omega) only [go_sem, hq]; with_reducible rfl) ?_ | refine w_reg (by simp (disch := omega) only [go_sem, hq]; with_reducible rfl) ?_ | refine w_skipS ?_ | refine w_skipB ?_ | refine w_exitS ?_ | refine w_exitB ?_ | refine w_exitN rfl ?_ | refine w_exitL ?_ | refine w_retS ?_ | refine w_retB ?_ | refine w_retL ?_ | refine w_condT (by simp (disch := omega) only [go_sem, hq]; with_reducible rfl) (by with_reducible rfl) ?_ | refine w_condF (by simp (disch := omega) only [go_sem, hq]; with_reducible rfl) (by with_reducible rfl) ?_ | fail))
      refine w_exi (by simp (disch := omega) only [go_sem, hq]; with_reducible rfl) ?_
      refine ⟨done, rfl, h4, ?_, by omega⟩
      rw [List.take_of_length_le (by omega), List.take_of_length_le (by omega), vA, ho] at h7
      simpa using h7

section
attribute [local irreducible] T_long_plus_5
theorem plus_ex (e1 e2 : Bool) (a b : List Int) (ha : a.length ≤ 1099511627776) (hb : b.length ≤ 1099511627776) (ia : In 4294967296 a) (ib : In 4294967296 b) :
    ∃ l, lim tab F_long_plus [sl u32c e1 a, sl u32c e2 b] none = some ⟨[sl u32c false l], [], none⟩ ∧ In 4294967296 l ∧ val 4294967296 l = val 4294967296 a + val 4294967296 b ∧ l.length ≤ max a.length b.length + 1 := by
  by_cases hab : a.length < b.length
  · obtain ⟨r, h1, l, rfl, h2, h3, h4⟩ : ∃ r, lim tab F_long_plus [sl u32c e1 a, sl u32c e2 b] none = some r ∧ PlusOk b a r := by
      refine runs_ex rfl rfl ?_
      (repeat (first | refine w_seq ?_ | refine w_block ?_ | refine w_regS (by simp (disch := omega) only [go_sem]; with_reducible rfl) ?_ | refine w_reg (by simp (disch := omega) only [go_sem]; with_reducible rfl) ?_ | refine w_skipS ?_ | refine w_skipB ?_ | refine w_exitS ?_ | refine w_exitB ?_ | refine w_exitN rfl ?_ | refine w_exitL ?_ | refine w_retS ?_ | refine w_retB ?_ | refine w_retL ?_ | refine w_condT (by simp (disch := omega) only [go_sem]; with_reducible rfl) (by with_reducible rfl) ?_ | refine w_condF (by simp (disch := omega) only [go_sem]; with_reducible rfl) (by with_reducible rfl) ?_ | fail))
      exact plus_tail e2 e1 b a _ _ ⟨rfl, rfl⟩ (by omega) hb ib ia
    exact ⟨l, h1, h2, by omega, by omega⟩
  · obtain ⟨r, h1, l, rfl, h2, h3, h4⟩ : ∃ r, lim tab F_long_plus [sl u32c e1 a, sl u32c e2 b] none = some r ∧ PlusOk a b r := by
      refine runs_ex rfl rfl ?_
      (repeat (first | refine w_seq ?_ | refine w_block ?_ | refine w_regS (by simp (disch := omega) only [go_sem]; with_reducible rfl) ?_ | refine w_reg (by simp (disch := omega) only [go_sem]; with_reducible rfl) ?_ | refine w_skipS ?_ | refine w_skipB ?_ | refine w_exitS ?_ | refine w_exitB ?_ | refine w_exitN rfl ?_ | refine w_exitL ?_ | refine w_retS ?_ | refine w_retB ?_ | refine w_retL ?_ | refine w_condT (by simp (disch := omega) only [go_sem]; with_reducible rfl) (by with_reducible rfl) ?_ | refine w_condF (by simp (disch := omega) only [go_sem]; with_reducible rfl) (by with_reducible rfl) ?_ | fail))
      exact plus_tail e1 e2 a b _ _ ⟨rfl, rfl⟩ (by omega) ha ia ib
    exact ⟨l, h1, h2, by omega, by omega⟩
end

theorem clone_io (xs : List Int) (off n : Nat) (h : 0 < n) (hl : n ≤ 1099511627776) (ho : off + n ≤ xs.length) :
    lim tab F_slices_Clone_Suint32_uint32 [.own ⟨0, 0, 0⟩ 1 off n] (some ⟨xs.map u32c, true⟩) = some ⟨[.own ⟨1, 0, 0⟩ 1 0 n], [⟨((xs.drop off).take n).map u32c, true⟩], some ⟨xs.map u32c, true⟩⟩ := by
  refine runs_w rfl rfl ?_
  have e1 : ((xs.drop off).take n).length = n := by simp; omega
  (repeat (first | refine w_seq ?_ | refine w_block ?_ | refine w_regS (by simp (disch := omega) only [go_sem, e1]; with_reducible rfl) ?_ | refine w_reg (by simp (disch := omega) only [go_sem, e1]; with_reducible rfl) ?_ | refine w_skipS ?_ | refine w_skipB ?_ | refine w_exitS ?_ | refine w_exitB ?_ | refine w_exitN rfl ?_ | refine w_exitL ?_ | refine w_retS ?_ | refine w_retB ?_ | refine w_retL ?_ | refine w_condT (by simp (disch := omega) only [go_sem, e1]; with_reducible rfl) (by with_reducible rfl) ?_ | refine w_condF (by simp (disch := omega) only [go_sem, e1]; with_reducible rfl) (by with_reducible rfl) ?_ | fail))
  (first | refine w_fini ?_ | refine w_finiN ?_); simp (disch := omega) only [go_sem, e1]

def LessOk (a b : List Int) (io : Option Obj) (r : Ret) : Prop := ∃ l, r = ⟨[sl u32c false l], [], io⟩ ∧ In 4294967296 l ∧ val 4294967296 l = val 4294967296 a - val 4294967296 b ∧ l.length = a.length

theorem less_loop (io : Option Obj) (hio : io = none ∨ ∃ xo, io = some ⟨xo, true⟩) (e2 : Bool) (a b : List Int) (g g1 : Nat) (hab : b.length ≤ a.length) (ha : a.length ≤ 1099511627776) (ia : In 4294967296 a) (ib : In 4294967296 b) (hv : val 4294967296 b ≤ val 4294967296 a) :
    Wp tab (.loop B_long_less_3) ⟨[(1, sl u32c e2 b), (5, .own ⟨11, g1, 0⟩ 1 0 a.length), (6, .int .u64 0), (12, .int .i64 a.length), (13, .int .i64 0)], ioEnts io ++ [⟨11, g1, false, [⟨a.map u32c, true⟩]⟩], [], g⟩ (kB 0 (kS tab T_long_less_4 (kE [.tmp 4] false io (LessOk a b io)))) := by
  refine w_loop (fun m s => ∃ i o done g', i + m = a.length ∧ done.length = i ∧ In 4294967296 done ∧ 0 ≤ o ∧ o ≤ 1 ∧ val 4294967296 done - 4294967296 ^ i * o = val 4294967296 (a.take i) - val 4294967296 (b.take i) ∧
    s = ⟨[(1, sl u32c e2 b), (5, .own ⟨11, g1, 0⟩ 1 0 a.length), (6, .int .u64 o), (12, .int .i64 a.length), (13, .int .i64 (i : Nat))], ioEnts io ++ [⟨11, g1, false, [⟨(done ++ a.drop i).map u32c, true⟩]⟩], [], g'⟩) a.length ?_ ?_
  · exact ⟨0, 0, [], _, by omega, rfl, .nil, by omega, by omega, by simp [val], rfl⟩
  · rintro m s ⟨i, o, done, g', h1, h2, h4, h5, h6, h7, rfl⟩
    by_cases hi : i < a.length
    · have hx := ia.get (i := i) (by omega)
      have hv := val_take 4294967296 (l := a) (i := i) (by omega)
      rw [drop_at (l := a) (i := i) (by omega)]
      generalize a[i]'(by omega) = x at *
      by_cases hb : i < b.length
      · have hy := ib.get hb
        have hb' : b[i]? = some b[i] := List.getElem?_eq_getElem hb
        have hw := val_take 4294967296 hb
        rcases hio with rfl | ⟨xo, rfl⟩
        all_goals
          (repeat (first | refine w_seq ?_ | refine w_block ?_ | refine w_regS (by simp (disch := omega) only [go_sem, hb']; with_reducible rfl) ?_ | refine w_reg (by simp (disch := omega) only [go_sem, hb']; with_reducible rfl) ?_ | refine w_skipS ?_ | refine w_skipB ?_ | refine w_exitS ?_ | refine w_exitB ?_ | refine w_exitN rfl ?_ | refine w_exitL ?_ | refine w_retS ?_ | refine w_retB ?_ | refine w_retL ?_ | refine w_condT (by simp (disch := omega) only [go_sem, hb']; with_reducible rfl) (by with_reducible rfl) ?_ | refine w_condF (by simp (disch := omega) only [go_sem, hb']; with_reducible rfl) (by with_reducible rfl) ?_ | fail))
          generalize b[i] = y at *
          refine w_skipL ⟨m - 1, by omega, i + 1, ((x - o) % 18446744073709551616 - y) % 18446744073709551616 / 9223372036854775808, done ++ [((x - o) % 18446744073709551616 - y) % 18446744073709551616 % 4294967296], ?_, by omega, by simp; omega, h4.app (.cons (by omega) .nil), by omega, by omega, ?_, ?_⟩
          rotate_left
          · rw [hv, hw, val_snoc, h2, Int.pow_succ, Int.mul_assoc]
            have e : x - y - o = ((x - o) % 18446744073709551616 - y) % 18446744073709551616 % 4294967296 - 4294967296 * (((x - o) % 18446744073709551616 - y) % 18446744073709551616 / 9223372036854775808) := by omega
            have e2 : (4294967296 : Int) ^ i * _ = 4294967296 ^ i * _ := congrArg _ e
            simp only [Int.mul_sub] at e2
            omega
          · rw [List.append_assoc]; rfl
      · have hw : b.take (i + 1) = b.take i := by rw [List.take_of_length_le (by omega), List.take_of_length_le (by omega)]
        rcases hio with rfl | ⟨xo, rfl⟩
        all_goals
          (repeat (first | refine w_seq ?_ | refine w_block ?_ | refine w_regS (by simp (disch := omega) only [go_sem]; with_reducible rfl) ?_ | refine w_reg (by simp (disch := omega) only [go_sem]; with_reducible rfl) ?_ | refine w_skipS ?_ | refine w_skipB ?_ | refine w_exitS ?_ | refine w_exitB ?_ | refine w_exitN rfl ?_ | refine w_exitL ?_ | refine w_retS ?_ | refine w_retB ?_ | refine w_retL ?_ | refine w_condT (by simp (disch := omega) only [go_sem]; with_reducible rfl) (by with_reducible rfl) ?_ | refine w_condF (by simp (disch := omega) only [go_sem]; with_reducible rfl) (by with_reducible rfl) ?_ | fail))
          refine w_skipL ⟨m - 1, by omega, i + 1, (x - o) % 18446744073709551616 / 9223372036854775808, done ++ [(x - o) % 18446744073709551616 % 4294967296], ?_, by omega, by simp; omega, h4.app (.cons (by omega) .nil), by omega, by omega, ?_, ?_⟩
          rotate_left
          · rw [hv, hw, val_snoc, h2, Int.pow_succ, Int.mul_assoc]
            have e : x - o = (x - o) % 18446744073709551616 % 4294967296 - 4294967296 * ((x - o) % 18446744073709551616 / 9223372036854775808) := by omega
            have e2 : (4294967296 : Int) ^ i * _ = 4294967296 ^ i * _ := congrArg _ e
            simp only [Int.mul_sub] at e2
            omega
          · rw [List.append_assoc]; rfl
    · have hd : a.drop i = [] := List.drop_eq_nil_of_le (by omega)
      rw [hd, List.append_nil]
      rw [List.take_of_length_le (by omega), List.take_of_length_le (by omega)] at h7
      have ho : o = 0 := by
        have v3 := val_lt (by omega) h4
        rw [h2] at v3
        rcases (by omega : o = 0 ∨ o = 1) with rfl | rfl
        · rfl
        · omega
      subst ho
      have hq : done.take a.length = done := List.take_of_length_le (by omega)
      have hr : val 4294967296 done = val 4294967296 a - val 4294967296 b := by simpa using h7
      rcases hio with rfl | ⟨xo, rfl⟩
      all_goals
        (repeat (first | refine w_seq ?_ | refine w_block ?_ | refine w_regS (by simp (disch := omega) only [go_sem, hq]; with_reducible rfl) ?_ | refine w_reg (by simp (disch := omega) only [go_sem, hq]; with_reducible rfl) ?_ | refine w_skipS ?_ | refine w_skipB ?_ | refine w_exitS ?_ | refine w_exitB ?_ | refine w_exitN rfl ?_ | refine w_exitL ?_ | refine w_retS ?_ | refine w_retB ?_ | refine w_retL ?_ | refine w_condT (by simp (disch := omega) only [go_sem, hq]; with_reducible rfl) (by with_reducible rfl) ?_ | refine w_condF (by simp (disch := omega) only [go_sem, hq]; with_reducible rfl) (by with_reducible rfl) ?_ | fail))
        refine w_exi (by simp (disch := omega) only [go_sem, hq]; with_reducible rfl) ?_
        exact ⟨done, rfl, h4, hr, by omega⟩
section
attribute [local irreducible] B_long_less_3 T_long_less_4
theorem less_ex (e1 e2 : Bool) (a b : List Int) (h0 : 0 < a.length) (hab : b.length ≤ a.length) (ha : a.length ≤ 1099511627776) (ia : In 4294967296 a) (ib : In 4294967296 b) (hv : val 4294967296 b ≤ val 4294967296 a) :
    ∃ l, lim tab F_long_less [sl u32c e1 a, sl u32c e2 b] none = some ⟨[sl u32c false l], [], none⟩ ∧ In 4294967296 l ∧ val 4294967296 l = val 4294967296 a - val 4294967296 b ∧ l.length = a.length := by
  obtain ⟨r, h1, l, rfl, h2, h3, h4⟩ : ∃ r, lim tab F_long_less [sl u32c e1 a, sl u32c e2 b] none = some r ∧ LessOk a b none r := by
    refine runs_ex rfl rfl ?_
    (repeat (first | refine w_seq ?_ | refine w_block ?_ | refine w_regS (by simp (disch := omega) only [go_sem, clone_lim]; with_reducible rfl) ?_ | refine w_reg (by simp (disch := omega) only [go_sem, clone_lim]; with_reducible rfl) ?_ | refine w_skipS ?_ | refine w_skipB ?_ | refine w_exitS ?_ | refine w_exitB ?_ | refine w_exitN rfl ?_ | refine w_exitL ?_ | refine w_retS ?_ | refine w_retB ?_ | refine w_retL ?_ | refine w_condT (by simp (disch := omega) only [go_sem, clone_lim]; with_reducible rfl) (by with_reducible rfl) ?_ | refine w_condF (by simp (disch := omega) only [go_sem, clone_lim]; with_reducible rfl) (by with_reducible rfl) ?_ | fail))
    have := less_loop none (.inl rfl) e2 a b 
    exact this _ _ hab ha ia ib hv
  exact ⟨l, h1, h2, h3, h4⟩
theorem less_io (e2 : Bool) (xs b : List Int) (off n : Nat) (h0 : 0 < n) (ho : off + n ≤ xs.length) (hab : b.length ≤ n) (ha : n ≤ 1099511627776) (ia : In 4294967296 xs) (ib : In 4294967296 b) (hv : val 4294967296 b ≤ val 4294967296 ((xs.drop off).take n)) :
    ∃ l, lim tab F_long_less [.own ⟨0, 0, 0⟩ 1 off n, sl u32c e2 b] (some ⟨xs.map u32c, true⟩) = some ⟨[sl u32c false l], [], some ⟨xs.map u32c, true⟩⟩ ∧ In 4294967296 l ∧ val 4294967296 l = val 4294967296 ((xs.drop off).take n) - val 4294967296 b ∧ l.length = n := by
  have e1 : ((xs.drop off).take n).length = n := by simp; omega
  obtain ⟨r, h1, l, rfl, h2, h3, h4⟩ : ∃ r, lim tab F_long_less [.own ⟨0, 0, 0⟩ 1 off n, sl u32c e2 b] (some ⟨xs.map u32c, true⟩) = some r ∧ LessOk ((xs.drop off).take n) b (some ⟨xs.map u32c, true⟩) r := by
    refine runs_ex rfl rfl ?_
    (repeat (first | refine w_seq ?_ | refine w_block ?_ | refine w_regS (by simp (disch := omega) only [go_sem, clone_io]; with_reducible rfl) ?_ | refine w_reg (by simp (disch := omega) only [go_sem, clone_io]; with_reducible rfl) ?_ | refine w_skipS ?_ | refine w_skipB ?_ | refine w_exitS ?_ | refine w_exitB ?_ | refine w_exitN rfl ?_ | refine w_exitL ?_ | refine w_retS ?_ | refine w_retB ?_ | refine w_retL ?_ | refine w_condT (by simp (disch := omega) only [go_sem, clone_io]; with_reducible rfl) (by with_reducible rfl) ?_ | refine w_condF (by simp (disch := omega) only [go_sem, clone_io]; with_reducible rfl) (by with_reducible rfl) ?_ | fail))
    have := less_loop (some ⟨xs.map u32c, true⟩) (.inr ⟨_, rfl⟩) e2 ((xs.drop off).take n) b
    rw [e1] at this
    exact this _ _ hab ha ((ia.drop off).take n) ib hv
  exact ⟨l, h1, h2, h3, by omega⟩
end
end Go.Proofs.Ytbdknlejnacmgaa.Pi.W
end

section
/-
  Package long on our machine: Add, Sub, Cmp.
-/
namespace Go.Proofs.Ytbdknlejnacmgaa.Pi.W
open Go Num
set_option linter.unusedVariables false
set_option linter.unusedSimpArgs false
set_option maxRecDepth 100000

/-- How many parts a number has. -/
def sz (x : Int) : Nat := (ql x.natAbs).length
theorem sz_eq (x : Int) : (ql x.natAbs).length = sz x := rfl
theorem sz_lt {x : Int} {n : Nat} (h : x.natAbs < 4294967296 ^ n) : sz x ≤ n := dig_len_le (B := 4294967296) (by omega) h
theorem lt_sz (x : Int) : x.natAbs < 4294967296 ^ sz x := lt_dig_len (B := 4294967296) (by omega) x.natAbs
theorem sz_mono {x : Int} {n m : Nat} (h : x.natAbs < 4294967296 ^ n) (k : n ≤ m) : sz x ≤ m := Nat.le_trans (sz_lt h) k
theorem sz_neg (x : Int) : sz (-x) = sz x := by unfold sz; rw [Int.natAbs_neg]
theorem npow_mono {a b : Nat} (h : a ≤ b) : 4294967296 ^ a ≤ 4294967296 ^ b := Nat.pow_le_pow_right (by omega) h
theorem sz_add (x y : Int) : sz (x + y) ≤ max (sz x) (sz y) + 1 := by
  refine sz_lt ?_
  have h1 := lt_sz x
  have h2 := lt_sz y
  have h3 := npow_mono (a := sz x) (b := max (sz x) (sz y)) (by omega)
  have h4 := npow_mono (a := sz y) (b := max (sz x) (sz y)) (by omega)
  have h5 := Int.natAbs_add_le x y
  rw [Nat.pow_succ]; omega
theorem sz_sub (x y : Int) : sz (x - y) ≤ max (sz x) (sz y) + 1 := by
  have := sz_add x (-y)
  rw [sz_neg] at this
  rwa [← Int.sub_eq_add_neg] at this
theorem sz_mul (x y : Int) : sz (x * y) ≤ sz x + sz y := by
  refine sz_lt ?_
  have h1 := lt_sz x
  have h2 := lt_sz y
  rw [Int.natAbs_mul, Nat.pow_add]
  exact Nat.mul_lt_mul'' h1 h2
theorem sz_i64 {x : Int} (h1 : -9223372036854775808 ≤ x) (h2 : x ≤ 9223372036854775807) : sz x ≤ 2 := sz_lt (by omega)

theorem sign_ge {n : Int} (h : 0 ≤ n) : 0 ≤ n.sign := by
  by_cases h1 : n = 0
  · subst h1; decide
  · rw [Int.sign_eq_one_of_pos (by omega)]; decide
theorem sign_lt {n : Int} (h : n < 0) : n.sign < 0 := by rw [Int.sign_eq_neg_one_of_neg h]; decide

theorem add_lim (x y : Int) (hx : sz x ≤ 1099511627775) (hy : sz y ≤ 1099511627775) : lim tab F_long_Int_Add [Z x, Z y] none = some ⟨[Z (x + y)], [], none⟩ := by
  have ea : Z x = .agg [.bool (decide (x < 0)), sl u32c true (ql x.natAbs)] := rfl
  have eb : Z y = .agg [.bool (decide (y < 0)), sl u32c true (ql y.natAbs)] := rfl
  have ia := In_ql x.natAbs
  have ib := In_ql y.natAbs
  have va := val_ql x.natAbs
  have vb := val_ql y.natAbs
  have hx' : (ql x.natAbs).length ≤ 1099511627775 := hx
  have hy' : (ql y.natAbs).length ≤ 1099511627775 := hy
  rw [ea, eb]
  refine runs_w rfl rfl ?_
  by_cases h : decide (x < 0) = decide (y < 0)
  · obtain ⟨l, p1, p2, p3, p4⟩ := plus_ex true true (ql x.natAbs) (ql y.natAbs) (by omega) (by omega) ia ib
    have e1 : sg (decide (x < 0)) (val 4294967296 l) = x + y := by
      rw [p3, va, vb]
      by_cases h1 : x < 0 <;> by_cases h2 : y < 0 <;> simp [h1, h2] at h <;> simp [sg, h1] <;> omega
    have hb : (decide (x < 0) == decide (y < 0)) = true := by rw [h]; exact beq_self_eq_true _
    have p5 := made_lim (decide (x < 0)) false l (by omega) p2
    rw [e1] at p5
    generalize decide (x < 0) = u at *
    generalize decide (y < 0) = v at *
    (repeat (first | refine w_seq ?_ | refine w_block ?_ | refine w_regS (by simp (disch := omega) only [go_sem, p1, p5, hb]; with_reducible rfl) ?_ | refine w_reg (by simp (disch := omega) only [go_sem, p1, p5, hb]; with_reducible rfl) ?_ | refine w_skipS ?_ | refine w_skipB ?_ | refine w_exitS ?_ | refine w_exitB ?_ | refine w_exitN rfl ?_ | refine w_exitL ?_ | refine w_retS ?_ | refine w_retB ?_ | refine w_retL ?_ | refine w_condT (by simp (disch := omega) only [go_sem, p1, p5, hb]; with_reducible rfl) (by with_reducible rfl) ?_ | refine w_condF (by simp (disch := omega) only [go_sem, p1, p5, hb]; with_reducible rfl) (by with_reducible rfl) ?_ | fail))
    (first | refine w_fini ?_ | refine w_finiN ?_); simp (disch := omega) only [go_sem]
  · have hb : (decide (x < 0) == decide (y < 0)) = false := beq_eq_false_iff_ne.2 h
    have hc := cmp_lim true true x.natAbs y.natAbs (by omega) (by omega)
    by_cases hge : y.natAbs ≤ x.natAbs
    · have hs : 0 ≤ (((x.natAbs : Nat) : Int) - (y.natAbs : Nat)).sign := sign_ge (by omega)
      have h0 : 0 < (ql x.natAbs).length := by
        rcases Nat.eq_zero_or_pos (ql x.natAbs).length with h1 | h1
        · have h2 := ql_nil.1 (List.length_eq_zero_iff.1 h1)
          have h3 : x = 0 := by omega
          have h4 : y = 0 := by omega
          subst h3; subst h4; simp at h
        · exact h1
      obtain ⟨l, p1, p2, p3, p4⟩ := less_ex true true (ql x.natAbs) (ql y.natAbs) h0 (dig_len_mono (by omega) hge) (by omega) ia ib (by rw [va, vb]; omega)
      have e1 : sg (decide (x < 0)) (val 4294967296 l) = x + y := by
        rw [p3, va, vb]
        by_cases h1 : x < 0 <;> by_cases h2 : y < 0 <;> simp [h1, h2] at h <;> simp [sg, h1] <;> omega
      have p5 := made_lim (decide (x < 0)) false l (by omega) p2
      rw [e1] at p5
      generalize decide (x < 0) = u at *
      generalize decide (y < 0) = v at *
      (repeat (first | refine w_seq ?_ | refine w_block ?_ | refine w_regS (by simp (disch := omega) only [go_sem, p1, p5, hb, hc]; with_reducible rfl) ?_ | refine w_reg (by simp (disch := omega) only [go_sem, p1, p5, hb, hc]; with_reducible rfl) ?_ | refine w_skipS ?_ | refine w_skipB ?_ | refine w_exitS ?_ | refine w_exitB ?_ | refine w_exitN rfl ?_ | refine w_exitL ?_ | refine w_retS ?_ | refine w_retB ?_ | refine w_retL ?_ | refine w_condT (by simp (disch := omega) only [go_sem, p1, p5, hb, hc]; with_reducible rfl) (by with_reducible rfl) ?_ | refine w_condF (by simp (disch := omega) only [go_sem, p1, p5, hb, hc]; with_reducible rfl) (by with_reducible rfl) ?_ | fail))
      (first | refine w_fini ?_ | refine w_finiN ?_); simp (disch := omega) only [go_sem]
    · have hs : (((x.natAbs : Nat) : Int) - (y.natAbs : Nat)).sign < 0 := sign_lt (by omega)
      have h0 : 0 < (ql y.natAbs).length := by
        rcases Nat.eq_zero_or_pos (ql y.natAbs).length with h1 | h1
        · have h2 := ql_nil.1 (List.length_eq_zero_iff.1 h1)
          omega
        · exact h1
      obtain ⟨l, p1, p2, p3, p4⟩ := less_ex true true (ql y.natAbs) (ql x.natAbs) h0 (dig_len_mono (by omega) (by omega)) (by omega) ib ia (by rw [va, vb]; omega)
      have e1 : sg (decide (y < 0)) (val 4294967296 l) = x + y := by
        rw [p3, va, vb]
        by_cases h1 : x < 0 <;> by_cases h2 : y < 0 <;> simp [h1, h2] at h <;> simp [sg, h2] <;> omega
      have p5 := made_lim (decide (y < 0)) false l (by omega) p2
      rw [e1] at p5
      generalize decide (x < 0) = u at *
      generalize decide (y < 0) = v at *
      (repeat (first | refine w_seq ?_ | refine w_block ?_ | refine w_regS (by simp (disch := omega) only [go_sem, p1, p5, hb, hc]; with_reducible rfl) ?_ | refine w_reg (by simp (disch := omega) only [go_sem, p1, p5, hb, hc]; with_reducible rfl) ?_ | refine w_skipS ?_ | refine w_skipB ?_ | refine w_exitS ?_ | refine w_exitB ?_ | refine w_exitN rfl ?_ | refine w_exitL ?_ | refine w_retS ?_ | refine w_retB ?_ | refine w_retL ?_ | refine w_condT (by simp (disch := omega) only [go_sem, p1, p5, hb, hc]; with_reducible rfl) (by with_reducible rfl) ?_ | refine w_condF (by simp (disch := omega) only [go_sem, p1, p5, hb, hc]; with_reducible rfl) (by with_reducible rfl) ?_ | fail))
      (first | refine w_fini ?_ | refine w_finiN ?_); simp (disch := omega) only [go_sem]
attribute [go_sem] add_lim

theorem neg_lim' (x : Int) (hx : sz x ≤ 1099511627776) : lim tab F_long_Int_Neg [Z x] none = some ⟨[Z (-x)], [], none⟩ := neg_lim x hx
attribute [go_sem] neg_lim' sign_lim of_lim sz_neg

theorem sub_lim (x y : Int) (hx : sz x ≤ 1099511627775) (hy : sz y ≤ 1099511627775) : lim tab F_long_Int_Sub [Z x, Z y] none = some ⟨[Z (x - y)], [], none⟩ := by
  refine runs_w rfl rfl ?_
  have hy' : sz (-y) ≤ 1099511627775 := by rw [sz_neg]; exact hy
  (repeat (first | refine w_seq ?_ | refine w_block ?_ | refine w_regS (by simp (disch := omega) only [go_sem]; with_reducible rfl) ?_ | refine w_reg (by simp (disch := omega) only [go_sem]; with_reducible rfl) ?_ | refine w_skipS ?_ | refine w_skipB ?_ | refine w_exitS ?_ | refine w_exitB ?_ | refine w_exitN rfl ?_ | refine w_exitL ?_ | refine w_retS ?_ | refine w_retB ?_ | refine w_retL ?_ | refine w_condT (by simp (disch := omega) only [go_sem]; with_reducible rfl) (by with_reducible rfl) ?_ | refine w_condF (by simp (disch := omega) only [go_sem]; with_reducible rfl) (by with_reducible rfl) ?_ | fail))
  (first | refine w_fini ?_ | refine w_finiN ?_); simp (disch := omega) only [go_sem]
  rw [Int.sub_eq_add_neg]
attribute [go_sem] sub_lim

theorem cmp_lim' (x y : Int) (hx : sz x ≤ 1099511627775) (hy : sz y ≤ 1099511627775) : lim tab F_long_Int_Cmp [Z x, Z y] none = some ⟨[.int .i64 (x - y).sign], [], none⟩ := by
  refine runs_w rfl rfl ?_
  (repeat (first | refine w_seq ?_ | refine w_block ?_ | refine w_regS (by simp (disch := omega) only [go_sem]; with_reducible rfl) ?_ | refine w_reg (by simp (disch := omega) only [go_sem]; with_reducible rfl) ?_ | refine w_skipS ?_ | refine w_skipB ?_ | refine w_exitS ?_ | refine w_exitB ?_ | refine w_exitN rfl ?_ | refine w_exitL ?_ | refine w_retS ?_ | refine w_retB ?_ | refine w_retL ?_ | refine w_condT (by simp (disch := omega) only [go_sem]; with_reducible rfl) (by with_reducible rfl) ?_ | refine w_condF (by simp (disch := omega) only [go_sem]; with_reducible rfl) (by with_reducible rfl) ?_ | fail))
  (first | refine w_fini ?_ | refine w_finiN ?_); simp (disch := omega) only [go_sem]
attribute [go_sem] cmp_lim'
end Go.Proofs.Ytbdknlejnacmgaa.Pi.W
end

section
/-
  Package long on our machine: Mul.
-/
namespace Go.Proofs.Ytbdknlejnacmgaa.Pi.W
open Go Num
set_option linter.unusedVariables false
set_option linter.unusedSimpArgs false
set_option maxRecDepth 100000

theorem mul_step {B x y o q : Int} (hB : B = 4294967296) (hx : 0 ≤ x ∧ x < B) (hy : 0 ≤ y ∧ y < B) : 0 ≤ x * y ∧ x * y ≤ 18446744065119617025 := by
  subst hB
  refine ⟨Int.mul_nonneg hx.1 hy.1, ?_⟩
  have := Int.mul_le_mul (show x ≤ 4294967295 by omega) (show y ≤ 4294967295 by omega) hy.1 (by omega)
  omega

/-- The inner rounds. -/
theorem mul_inner (u v : Bool) (a b out : List Int) (i : Nat) (x : Int) (g : Nat) (Q : PEx → St → Prop) (hi : i < a.length) (ha : a.length ≤ 549755813887) (hb : b.length ≤ 549755813887) (hx : 0 ≤ x ∧ x < 4294967296) (ib : In 4294967296 b) (io : In 4294967296 out) (hl : out.length = a.length + b.length + 1)
    (hQ : ∀ out' o g', out'.length = a.length + b.length + 1 → In 4294967296 out' → 0 ≤ o → o < 4294967296 → out'.drop (i + b.length) = out.drop (i + b.length) → val 4294967296 out' + 4294967296 ^ (i + b.length) * o = val 4294967296 out + 4294967296 ^ i * x * val 4294967296 b →
      Wp tab .skip ⟨[(2, .optr ⟨3, 1, 0⟩ 0 0), (3, .optr ⟨4, 1, 0⟩ 0 0), (4, .optr ⟨5, 1, 0⟩ 0 0), (5, .own ⟨20, 2, 0⟩ 1 0 (a.length + b.length + 1)), (6, .int .i64 i), (7, .int .u32 x), (8, .int .u64 o), (21, sl u32c true a), (22, .int .i64 a.length), (23, .int .i64 i), (29, sl u32c true b), (30, .int .i64 b.length), (31, .int .i64 b.length), (32, .bool false)], [⟨3, 1, false, [⟨[[.bool u, sl u32c true a]], true⟩]⟩, ⟨4, 1, false, [⟨[[.bool v, sl u32c true b]], true⟩]⟩, ⟨5, 1, false, [⟨[[.bool false, .nil0]], true⟩]⟩, ⟨20, 2, false, [⟨out'.map u32c, true⟩]⟩], [], g'⟩ Q) :
    Wp tab (.loop B_long_Int_Mul_1) ⟨[(2, .optr ⟨3, 1, 0⟩ 0 0), (3, .optr ⟨4, 1, 0⟩ 0 0), (4, .optr ⟨5, 1, 0⟩ 0 0), (5, .own ⟨20, 2, 0⟩ 1 0 (a.length + b.length + 1)), (6, .int .i64 i), (7, .int .u32 x), (8, .int .u64 0), (21, sl u32c true a), (22, .int .i64 a.length), (23, .int .i64 i), (29, sl u32c true b), (30, .int .i64 b.length), (31, .int .i64 0)], [⟨3, 1, false, [⟨[[.bool u, sl u32c true a]], true⟩]⟩, ⟨4, 1, false, [⟨[[.bool v, sl u32c true b]], true⟩]⟩, ⟨5, 1, false, [⟨[[.bool false, .nil0]], true⟩]⟩, ⟨20, 2, false, [⟨out.map u32c, true⟩]⟩], [], g⟩ (kB 2 Q) := by
  refine w_loop (fun m s => ∃ k o out' g', k + m = b.length ∧ out'.length = a.length + b.length + 1 ∧ In 4294967296 out' ∧ 0 ≤ o ∧ o < 4294967296 ∧ out'.drop (i + k) = out.drop (i + k) ∧ val 4294967296 out' + 4294967296 ^ (i + k) * o = val 4294967296 out + 4294967296 ^ i * x * val 4294967296 (b.take k) ∧
    s = ⟨[(2, .optr ⟨3, 1, 0⟩ 0 0), (3, .optr ⟨4, 1, 0⟩ 0 0), (4, .optr ⟨5, 1, 0⟩ 0 0), (5, .own ⟨20, 2, 0⟩ 1 0 (a.length + b.length + 1)), (6, .int .i64 i), (7, .int .u32 x), (8, .int .u64 o), (21, sl u32c true a), (22, .int .i64 a.length), (23, .int .i64 i), (29, sl u32c true b), (30, .int .i64 b.length), (31, .int .i64 (k : Nat))], [⟨3, 1, false, [⟨[[.bool u, sl u32c true a]], true⟩]⟩, ⟨4, 1, false, [⟨[[.bool v, sl u32c true b]], true⟩]⟩, ⟨5, 1, false, [⟨[[.bool false, .nil0]], true⟩]⟩, ⟨20, 2, false, [⟨out'.map u32c, true⟩]⟩], [], g'⟩) b.length ?_ ?_
  · exact ⟨0, 0, out, _, by omega, hl, io, by omega, by omega, rfl, by simp [val], rfl⟩
  · rintro m s ⟨k, o, out', g', h1, h2, h3, h4, h5, h6, h7, rfl⟩
    by_cases hk : k < b.length
    · have hy := ib.get hk
      have hy' : b[k]? = some b[k] := List.getElem?_eq_getElem hk
      have hw := val_take 4294967296 hk
      have hik : i + k < out'.length := by omega
      have ho := h3.get hik
      have ho' : out'[i + k]? = some out'[i + k] := List.getElem?_eq_getElem hik
      have hs := val_set 4294967296 hik
      generalize b[k] = y at *
      generalize out'[i + k] = w at *
      have hm := mul_step (o := 0) (q := 0) rfl hx hy
      (repeat (first | refine w_seq ?_ | refine w_block ?_ | refine w_regS (by simp (disch := omega) only [go_sem, hy', ho']; with_reducible rfl) ?_ | refine w_reg (by simp (disch := omega) only [go_sem, hy', ho']; with_reducible rfl) ?_ | refine w_skipS ?_ | refine w_skipB ?_ | refine w_exitS ?_ | refine w_exitB ?_ | refine w_exitN rfl ?_ | refine w_exitL ?_ | refine w_retS ?_ | refine w_retB ?_ | refine w_retL ?_ | refine w_condT (by simp (disch := omega) only [go_sem, hy', ho']; with_reducible rfl) (by with_reducible rfl) ?_ | refine w_condF (by simp (disch := omega) only [go_sem, hy', ho']; with_reducible rfl) (by with_reducible rfl) ?_ | fail))
      refine w_skipL ⟨m - 1, by omega, k + 1, (o + (x * y + w)) / 4294967296, out'.set (i + k) ((o + (x * y + w)) % 4294967296), _, by omega, by simp; omega, h3.set (by omega), by omega, by omega, ?_, ?_, rfl⟩
      · rw [List.drop_set_of_lt (by omega), ← Nat.add_assoc, ← List.drop_drop, h6, List.drop_drop]
      · rw [hs, hw, ← Nat.add_assoc, Int.pow_succ, Int.mul_assoc]
        have e : o + x * y = ((o + (x * y + w)) % 4294967296 - w) + 4294967296 * ((o + (x * y + w)) / 4294967296) := by omega
        have e2 : (4294967296 : Int) ^ (i + k) * _ = 4294967296 ^ (i + k) * _ := congrArg _ e
        rw [Int.mul_add, Int.mul_add] at e2
        have e3 : (4294967296 : Int) ^ (i + k) * (x * y) = 4294967296 ^ i * x * (4294967296 ^ k * y) := by rw [Int.pow_add]; ac_rfl
        rw [Int.mul_add]
        omega
    · obtain rfl : k = b.length := by omega
      rw [List.take_length] at h7
      (repeat (first | refine w_seq ?_ | refine w_block ?_ | refine w_regS (by simp (disch := omega) only [go_sem]; with_reducible rfl) ?_ | refine w_reg (by simp (disch := omega) only [go_sem]; with_reducible rfl) ?_ | refine w_skipS ?_ | refine w_skipB ?_ | refine w_exitS ?_ | refine w_exitB ?_ | refine w_exitN rfl ?_ | refine w_exitL ?_ | refine w_retS ?_ | refine w_retB ?_ | refine w_retL ?_ | refine w_condT (by simp (disch := omega) only [go_sem]; with_reducible rfl) (by with_reducible rfl) ?_ | refine w_condF (by simp (disch := omega) only [go_sem]; with_reducible rfl) (by with_reducible rfl) ?_ | fail))
      exact hQ out' o _ h2 h3 h4 h5 h6 h7

section
attribute [local irreducible] B_long_Int_Mul_1
theorem mul_lim (x y : Int) (hx : sz x ≤ 549755813887) (hy : sz y ≤ 549755813887) : lim tab F_long_Int_Mul [Z x, Z y] none = some ⟨[Z (x * y)], [], none⟩ := by
  have ea : Z x = .agg [.bool (decide (x < 0)), sl u32c true (ql x.natAbs)] := rfl
  have eb : Z y = .agg [.bool (decide (y < 0)), sl u32c true (ql y.natAbs)] := rfl
  have hx' : (ql x.natAbs).length ≤ 549755813887 := hx
  have hy' : (ql y.natAbs).length ≤ 549755813887 := hy
  have ia := In_ql x.natAbs
  have ib := In_ql y.natAbs
  have hsg : ∀ z : Int, z = val 4294967296 (ql x.natAbs) * val 4294967296 (ql y.natAbs) → sg (!(decide (x < 0) == decide (y < 0))) z = x * y := by
    intro z hz
    rw [hz, val_ql, val_ql]
    by_cases h1 : x < 0 <;> by_cases h2 : y < 0
    · have e1 : ((x.natAbs : Nat) : Int) = -x := by omega
      have e2 : ((y.natAbs : Nat) : Int) = -y := by omega
      simp [h1, h2, sg, e1, e2, Int.neg_mul, Int.mul_neg]
    · have e1 : ((x.natAbs : Nat) : Int) = -x := by omega
      have e2 : ((y.natAbs : Nat) : Int) = y := by omega
      simp [h1, h2, sg, e1, e2, Int.neg_mul, Int.mul_neg]
    · have e1 : ((x.natAbs : Nat) : Int) = x := by omega
      have e2 : ((y.natAbs : Nat) : Int) = -y := by omega
      simp [h1, h2, sg, e1, e2, Int.neg_mul, Int.mul_neg]
    · have e1 : ((x.natAbs : Nat) : Int) = x := by omega
      have e2 : ((y.natAbs : Nat) : Int) = y := by omega
      simp [h1, h2, sg, e1, e2, Int.neg_mul, Int.mul_neg]
  rw [ea, eb]
  refine runs_w rfl rfl ?_
  generalize ql x.natAbs = a at *
  generalize ql y.natAbs = b at *
  generalize decide (x < 0) = u at *
  generalize decide (y < 0) = v at *
  (repeat (first | refine w_seq ?_ | refine w_block ?_ | refine w_regS (by simp (disch := omega) only [go_sem]; with_reducible rfl) ?_ | refine w_reg (by simp (disch := omega) only [go_sem]; with_reducible rfl) ?_ | refine w_skipS ?_ | refine w_skipB ?_ | refine w_exitS ?_ | refine w_exitB ?_ | refine w_exitN rfl ?_ | refine w_exitL ?_ | refine w_retS ?_ | refine w_retB ?_ | refine w_retL ?_ | refine w_condT (by simp (disch := omega) only [go_sem]; with_reducible rfl) (by with_reducible rfl) ?_ | refine w_condF (by simp (disch := omega) only [go_sem]; with_reducible rfl) (by with_reducible rfl) ?_ | fail))
  refine w_loop (fun m s => ∃ i out g', i + m = a.length ∧ out.length = a.length + b.length + 1 ∧ In 4294967296 out ∧ (∀ j, i + b.length ≤ j → j < out.length → out[j]? = some 0) ∧ val 4294967296 out = val 4294967296 (a.take i) * val 4294967296 b ∧
    s = ⟨[(2, .optr ⟨3, 1, 0⟩ 0 0), (3, .optr ⟨4, 1, 0⟩ 0 0), (4, .optr ⟨5, 1, 0⟩ 0 0), (5, .own ⟨20, 2, 0⟩ 1 0 (a.length + b.length + 1)), (21, sl u32c true a), (22, .int .i64 a.length), (23, .int .i64 (i : Nat))], [⟨3, 1, false, [⟨[[.bool u, sl u32c true a]], true⟩]⟩, ⟨4, 1, false, [⟨[[.bool v, sl u32c true b]], true⟩]⟩, ⟨5, 1, false, [⟨[[.bool false, .nil0]], true⟩]⟩, ⟨20, 2, false, [⟨out.map u32c, true⟩]⟩], [], g'⟩) a.length ?_ ?_
  · exact ⟨0, List.replicate (a.length + b.length + 1) 0, _, by omega, by simp, In.zeros (by omega) _, fun j h1 h2 => by rw [List.getElem?_replicate, if_pos (by simpa using h2)], by rw [val_zeros]; simp [val], rfl⟩
  · rintro m s ⟨i, out, g', h1, h2, h3, h4, h5, rfl⟩
    by_cases hi : i < a.length
    · have hw := ia.get hi
      have hw' : a[i]? = some a[i] := List.getElem?_eq_getElem hi
      have hv := val_take 4294967296 hi
      generalize a[i] = w at *
      (repeat (first | refine w_seq ?_ | refine w_block ?_ | refine w_regS (by simp (disch := omega) only [go_sem, hw']; with_reducible rfl) ?_ | refine w_reg (by simp (disch := omega) only [go_sem, hw']; with_reducible rfl) ?_ | refine w_skipS ?_ | refine w_skipB ?_ | refine w_exitS ?_ | refine w_exitB ?_ | refine w_exitN rfl ?_ | refine w_exitL ?_ | refine w_retS ?_ | refine w_retB ?_ | refine w_retL ?_ | refine w_condT (by simp (disch := omega) only [go_sem, hw']; with_reducible rfl) (by with_reducible rfl) ?_ | refine w_condF (by simp (disch := omega) only [go_sem, hw']; with_reducible rfl) (by with_reducible rfl) ?_ | fail))
      refine mul_inner u v a b out i w _ _ hi hx' hy' hw ib h3 h2 fun out' o g2 q1 q2 q3 q4 q5 q6 => ?_
      have hj : i + b.length < out'.length := by omega
      have hj' : out'[i + b.length]? = some out'[i + b.length] := List.getElem?_eq_getElem hj
      (repeat (first | refine w_seq ?_ | refine w_block ?_ | refine w_regS (by simp (disch := omega) only [go_sem, hj']; with_reducible rfl) ?_ | refine w_reg (by simp (disch := omega) only [go_sem, hj']; with_reducible rfl) ?_ | refine w_skipS ?_ | refine w_skipB ?_ | refine w_exitS ?_ | refine w_exitB ?_ | refine w_exitN rfl ?_ | refine w_exitL ?_ | refine w_retS ?_ | refine w_retB ?_ | refine w_retL ?_ | refine w_condT (by simp (disch := omega) only [go_sem, hj']; with_reducible rfl) (by with_reducible rfl) ?_ | refine w_condF (by simp (disch := omega) only [go_sem, hj']; with_reducible rfl) (by with_reducible rfl) ?_ | fail))
      have hz : out'[i + b.length] = 0 := by
        have e1 : (out'.drop (i + b.length))[0]? = (out.drop (i + b.length))[0]? := by rw [q5]
        rw [List.getElem?_drop, List.getElem?_drop, Nat.add_zero, h4 _ (by omega) (by omega), List.getElem?_eq_getElem hj] at e1
        exact Option.some.inj e1
      refine w_skipL ⟨m - 1, by omega, i + 1, out'.set (i + b.length) o, _, by omega, by simp; omega, In.set (v := o) q2 ⟨q3, q4⟩, fun j r1 r2 => ?_, ?_, rfl⟩
      · rw [List.length_set] at r2
        rw [List.getElem?_set_ne (by omega)]
        have e1 : (out'.drop (i + b.length))[j - (i + b.length)]? = (out.drop (i + b.length))[j - (i + b.length)]? := by rw [q5]
        rw [List.getElem?_drop, List.getElem?_drop, show i + b.length + (j - (i + b.length)) = j by omega] at e1
        rw [e1]
        exact h4 j (by omega) (by omega)
      · rw [val_set _ hj, hz, hv, Int.add_mul, ← h5, Int.sub_zero, q6]
    · obtain rfl : i = a.length := by omega
      rw [List.take_length] at h5
      have p5 := made_lim (!(u == v)) false out (by omega) h3
      rw [hsg _ h5] at p5
      have hq : out.take (a.length + b.length + 1) = out := List.take_of_length_le (by omega)
      (repeat (first | refine w_seq ?_ | refine w_block ?_ | refine w_regS (by simp (disch := omega) only [go_sem, p5, hq]; with_reducible rfl) ?_ | refine w_reg (by simp (disch := omega) only [go_sem, p5, hq]; with_reducible rfl) ?_ | refine w_skipS ?_ | refine w_skipB ?_ | refine w_exitS ?_ | refine w_exitB ?_ | refine w_exitN rfl ?_ | refine w_exitL ?_ | refine w_retS ?_ | refine w_retB ?_ | refine w_retL ?_ | refine w_condT (by simp (disch := omega) only [go_sem, p5, hq]; with_reducible rfl) (by with_reducible rfl) ?_ | refine w_condF (by simp (disch := omega) only [go_sem, p5, hq]; with_reducible rfl) (by with_reducible rfl) ?_ | fail))
      (first | refine w_fini ?_ | refine w_finiN ?_); simp (disch := omega) only [go_sem]
end
attribute [go_sem] mul_lim
end Go.Proofs.Ytbdknlejnacmgaa.Pi.W
end

section
/-
  Package long on our machine: leading zeros, shifted, by.
-/
namespace Go.Proofs.Ytbdknlejnacmgaa.Pi.W
open Go Num
set_option linter.unusedVariables false
set_option linter.unusedSimpArgs false
set_option maxRecDepth 100000

def len8 : List Nat := K_math_bits_Len32_0
theorem len8_at : ∀ y : Fin 256, y.1 < 2 ^ (len8[y.1]?).getD 0 ∧ (len8[y.1]?).getD 0 ≤ 8 ∧ (1 ≤ y.1 → 1 ≤ (len8[y.1]?).getD 0) ∧ (len8[y.1]?) = some ((len8[y.1]?).getD 0) := by decide +kernel

/-- The last step: a table of bytes. -/
theorem len32_tail (k : Nat) (y : Nat) (t : List (Nat × PV)) (g : Nat) (P : Ret → Prop) (hy : y < 256) (hk : k ≤ 24) (ht : rget t 0 = .int .u32 y ∧ rget t 2 = .int .i64 k)
    (hP : P ⟨[.int .i64 ((k + (len8[y]?).getD 0 : Nat) : Int)], [], none⟩) : Wp tab T_math_bits_Len32_0 ⟨t, [], [], g⟩ (kE [.tmp 2] false none P) := by
  obtain ⟨h1, h2, h3, h4⟩ := len8_at ⟨y, hy⟩
  generalize ((len8[y]?).getD 0) = v at *
  change (K_math_bits_Len32_0[y]?) = _ at h4
  (repeat (first | refine w_seq ?_ | refine w_block ?_ | refine w_regS (by simp (disch := omega) only [go_sem, ht.1, ht.2, h4, Option.map_some]; with_reducible rfl) ?_ | refine w_reg (by simp (disch := omega) only [go_sem, ht.1, ht.2, h4, Option.map_some]; with_reducible rfl) ?_ | refine w_skipS ?_ | refine w_skipB ?_ | refine w_exitS ?_ | refine w_exitB ?_ | refine w_exitN rfl ?_ | refine w_exitL ?_ | refine w_retS ?_ | refine w_retB ?_ | refine w_retL ?_ | refine w_condT (by simp (disch := omega) only [go_sem, ht.1, ht.2, h4, Option.map_some]; with_reducible rfl) (by with_reducible rfl) ?_ | refine w_condF (by simp (disch := omega) only [go_sem, ht.1, ht.2, h4, Option.map_some]; with_reducible rfl) (by with_reducible rfl) ?_ | fail))
  refine w_exi (by simp (disch := omega) only [go_sem]; with_reducible rfl) ?_
  exact hP

section
attribute [local irreducible] T_math_bits_Len32_0
theorem len32_ex (x : Nat) (h0 : 0 < x) (h1 : x < 4294967296) : ∃ k : Nat, lim tab F_math_bits_Len32 [.int .u32 (x : Int)] none = some ⟨[.int .i64 (k : Int)], [], none⟩ ∧ 1 ≤ k ∧ k ≤ 32 ∧ x < 2 ^ k := by
  obtain ⟨r, e, k, rfl, h⟩ : ∃ r, lim tab F_math_bits_Len32 [.int .u32 (x : Int)] none = some r ∧ ∃ k : Nat, r = ⟨[.int .i64 (k : Int)], [], none⟩ ∧ 1 ≤ k ∧ k ≤ 32 ∧ x < 2 ^ k := by
    refine runs_ex rfl rfl ?_
    by_cases c1 : 65536 ≤ x
    · have e1 : (x : Int) / 65536 = ((x / 65536 : Nat) : Int) := by omega
      by_cases c2 : 256 ≤ x / 65536
      · have e2 : ((x / 65536 : Nat) : Int) / 256 = ((x / 65536 / 256 : Nat) : Int) := by omega
        have hy : x / 65536 / 256 < 256 := by omega
        (repeat (first | refine w_seq ?_ | refine w_block ?_ | refine w_regS (by simp (disch := omega) only [go_sem, e1, e2]; with_reducible rfl) ?_ | refine w_reg (by simp (disch := omega) only [go_sem, e1, e2]; with_reducible rfl) ?_ | refine w_skipS ?_ | refine w_skipB ?_ | refine w_exitS ?_ | refine w_exitB ?_ | refine w_exitN rfl ?_ | refine w_exitL ?_ | refine w_retS ?_ | refine w_retB ?_ | refine w_retL ?_ | refine w_condT (by simp (disch := omega) only [go_sem, e1, e2]; with_reducible rfl) (by with_reducible rfl) ?_ | refine w_condF (by simp (disch := omega) only [go_sem, e1, e2]; with_reducible rfl) (by with_reducible rfl) ?_ | fail))
        refine len32_tail 24 (x / 65536 / 256) _ _ _ hy (by omega) ⟨rfl, rfl⟩ ?_
        obtain ⟨q1, q2, q3, _⟩ := len8_at ⟨x / 65536 / 256, hy⟩
        refine ⟨_, rfl, by omega, by simp only at q2; omega, ?_⟩
        rw [Nat.pow_add]; simp only at q1; omega
      · have hy : x / 65536 < 256 := by omega
        (repeat (first | refine w_seq ?_ | refine w_block ?_ | refine w_regS (by simp (disch := omega) only [go_sem, e1]; with_reducible rfl) ?_ | refine w_reg (by simp (disch := omega) only [go_sem, e1]; with_reducible rfl) ?_ | refine w_skipS ?_ | refine w_skipB ?_ | refine w_exitS ?_ | refine w_exitB ?_ | refine w_exitN rfl ?_ | refine w_exitL ?_ | refine w_retS ?_ | refine w_retB ?_ | refine w_retL ?_ | refine w_condT (by simp (disch := omega) only [go_sem, e1]; with_reducible rfl) (by with_reducible rfl) ?_ | refine w_condF (by simp (disch := omega) only [go_sem, e1]; with_reducible rfl) (by with_reducible rfl) ?_ | fail))
        refine len32_tail 16 (x / 65536) _ _ _ hy (by omega) ⟨rfl, rfl⟩ ?_
        obtain ⟨q1, q2, q3, _⟩ := len8_at ⟨x / 65536, hy⟩
        refine ⟨_, rfl, by omega, by simp only at q2; omega, ?_⟩
        rw [Nat.pow_add]; simp only at q1; omega
    · by_cases c2 : 256 ≤ x
      · have e2 : (x : Int) / 256 = ((x / 256 : Nat) : Int) := by omega
        have hy : x / 256 < 256 := by omega
        (repeat (first | refine w_seq ?_ | refine w_block ?_ | refine w_regS (by simp (disch := omega) only [go_sem, e2]; with_reducible rfl) ?_ | refine w_reg (by simp (disch := omega) only [go_sem, e2]; with_reducible rfl) ?_ | refine w_skipS ?_ | refine w_skipB ?_ | refine w_exitS ?_ | refine w_exitB ?_ | refine w_exitN rfl ?_ | refine w_exitL ?_ | refine w_retS ?_ | refine w_retB ?_ | refine w_retL ?_ | refine w_condT (by simp (disch := omega) only [go_sem, e2]; with_reducible rfl) (by with_reducible rfl) ?_ | refine w_condF (by simp (disch := omega) only [go_sem, e2]; with_reducible rfl) (by with_reducible rfl) ?_ | fail))
        refine len32_tail 8 (x / 256) _ _ _ hy (by omega) ⟨rfl, rfl⟩ ?_
        obtain ⟨q1, q2, q3, _⟩ := len8_at ⟨x / 256, hy⟩
        refine ⟨_, rfl, by omega, by simp only at q2; omega, ?_⟩
        rw [Nat.pow_add]; simp only at q1; omega
      · have hy : x < 256 := by omega
        (repeat (first | refine w_seq ?_ | refine w_block ?_ | refine w_regS (by simp (disch := omega) only [go_sem]; with_reducible rfl) ?_ | refine w_reg (by simp (disch := omega) only [go_sem]; with_reducible rfl) ?_ | refine w_skipS ?_ | refine w_skipB ?_ | refine w_exitS ?_ | refine w_exitB ?_ | refine w_exitN rfl ?_ | refine w_exitL ?_ | refine w_retS ?_ | refine w_retB ?_ | refine w_retL ?_ | refine w_condT (by simp (disch := omega) only [go_sem]; with_reducible rfl) (by with_reducible rfl) ?_ | refine w_condF (by simp (disch := omega) only [go_sem]; with_reducible rfl) (by with_reducible rfl) ?_ | fail))
        refine len32_tail 0 x _ _ _ hy (by omega) ⟨rfl, rfl⟩ ?_
        obtain ⟨q1, q2, q3, _⟩ := len8_at ⟨x, hy⟩
        refine ⟨_, rfl, by have := q3 h0; simp only at this; omega, by simp only at q2; omega, ?_⟩
        rw [Nat.zero_add]; exact q1
  exact ⟨k, e, h⟩
end

theorem lz32_ex (x : Int) (h0 : 0 < x) (h1 : x < 4294967296) : ∃ n : Nat, lim tab F_math_bits_LeadingZeros32 [.int .u32 x] none = some ⟨[.int .i64 (n : Int)], [], none⟩ ∧ n ≤ 31 ∧ x * 2 ^ n < 4294967296 := by
  obtain ⟨y, rfl⟩ := Int.eq_ofNat_of_zero_le (Int.le_of_lt h0)
  obtain ⟨k, e, h2, h3, h4⟩ := len32_ex y (by omega) (by omega)
  refine ⟨32 - k, runs_w rfl rfl ?_, by omega, ?_⟩
  · have e2 : IntKind.i64.wrap (32 - (k : Int)) = ((32 - k : Nat) : Int) := by rw [wrap_i64] <;> omega
    (repeat (first | refine w_seq ?_ | refine w_block ?_ | refine w_regS (by simp (disch := omega) only [go_sem, e, e2]; with_reducible rfl) ?_ | refine w_reg (by simp (disch := omega) only [go_sem, e, e2]; with_reducible rfl) ?_ | refine w_skipS ?_ | refine w_skipB ?_ | refine w_exitS ?_ | refine w_exitB ?_ | refine w_exitN rfl ?_ | refine w_exitL ?_ | refine w_retS ?_ | refine w_retB ?_ | refine w_retL ?_ | refine w_condT (by simp (disch := omega) only [go_sem, e, e2]; with_reducible rfl) (by with_reducible rfl) ?_ | refine w_condF (by simp (disch := omega) only [go_sem, e, e2]; with_reducible rfl) (by with_reducible rfl) ?_ | fail))
    (first | refine w_fini ?_ | refine w_finiN ?_); simp (disch := omega) only [go_sem]
  · have : y * 2 ^ (32 - k) < 2 ^ k * 2 ^ (32 - k) := Nat.mul_lt_mul_of_pos_right h4 (Nat.pow_pos (by omega))
    rw [← Nat.pow_add, show k + (32 - k) = 32 by omega] at this
    have h5 : ((y * 2 ^ (32 - k) : Nat) : Int) < ((2 ^ 32 : Nat) : Int) := by omega
    rw [Int.natCast_mul, Int.natCast_pow] at h5
    exact h5
end Go.Proofs.Ytbdknlejnacmgaa.Pi.W
end

section
/-
  Package long on our machine: by, shifted.
-/
namespace Go.Proofs.Ytbdknlejnacmgaa.Pi.W
open Go Num
set_option linter.unusedVariables false
set_option linter.unusedSimpArgs false
set_option maxRecDepth 100000

theorem by_ex (e : Bool) (a : List Int) (d : Int) (hd : 0 < d ∧ d < 4294967296) (ha : a.length ≤ 1099511627776) (ia : In 4294967296 a) :
    ∃ q r, lim tab F_long_by [sl u32c e a, .int .u32 d] none = some ⟨[sl u32c false q, .int .u32 r], [], none⟩ ∧ In 4294967296 q ∧ q.length = a.length ∧ val 4294967296 a = val 4294967296 q * d + r ∧ 0 ≤ r ∧ r < d := by
  obtain ⟨r, h1, q, y, rfl, h⟩ : ∃ r, lim tab F_long_by [sl u32c e a, .int .u32 d] none = some r ∧ ∃ q y, r = ⟨[sl u32c false q, .int .u32 y], [], none⟩ ∧ In 4294967296 q ∧ q.length = a.length ∧ val 4294967296 a = val 4294967296 q * d + y ∧ 0 ≤ y ∧ y < d := by
    refine runs_ex rfl rfl ?_
    (repeat (first | refine w_seq ?_ | refine w_block ?_ | refine w_regS (by simp (disch := omega) only [go_sem]; with_reducible rfl) ?_ | refine w_reg (by simp (disch := omega) only [go_sem]; with_reducible rfl) ?_ | refine w_skipS ?_ | refine w_skipB ?_ | refine w_exitS ?_ | refine w_exitB ?_ | refine w_exitN rfl ?_ | refine w_exitL ?_ | refine w_retS ?_ | refine w_retB ?_ | refine w_retL ?_ | refine w_condT (by simp (disch := omega) only [go_sem]; with_reducible rfl) (by with_reducible rfl) ?_ | refine w_condF (by simp (disch := omega) only [go_sem]; with_reducible rfl) (by with_reducible rfl) ?_ | fail))
    refine w_loop (fun m s => ∃ done z o g', m ≤ a.length ∧ done.length + m = a.length ∧ In 4294967296 done ∧ 0 ≤ o ∧ o < d ∧ val 4294967296 (a.drop m) = val 4294967296 done * d + o ∧ z = (m : Int) - 1 ∧
      s = ⟨[(0, sl u32c e a), (1, .int .u32 d), (6, .own ⟨12, 2, 0⟩ 1 0 a.length), (7, .int .u64 o), (8, .int .i64 z)], [⟨12, 2, false, [⟨(List.replicate m 0 ++ done).map u32c, true⟩]⟩], [], g'⟩) a.length ?_ ?_
    · exact ⟨[], _, 0, _, Nat.le_refl _, by simp, .nil, by omega, by omega, by simp [val], rfl, by rw [List.append_nil]⟩
    · rintro m s ⟨done, z, o, g', h1, h2, h3, h4, h5, h6, hz, rfl⟩
      cases m with
      | zero =>
        have hq : done.take a.length = done := List.take_of_length_le (by omega)
        simp only [List.replicate_zero, List.nil_append]
        (repeat (first | refine w_seq ?_ | refine w_block ?_ | refine w_regS (by simp (disch := omega) only [go_sem, hq]; with_reducible rfl) ?_ | refine w_reg (by simp (disch := omega) only [go_sem, hq]; with_reducible rfl) ?_ | refine w_skipS ?_ | refine w_skipB ?_ | refine w_exitS ?_ | refine w_exitB ?_ | refine w_exitN rfl ?_ | refine w_exitL ?_ | refine w_retS ?_ | refine w_retB ?_ | refine w_retL ?_ | refine w_condT (by simp (disch := omega) only [go_sem, hq]; with_reducible rfl) (by with_reducible rfl) ?_ | refine w_condF (by simp (disch := omega) only [go_sem, hq]; with_reducible rfl) (by with_reducible rfl) ?_ | fail))
        refine w_exi (by simp (disch := omega) only [go_sem, hq]; with_reducible rfl) ?_
        exact ⟨done, o, rfl, h3, by omega, h6, h4, h5⟩
      | succ i =>
        obtain rfl : z = (i : Int) := by omega
        have hx := ia.get (i := i) (by omega)
        have hx' : a[i]? = some a[i] := List.getElem?_eq_getElem (by omega)
        have hdr := drop_at (l := a) (i := i) (by omega)
        generalize a[i]'(by omega) = x at *
        have e1 := or_u64 (a := o) (b := x) (n := 32) (by omega) h4 (by omega) (by omega)
        rw [show (2 : Int) ^ 32 = 4294967296 from rfl] at e1
        have b1 : 0 ≤ (o * 4294967296 + x) / d := Int.ediv_nonneg (by omega) (by omega)
        have b2 : (o * 4294967296 + x) / d < 4294967296 := Int.ediv_lt_of_lt_mul hd.1 (by omega)
        have b3 := Int.emod_nonneg (o * 4294967296 + x) (show d ≠ 0 by omega)
        have b4 := Int.emod_lt_of_pos (o * 4294967296 + x) (show 0 < d by omega)
        have b5 := Int.mul_ediv_add_emod (o * 4294967296 + x) d
        have e2 : List.replicate (i + 1) (0 : Int) ++ done = List.replicate i 0 ++ 0 :: done := by rw [List.replicate_succ', List.append_assoc]; rfl
        have e3 : i = (List.replicate i (0 : Int)).length := by simp
        rw [e2]
        have e4 : (List.replicate i 0 ++ 0 :: done)[i]? = some 0 := at_done _ _ _ _ e3
        have e5 : ∀ y, (List.replicate i 0 ++ 0 :: done).set i y = List.replicate i 0 ++ y :: done := fun y => set_done _ _ _ _ _ e3
        generalize hq : (o * 4294967296 + x) / d = qd at *
        generalize hr : (o * 4294967296 + x) % d = rd at *
        (repeat (first | refine w_seq ?_ | refine w_block ?_ | refine w_regS (by simp (disch := omega) only [go_sem, hx', e1, hq, hr, e4, e5]; with_reducible rfl) ?_ | refine w_reg (by simp (disch := omega) only [go_sem, hx', e1, hq, hr, e4, e5]; with_reducible rfl) ?_ | refine w_skipS ?_ | refine w_skipB ?_ | refine w_exitS ?_ | refine w_exitB ?_ | refine w_exitN rfl ?_ | refine w_exitL ?_ | refine w_retS ?_ | refine w_retB ?_ | refine w_retL ?_ | refine w_condT (by simp (disch := omega) only [go_sem, hx', e1, hq, hr, e4, e5]; with_reducible rfl) (by with_reducible rfl) ?_ | refine w_condF (by simp (disch := omega) only [go_sem, hx', e1, hq, hr, e4, e5]; with_reducible rfl) (by with_reducible rfl) ?_ | fail))
        refine w_skipL ⟨i, by omega, qd :: done, _, rd, _, by omega, by simp; omega, h3.cons ⟨b1, b2⟩, by omega, by omega, ?_, rfl, rfl⟩
        rw [hdr]
        simp only [val]
        rw [h6, Int.add_mul, Int.mul_add, ← Int.mul_assoc]
        rw [Int.mul_comm d qd] at b5
        omega
  exact ⟨q, y, h1, h⟩

theorem mul_mod_pow {x : Int} {n : Nat} (hn : n ≤ 32) : (x * 2 ^ n) % 4294967296 = (x % 2 ^ (32 - n)) * 2 ^ n := by
  have e : (4294967296 : Int) = 2 ^ (32 - n) * 2 ^ n := by rw [← Int.pow_add, show 32 - n + n = 32 by omega]; rfl
  rw [e, Int.mul_comm x, Int.mul_comm (2 ^ (32 - n)), Int.mul_emod_mul_of_pos _ _ (Int.pow_pos (by omega)), Int.mul_comm]
theorem low_lt {x : Int} {n : Nat} (hn : n ≤ 32) : x * 2 ^ n % 4294967296 + 2 ^ n ≤ 4294967296 := by
  rw [mul_mod_pow hn]
  have h2 := Int.emod_lt_of_pos x (show (0 : Int) < 2 ^ (32 - n) from Int.pow_pos (by omega))
  have h3 : (x % 2 ^ (32 - n) + 1) * 2 ^ n ≤ 2 ^ (32 - n) * 2 ^ n := Int.mul_le_mul_of_nonneg_right (by omega) (Int.le_of_lt (Int.pow_pos (by omega)))
  rw [← Int.pow_add, show 32 - n + n = 32 by omega, Int.add_mul, show (2 : Int) ^ 32 = 4294967296 from rfl] at h3
  omega
theorem or_low {c x : Int} {n : Nat} (hn : n ≤ 32) (hc : 0 ≤ c ∧ c < 2 ^ n) : bor .u32 c (x * 2 ^ n % 4294967296) = c + x * 2 ^ n % 4294967296 := by
  rw [bor_comm, mul_mod_pow hn]
  have h1 := Int.emod_nonneg x (show (2 : Int) ^ (32 - n) ≠ 0 from Int.ne_of_gt (Int.pow_pos (by omega)))
  have h2 := Int.emod_lt_of_pos x (show (0 : Int) < 2 ^ (32 - n) from Int.pow_pos (by omega))
  rw [or_u32 hn h1 hc, Int.add_comm]
  have h3 : (x % 2 ^ (32 - n) + 1) * 2 ^ n ≤ 2 ^ (32 - n) * 2 ^ n := Int.mul_le_mul_of_nonneg_right (by omega) (Int.le_of_lt (Int.pow_pos (by omega)))
  rw [← Int.pow_add, show 32 - n + n = 32 by omega, Int.add_mul, show (2 : Int) ^ 32 = 4294967296 from rfl] at h3
  omega
theorem or_zero {c : Int} (hc : 0 ≤ c ∧ c < 4294967296) : bor .u32 0 c = c := by
  have := or_u32 (a := 0) (b := c) (n := 32) (by omega) (by omega) (by have : (2 : Int) ^ 32 = 4294967296 := rfl; omega) (by omega)
  simpa using this

theorem shifted_ex (e : Bool) (a : List Int) (n : Nat) (hn : n ≤ 31) (ha : a.length ≤ 1099511627776) (ia : In 4294967296 a) :
    ∃ l c, lim tab F_long_shifted [sl u32c e a, .int .i64 (n : Int)] none = some ⟨[.own ⟨1, 0, 0⟩ 1 0 (a.length + 1)], [⟨(l ++ [c]).map u32c, true⟩], none⟩ ∧ In 4294967296 l ∧ l.length = a.length ∧ 0 ≤ c ∧ c < 2 ^ n ∧
      val 4294967296 l + 4294967296 ^ a.length * c = val 4294967296 a * 2 ^ n := by
  obtain ⟨r, h1, l, c, rfl, h⟩ : ∃ r, lim tab F_long_shifted [sl u32c e a, .int .i64 (n : Int)] none = some r ∧ ∃ l c, r = ⟨[.own ⟨1, 0, 0⟩ 1 0 (a.length + 1)], [⟨(l ++ [c]).map u32c, true⟩], none⟩ ∧ In 4294967296 l ∧ l.length = a.length ∧ 0 ≤ c ∧ c < 2 ^ n ∧
      val 4294967296 l + 4294967296 ^ a.length * c = val 4294967296 a * 2 ^ n := by
    have hP : (0 : Int) < 2 ^ n := Int.pow_pos (by omega)
    have hP2 : (2 : Int) ^ n ≤ 2147483648 := pow_mono (a := n) (b := 31) (by omega) hn
    refine runs_ex rfl rfl ?_
    (repeat (first | refine w_seq ?_ | refine w_block ?_ | refine w_regS (by simp (disch := omega) only [go_sem]; with_reducible rfl) ?_ | refine w_reg (by simp (disch := omega) only [go_sem]; with_reducible rfl) ?_ | refine w_skipS ?_ | refine w_skipB ?_ | refine w_exitS ?_ | refine w_exitB ?_ | refine w_exitN rfl ?_ | refine w_exitL ?_ | refine w_retS ?_ | refine w_retB ?_ | refine w_retL ?_ | refine w_condT (by simp (disch := omega) only [go_sem]; with_reducible rfl) (by with_reducible rfl) ?_ | refine w_condF (by simp (disch := omega) only [go_sem]; with_reducible rfl) (by with_reducible rfl) ?_ | fail))
    refine w_loop (fun m s => ∃ i done c g', i + m = a.length ∧ done.length = i ∧ In 4294967296 done ∧ 0 ≤ c ∧ c < 2 ^ n ∧ val 4294967296 done + 4294967296 ^ i * c = val 4294967296 (a.take i) * 2 ^ n ∧
      s = ⟨[(1, .int .i64 n), (5, .own ⟨13, 2, 0⟩ 1 0 (a.length + 1)), (13, sl u32c e a), (14, .int .i64 a.length), (15, .int .i64 (i : Nat))], [⟨13, 2, false, [⟨(done ++ c :: List.replicate m 0).map u32c, true⟩]⟩], [], g'⟩) a.length ?_ ?_
    · exact ⟨0, [], 0, _, by omega, rfl, .nil, by omega, hP, by simp [val], by rw [List.replicate_succ]; rfl⟩
    · rintro m s ⟨i, done, c, g', h1, h2, h3, h4, h5, h6, rfl⟩
      cases m with
      | zero =>
        obtain rfl : i = a.length := by omega
        rw [List.take_length] at h6
        (repeat (first | refine w_seq ?_ | refine w_block ?_ | refine w_regS (by simp (disch := omega) only [go_sem, List.replicate_zero]; with_reducible rfl) ?_ | refine w_reg (by simp (disch := omega) only [go_sem, List.replicate_zero]; with_reducible rfl) ?_ | refine w_skipS ?_ | refine w_skipB ?_ | refine w_exitS ?_ | refine w_exitB ?_ | refine w_exitN rfl ?_ | refine w_exitL ?_ | refine w_retS ?_ | refine w_retB ?_ | refine w_retL ?_ | refine w_condT (by simp (disch := omega) only [go_sem, List.replicate_zero]; with_reducible rfl) (by with_reducible rfl) ?_ | refine w_condF (by simp (disch := omega) only [go_sem, List.replicate_zero]; with_reducible rfl) (by with_reducible rfl) ?_ | fail))
        refine w_exi (by simp (disch := omega) only [go_sem, List.replicate_zero]; with_reducible rfl) ?_
        exact ⟨done, c, rfl, h3, h2, h4, h5, h6⟩
      | succ m =>
        have hx := ia.get (i := i) (by omega)
        have hx' : a[i]? = some a[i] := List.getElem?_eq_getElem (by omega)
        have hv := val_take 4294967296 (l := a) (i := i) (by omega)
        generalize a[i]'(by omega) = x at *
        rw [List.replicate_succ]
        have o1 := or_low (x := x) (show n ≤ 32 by omega) ⟨h4, h5⟩
        have w0 := low_lt (x := x) (show n ≤ 32 by omega)
        have w1 : 0 ≤ x * 2 ^ n := Int.mul_nonneg hx.1 (Int.le_of_lt hP)
        have w2 : x * 2 ^ n < 4294967296 * 2 ^ n := Int.mul_lt_mul_of_pos_right hx.2 hP
        generalize hPe : (2 : Int) ^ n = P at *
        generalize hw : x * P = w at *
        have o2 := or_zero (c := w / 4294967296) (by omega)
        (repeat (first | refine w_seq ?_ | refine w_block ?_ | refine w_regS (by simp (disch := omega) only [go_sem, hx', hPe, hw, o1, o2]; with_reducible rfl) ?_ | refine w_reg (by simp (disch := omega) only [go_sem, hx', hPe, hw, o1, o2]; with_reducible rfl) ?_ | refine w_skipS ?_ | refine w_skipB ?_ | refine w_exitS ?_ | refine w_exitB ?_ | refine w_exitN rfl ?_ | refine w_exitL ?_ | refine w_retS ?_ | refine w_retB ?_ | refine w_retL ?_ | refine w_condT (by simp (disch := omega) only [go_sem, hx', hPe, hw, o1, o2]; with_reducible rfl) (by with_reducible rfl) ?_ | refine w_condF (by simp (disch := omega) only [go_sem, hx', hPe, hw, o1, o2]; with_reducible rfl) (by with_reducible rfl) ?_ | fail))
        refine w_skipL ⟨m, by omega, i + 1, done ++ [c + w % 4294967296], w / 4294967296, ?_, by omega, by simp; omega, h3.app (.cons (by omega) .nil), by omega, by omega, ?_, ?_⟩
        rotate_left
        · rw [hv, val_snoc, h2, Int.pow_succ, Int.add_mul, ← h6, Int.mul_assoc, Int.mul_assoc, hw]
          have e2 : (4294967296 : Int) ^ i * _ = 4294967296 ^ i * _ := congrArg _ (show w = w % 4294967296 + 4294967296 * (w / 4294967296) by omega)
          rw [Int.mul_add] at e2
          rw [Int.mul_add]
          omega
        · rw [List.append_assoc]; rfl
  exact ⟨l, c, h1, h⟩
end Go.Proofs.Ytbdknlejnacmgaa.Pi.W
end

section
/-
  Package long on our machine: takes.
-/
namespace Go.Proofs.Ytbdknlejnacmgaa.Pi.W
open Go Num
set_option linter.unusedVariables false
set_option linter.unusedSimpArgs false
set_option maxRecDepth 100000

/-- What takes does. -/
def TakesOk (xs b : List Int) (off : Nat) (many : Int) (r : Ret) : Prop :=
  (val 4294967296 ((xs.drop off).take (b.length + 1)) < val 4294967296 b * many ∧ r = ⟨[.bool true], [], some ⟨xs.map u32c, true⟩⟩) ∨
  (val 4294967296 b * many ≤ val 4294967296 ((xs.drop off).take (b.length + 1)) ∧ ∃ w, In 4294967296 w ∧ w.length = b.length + 1 ∧ val 4294967296 w = val 4294967296 ((xs.drop off).take (b.length + 1)) - val 4294967296 b * many ∧
    r = ⟨[.bool false], [], some ⟨(setAt xs off w).map u32c, true⟩⟩)

theorem seg_at {xs : List Int} {off n i : Nat} (h : off + n ≤ xs.length) (hi : i < n) : xs[off + i]? = ((xs.drop off).take n)[i]? := by
  rw [List.getElem?_take, if_pos hi, List.getElem?_drop]

theorem takes_fin (xs b l A : List Int) (off : Nat) (g1 g' : Nat) (z : Int) (v1 : Nat) (v2 : PV) (hn : b.length ≤ 1099511627775) (ho : off + (b.length + 1) ≤ xs.length) (hl : l.length = b.length + 1)
    (hless : ∃ w, lim tab F_long_less [.own ⟨0, 0, 0⟩ 1 off (b.length + 1), sl u32c false l] (some ⟨xs.map u32c, true⟩) = some ⟨[sl u32c false w], [], some ⟨xs.map u32c, true⟩⟩ ∧ In 4294967296 w ∧ val 4294967296 w = val 4294967296 A - val 4294967296 l ∧ w.length = b.length + 1)
    (hge : val 4294967296 l ≤ val 4294967296 A) : Wp tab T_long_takes_5 ⟨[(0, .own ⟨0, 0, 0⟩ 1 off (b.length + 1)), (7, .own ⟨15, g1, 0⟩ 1 0 (b.length + 1)), (10, .int .i64 z), (v1, v2)], [⟨0, 0, false, [⟨xs.map u32c, true⟩]⟩, ⟨13, g1, false, []⟩, ⟨15, g1, false, [⟨l.map u32c, true⟩]⟩], [], g'⟩ (kE [.tmp 6] false (some ⟨xs.map u32c, true⟩)
      (fun r => (val 4294967296 A < val 4294967296 l ∧ r = ⟨[.bool true], [], some ⟨xs.map u32c, true⟩⟩) ∨ (val 4294967296 l ≤ val 4294967296 A ∧ ∃ w, In 4294967296 w ∧ w.length = b.length + 1 ∧ val 4294967296 w = val 4294967296 A - val 4294967296 l ∧ r = ⟨[.bool false], [], some ⟨(setAt xs off w).map u32c, true⟩⟩))) := by
  obtain ⟨w, p1, p2, p3, p4⟩ := hless
  have hq : l.take (b.length + 1) = l := List.take_of_length_le (by omega)
  have hw : w.take (b.length + 1) = w := List.take_of_length_le (by omega)
  (repeat (first | refine w_seq ?_ | refine w_block ?_ | refine w_regS (by simp (disch := omega) only [go_sem, hq, p1, hw]; with_reducible rfl) ?_ | refine w_reg (by simp (disch := omega) only [go_sem, hq, p1, hw]; with_reducible rfl) ?_ | refine w_skipS ?_ | refine w_skipB ?_ | refine w_exitS ?_ | refine w_exitB ?_ | refine w_exitN rfl ?_ | refine w_exitL ?_ | refine w_retS ?_ | refine w_retB ?_ | refine w_retL ?_ | refine w_condT (by simp (disch := omega) only [go_sem, hq, p1, hw]; with_reducible rfl) (by with_reducible rfl) ?_ | refine w_condF (by simp (disch := omega) only [go_sem, hq, p1, hw]; with_reducible rfl) (by with_reducible rfl) ?_ | fail))
  refine w_exi (by simp (disch := omega) only [go_sem]; with_reducible rfl) ?_
  exact .inr ⟨hge, w, p2, p4, p3, rfl⟩

section
attribute [local irreducible] T_long_takes_5
/-- Holding against one another, from above. -/
theorem takes_cmp (xs b l : List Int) (off : Nat) (many : Int) (g g1 : Nat) (hb : 0 < b.length) (hn : b.length ≤ 1099511627775) (ho : off + (b.length + 1) ≤ xs.length) (ix : In 4294967296 xs)
    (il : In 4294967296 l) (hl : l.length = b.length + 1) (hv : val 4294967296 l = val 4294967296 b * many) :
    Wp tab (.loop B_long_takes_4) ⟨[(0, .own ⟨0, 0, 0⟩ 1 off (b.length + 1)), (7, .own ⟨15, g1, 0⟩ 1 0 (b.length + 1)), (10, .int .i64 (b.length : Nat))], [⟨0, 0, false, [⟨xs.map u32c, true⟩]⟩, ⟨13, g1, false, []⟩, ⟨15, g1, false, [⟨l.map u32c, true⟩]⟩], [], g⟩
      (kB 2 (kS tab T_long_takes_5 (kE [.tmp 6] false (some ⟨xs.map u32c, true⟩) (TakesOk xs b off many)))) := by
  have hA : ((xs.drop off).take (b.length + 1)).length = b.length + 1 := by simp; omega
  have iA : In 4294967296 ((xs.drop off).take (b.length + 1)) := (ix.drop _).take _
  have sA : ∀ i, i < b.length + 1 → xs[off + i]? = ((xs.drop off).take (b.length + 1))[i]? := fun i hi => seg_at ho hi
  have hless := less_io false xs l off (b.length + 1) (by omega) ho (by omega) (by omega) ix il
  unfold TakesOk
  rw [← hv]
  generalize hA' : (xs.drop off).take (b.length + 1) = A at *
  refine w_loop (fun m s => ∃ z g', m ≤ b.length + 1 ∧ A.drop m = l.drop m ∧ z = (m : Int) - 1 ∧ s = ⟨[(0, .own ⟨0, 0, 0⟩ 1 off (b.length + 1)), (7, .own ⟨15, g1, 0⟩ 1 0 (b.length + 1)), (10, .int .i64 z)], [⟨0, 0, false, [⟨xs.map u32c, true⟩]⟩, ⟨13, g1, false, []⟩, ⟨15, g1, false, [⟨l.map u32c, true⟩]⟩], [], g'⟩) (b.length + 1) ?_ ?_
  · exact ⟨_, _, Nat.le_refl _, by rw [List.drop_eq_nil_of_le (by omega), List.drop_eq_nil_of_le (by omega)], by omega, rfl⟩
  · rintro m s ⟨z, g', h1, h2, hz, rfl⟩
    cases m with
    | zero =>
      simp only [List.drop_zero] at h2
      have hge : val 4294967296 l ≤ val 4294967296 A := by rw [h2]; exact Int.le_refl _
      (repeat (first | refine w_seq ?_ | refine w_block ?_ | refine w_regS (by simp (disch := omega) only [go_sem]; with_reducible rfl) ?_ | refine w_reg (by simp (disch := omega) only [go_sem]; with_reducible rfl) ?_ | refine w_skipS ?_ | refine w_skipB ?_ | refine w_exitS ?_ | refine w_exitB ?_ | refine w_exitN rfl ?_ | refine w_exitL ?_ | refine w_retS ?_ | refine w_retB ?_ | refine w_retL ?_ | refine w_condT (by simp (disch := omega) only [go_sem]; with_reducible rfl) (by with_reducible rfl) ?_ | refine w_condF (by simp (disch := omega) only [go_sem]; with_reducible rfl) (by with_reducible rfl) ?_ | fail))
      exact takes_fin xs b l A off g1 _ _ _ _ hn ho hl (hless hge) hge
    | succ i =>
      obtain rfl : z = (i : Int) := by omega
      have hx : l[i]? = some l[i] := List.getElem?_eq_getElem (by omega)
      have hy : xs[off + i]? = some A[i] := (sA i (by omega)).trans (List.getElem?_eq_getElem (by omega))
      have e1 := split_at (l := A) (i := i) (by omega)
      have e2 := split_at (l := l) (i := i) (by omega)
      rw [← h2] at e2
      have i1 := iA.take i
      have i2 := il.take i
      by_cases c1 : A[i] < l[i]
      · have := val_lt_of (t := A.drop (i + 1)) (by omega) i1 i2 (by simp; omega) c1
        rw [← e1, ← e2] at this
        (repeat (first | refine w_seq ?_ | refine w_block ?_ | refine w_regS (by simp (disch := omega) only [go_sem, hx, hy]; with_reducible rfl) ?_ | refine w_reg (by simp (disch := omega) only [go_sem, hx, hy]; with_reducible rfl) ?_ | refine w_skipS ?_ | refine w_skipB ?_ | refine w_exitS ?_ | refine w_exitB ?_ | refine w_exitN rfl ?_ | refine w_exitL ?_ | refine w_retS ?_ | refine w_retB ?_ | refine w_retL ?_ | refine w_condT (by simp (disch := omega) only [go_sem, hx, hy]; with_reducible rfl) (by with_reducible rfl) ?_ | refine w_condF (by simp (disch := omega) only [go_sem, hx, hy]; with_reducible rfl) (by with_reducible rfl) ?_ | fail))
        refine w_exi (by simp (disch := omega) only [go_sem]; with_reducible rfl) ?_
        exact .inl ⟨this, rfl⟩
      · by_cases c2 : l[i] < A[i]
        · have := val_lt_of (t := A.drop (i + 1)) (by omega) i2 i1 (by simp; omega) c2
          rw [← e1, ← e2] at this
          (repeat (first | refine w_seq ?_ | refine w_block ?_ | refine w_regS (by simp (disch := omega) only [go_sem, hx, hy]; with_reducible rfl) ?_ | refine w_reg (by simp (disch := omega) only [go_sem, hx, hy]; with_reducible rfl) ?_ | refine w_skipS ?_ | refine w_skipB ?_ | refine w_exitS ?_ | refine w_exitB ?_ | refine w_exitN rfl ?_ | refine w_exitL ?_ | refine w_retS ?_ | refine w_retB ?_ | refine w_retL ?_ | refine w_condT (by simp (disch := omega) only [go_sem, hx, hy]; with_reducible rfl) (by with_reducible rfl) ?_ | refine w_condF (by simp (disch := omega) only [go_sem, hx, hy]; with_reducible rfl) (by with_reducible rfl) ?_ | fail))
          exact takes_fin xs b l A off g1 _ _ _ _ hn ho hl (hless (by omega)) (by omega)
        · (repeat (first | refine w_seq ?_ | refine w_block ?_ | refine w_regS (by simp (disch := omega) only [go_sem, hx, hy]; with_reducible rfl) ?_ | refine w_reg (by simp (disch := omega) only [go_sem, hx, hy]; with_reducible rfl) ?_ | refine w_skipS ?_ | refine w_skipB ?_ | refine w_exitS ?_ | refine w_exitB ?_ | refine w_exitN rfl ?_ | refine w_exitL ?_ | refine w_retS ?_ | refine w_retB ?_ | refine w_retL ?_ | refine w_condT (by simp (disch := omega) only [go_sem, hx, hy]; with_reducible rfl) (by with_reducible rfl) ?_ | refine w_condF (by simp (disch := omega) only [go_sem, hx, hy]; with_reducible rfl) (by with_reducible rfl) ?_ | fail))
          refine w_skipL ⟨i, by omega, _, _, by omega, ?_, rfl, rfl⟩
          rw [drop_at (l := A) (i := i) (by omega), h2, drop_at (l := l) (i := i) (by omega)]
          congr 1; omega
end
section
attribute [local irreducible] B_long_takes_4
theorem takes_ex (e : Bool) (xs b : List Int) (off : Nat) (many : Int) (hb : 0 < b.length) (hn : b.length ≤ 1099511627775) (ho : off + (b.length + 1) ≤ xs.length) (hx : xs.length ≤ 1099511627776) (hm : 0 ≤ many ∧ many < 4294967296)
    (ix : In 4294967296 xs) (ib : In 4294967296 b) :
    ∃ r, lim tab F_long_takes [.own ⟨0, 0, 0⟩ 1 off (b.length + 1), sl u32c e b, .int .u32 many] (some ⟨xs.map u32c, true⟩) = some r ∧ TakesOk xs b off many r := by
  refine runs_ex rfl rfl ?_
  have hL : (b ++ [0]).length = b.length + 1 := by simp
  have iL : In 4294967296 (b ++ [0]) := ib.app (.cons (by omega) .nil)
  have vL : val 4294967296 (b ++ [0]) = val 4294967296 b := by rw [val_snoc]; simp
  (repeat (first | refine w_seq ?_ | refine w_block ?_ | refine w_regS (by simp (disch := omega) only [go_sem, clone_lim]; with_reducible rfl) ?_ | refine w_reg (by simp (disch := omega) only [go_sem, clone_lim]; with_reducible rfl) ?_ | refine w_skipS ?_ | refine w_skipB ?_ | refine w_exitS ?_ | refine w_exitB ?_ | refine w_exitN rfl ?_ | refine w_exitL ?_ | refine w_retS ?_ | refine w_retB ?_ | refine w_retL ?_ | refine w_condT (by simp (disch := omega) only [go_sem, clone_lim]; with_reducible rfl) (by with_reducible rfl) ?_ | refine w_condF (by simp (disch := omega) only [go_sem, clone_lim]; with_reducible rfl) (by with_reducible rfl) ?_ | fail))
  generalize hL' : b ++ [0] = L at *
  refine w_loop (fun m s => ∃ i o done g', i + m = b.length + 1 ∧ done.length = i ∧ In 4294967296 done ∧ 0 ≤ o ∧ o < 4294967296 ∧ val 4294967296 done + 4294967296 ^ i * o = val 4294967296 (L.take i) * many ∧
    s = ⟨[(0, .own ⟨0, 0, 0⟩ 1 off (b.length + 1)), (2, .int .u32 many), (7, .own ⟨15, 2, 0⟩ 1 0 (b.length + 1)), (8, .int .u64 o), (16, .int .i64 ((b.length + 1 : Nat) : Int)), (17, .int .i64 (i : Nat))], [⟨0, 0, false, [⟨xs.map u32c, true⟩]⟩, ⟨13, 2, false, []⟩, ⟨15, 2, false, [⟨(done ++ L.drop i).map u32c, true⟩]⟩], [], g'⟩) (b.length + 1) ?_ ?_
  · exact ⟨0, 0, [], _, by omega, rfl, .nil, by omega, by omega, by simp [val], rfl⟩
  · rintro m s ⟨i, o, done, g', h1, h2, h3, h4, h5, h6, rfl⟩
    by_cases hi : i < b.length + 1
    · have hy := iL.get (i := i) (by omega)
      have hv := val_take 4294967296 (l := L) (i := i) (by omega)
      rw [drop_at (l := L) (i := i) (by omega)]
      generalize L[i]'(by omega) = y at *
      have hmul := mul_step (o := 0) (q := 0) rfl hy hm
      generalize hym : y * many = w at *
      (repeat (first | refine w_seq ?_ | refine w_block ?_ | refine w_regS (by simp (disch := omega) only [go_sem, hym]; with_reducible rfl) ?_ | refine w_reg (by simp (disch := omega) only [go_sem, hym]; with_reducible rfl) ?_ | refine w_skipS ?_ | refine w_skipB ?_ | refine w_exitS ?_ | refine w_exitB ?_ | refine w_exitN rfl ?_ | refine w_exitL ?_ | refine w_retS ?_ | refine w_retB ?_ | refine w_retL ?_ | refine w_condT (by simp (disch := omega) only [go_sem, hym]; with_reducible rfl) (by with_reducible rfl) ?_ | refine w_condF (by simp (disch := omega) only [go_sem, hym]; with_reducible rfl) (by with_reducible rfl) ?_ | fail))
      refine w_skipL ⟨m - 1, by omega, i + 1, (o + w) / 4294967296, done ++ [(o + w) % 4294967296], ?_, by omega, by simp; omega, h3.app (.cons (by omega) .nil), by omega, by omega, ?_, ?_⟩
      rotate_left
      · rw [hv, val_snoc, h2, Int.pow_succ, Int.add_mul, ← h6, Int.mul_assoc, Int.mul_assoc, hym]
        have e2 : (4294967296 : Int) ^ i * _ = 4294967296 ^ i * _ := congrArg _ (show o + w = (o + w) % 4294967296 + 4294967296 * ((o + w) / 4294967296) by omega)
        rw [Int.mul_add, Int.mul_add] at e2
        omega
      · rw [List.append_assoc]; rfl
    · obtain rfl : i = b.length + 1 := by omega
      rw [List.take_of_length_le (by omega), vL] at h6
      have hd : L.drop (b.length + 1) = [] := List.drop_eq_nil_of_le (by omega)
      rw [hd, List.append_nil]
      have ho0 : o = 0 := by
        have v1 := val_lt (by omega) ib
        have v2 := val_nonneg (by omega) ib
        have v3 := val_nonneg (by omega) h3
        have v4 : val 4294967296 b * many ≤ val 4294967296 b * 4294967295 := Int.mul_le_mul_of_nonneg_left (by omega) v2
        have v5 := pow_pos' (B := 4294967296) (by omega) b.length
        rw [Int.pow_succ] at h6
        rcases (by omega : o = 0 ∨ 1 ≤ o) with rfl | h7
        · rfl
        · have v6 : 4294967296 ^ b.length * 4294967296 * 1 ≤ (4294967296 : Int) ^ b.length * 4294967296 * o := Int.mul_le_mul_of_nonneg_left h7 (by omega)
          omega
      subst ho0
      have e1 : IntKind.i64.wrap (((b.length + 1 : Nat) : Int) - 1) = (b.length : Int) := by rw [wrap_i64] <;> omega
      (repeat (first | refine w_seq ?_ | refine w_block ?_ | refine w_regS (by simp (disch := omega) only [go_sem, e1]; with_reducible rfl) ?_ | refine w_reg (by simp (disch := omega) only [go_sem, e1]; with_reducible rfl) ?_ | refine w_skipS ?_ | refine w_skipB ?_ | refine w_exitS ?_ | refine w_exitB ?_ | refine w_exitN rfl ?_ | refine w_exitL ?_ | refine w_retS ?_ | refine w_retB ?_ | refine w_retL ?_ | refine w_condT (by simp (disch := omega) only [go_sem, e1]; with_reducible rfl) (by with_reducible rfl) ?_ | refine w_condF (by simp (disch := omega) only [go_sem, e1]; with_reducible rfl) (by with_reducible rfl) ?_ | fail))
      exact takes_cmp xs b done off many _ _ hb hn ho ix h3 h2 (by simpa using h6)
end
end Go.Proofs.Ytbdknlejnacmgaa.Pi.W
end

section
/-
  Package long on our machine: long division.
-/
namespace Go.Proofs.Ytbdknlejnacmgaa.Pi.W
open Go Num
set_option linter.unusedVariables false
set_option linter.unusedSimpArgs false
set_option maxRecDepth 100000

theorem val_take_drop (B : Int) (l : List Int) {n : Nat} (h : n ≤ l.length) : val B l = val B (l.take n) + B ^ n * val B (l.drop n) := by
  have := val_app B (l.take n) (l.drop n)
  rw [List.take_append_drop, List.length_take, Nat.min_eq_left h] at this
  exact this
/-- Small numbers have noughts above. -/
theorem val_small {B : Int} (hB : 0 < B) {l : List Int} (hl : In B l) {n : Nat} (h : n ≤ l.length) (hv : val B l < B ^ n) : val B (l.drop n) = 0 ∧ val B (l.take n) = val B l := by
  have h1 := val_take_drop B l h
  have h2 := val_nonneg hB (hl.drop n)
  have h3 := val_nonneg hB (hl.take n)
  have h4 := pow_pos' hB n
  have h5 : val B (l.drop n) = 0 := by
    rcases (by omega : val B (l.drop n) = 0 ∨ 1 ≤ val B (l.drop n)) with h6 | h6
    · exact h6
    · have : B ^ n * 1 ≤ B ^ n * val B (l.drop n) := Int.mul_le_mul_of_nonneg_left h6 (by omega)
      omega
  rw [h5, Int.mul_zero, Int.add_zero] at h1
  exact ⟨h5, h1.symm⟩

/-- The digit that is looked for is not above what is guessed. -/
theorem guess_ok {b A lowA lowb top bt Q P : Int} (hP : 0 < P) (hA : A = lowA + P * top) (hb : b = lowb + P * bt) (h1 : 0 ≤ lowA) (h2 : lowA < P) (h3 : 0 ≤ lowb) (hbt : 0 < bt) (hQ : 0 ≤ Q) (hQb : Q * b ≤ A) : Q ≤ top / bt := by
  rw [Int.le_ediv_iff_mul_le hbt]
  have h4 : Q * (P * bt) ≤ Q * b := Int.mul_le_mul_of_nonneg_left (by omega) hQ
  have h5 : P * (Q * bt) ≤ A := by
    have : P * (Q * bt) = Q * (P * bt) := by ac_rfl
    omega
  have h6 : P * (Q * bt) < P * (top + 1) := by rw [Int.mul_add]; omega
  have h7 := Int.lt_of_mul_lt_mul_left h6 (Int.le_of_lt hP)
  omega

/-- What long does. -/
def LongOk (a b : List Int) (r : Ret) : Prop := ∃ q w, r = ⟨[sl u32c false q], [], some ⟨w.map u32c, true⟩⟩ ∧ In 4294967296 q ∧ q.length = a.length - b.length ∧ In 4294967296 w ∧ w.length = a.length ∧
  val 4294967296 a = val 4294967296 w + val 4294967296 q * val 4294967296 b ∧ val 4294967296 w < val 4294967296 b

/-- Guessing: until it fits. -/
theorem long_guess (e : Bool) (xs b qs : List Int) (La i : Nat) (gs Q : Int) (g g1 : Nat) (K : PEx → St → Prop) (h2 : 2 ≤ b.length) (hb : b.length ≤ 1099511627775) (hx : xs.length ≤ 1099511627776) (hL : xs.length = La) (hi : i + b.length + 1 ≤ La)
    (ix : In 4294967296 xs) (ib : In 4294967296 b) (hQ0 : 0 ≤ Q) (hQ1 : Q * val 4294967296 b ≤ val 4294967296 ((xs.drop i).take (b.length + 1))) (hQ2 : val 4294967296 ((xs.drop i).take (b.length + 1)) < (Q + 1) * val 4294967296 b) (hb0 : 0 < val 4294967296 b) (hQg : Q ≤ gs) (hg : gs < 4294967296)
    (hK : ∀ w g', In 4294967296 w → w.length = b.length + 1 → val 4294967296 w = val 4294967296 ((xs.drop i).take (b.length + 1)) - Q * val 4294967296 b → Wp tab .skip ⟨[(0, .own ⟨0, 0, 0⟩ 1 0 La), (1, sl u32c e b), (5, .int .i64 (b.length : Nat)), (6, .own ⟨18, g1, 0⟩ 1 0 (La - b.length)), (7, .int .i64 (i : Nat)), (9, .int .u64 Q), (63, .bool false)], [⟨0, 0, false, [⟨(setAt xs i w).map u32c, true⟩]⟩, ⟨18, g1, false, [⟨qs.map u32c, true⟩]⟩], [], g'⟩ K) :
    Wp tab (.loop B_long_long_1) ⟨[(0, .own ⟨0, 0, 0⟩ 1 0 La), (1, sl u32c e b), (5, .int .i64 (b.length : Nat)), (6, .own ⟨18, g1, 0⟩ 1 0 (La - b.length)), (7, .int .i64 (i : Nat)), (9, .int .u64 gs)], [⟨0, 0, false, [⟨xs.map u32c, true⟩]⟩, ⟨18, g1, false, [⟨qs.map u32c, true⟩]⟩], [], g⟩ (kB 2 K) := by
  refine w_loop (fun m s => ∃ gs g', (m : Int) = gs - Q ∧ gs < 4294967296 ∧ s = ⟨[(0, .own ⟨0, 0, 0⟩ 1 0 La), (1, sl u32c e b), (5, .int .i64 (b.length : Nat)), (6, .own ⟨18, g1, 0⟩ 1 0 (La - b.length)), (7, .int .i64 (i : Nat)), (9, .int .u64 gs)], [⟨0, 0, false, [⟨xs.map u32c, true⟩]⟩, ⟨18, g1, false, [⟨qs.map u32c, true⟩]⟩], [], g'⟩) (gs - Q).toNat ?_ ?_
  · exact ⟨gs, _, by omega, hg, rfl⟩
  · rintro m s ⟨gs, g', h3, h4, rfl⟩
    have e1 : i + b.length + 1 - i = b.length + 1 := by omega
    obtain ⟨r, p1, p2 | ⟨p2, w, p3, p4, p5, p6⟩⟩ := takes_ex e xs b i gs (by omega) hb (by omega) hx ⟨by omega, h4⟩ ix ib
    · obtain ⟨p2, rfl⟩ := p2
      have hlt : Q < gs := by
        rcases (by omega : Q < gs ∨ gs ≤ Q) with h5 | h5
        · exact h5
        · have := Int.mul_le_mul_of_nonneg_left (c := val 4294967296 b) h5 (Int.le_of_lt hb0)
          rw [Int.mul_comm, Int.mul_comm (val 4294967296 b)] at this
          rw [Int.mul_comm] at p2
          omega
      (repeat (first | refine w_seq ?_ | refine w_block ?_ | refine w_regS (by simp (disch := omega) only [go_sem, e1, p1]; with_reducible rfl) ?_ | refine w_reg (by simp (disch := omega) only [go_sem, e1, p1]; with_reducible rfl) ?_ | refine w_skipS ?_ | refine w_skipB ?_ | refine w_exitS ?_ | refine w_exitB ?_ | refine w_exitN rfl ?_ | refine w_exitL ?_ | refine w_retS ?_ | refine w_retB ?_ | refine w_retL ?_ | refine w_condT (by simp (disch := omega) only [go_sem, e1, p1]; with_reducible rfl) (by with_reducible rfl) ?_ | refine w_condF (by simp (disch := omega) only [go_sem, e1, p1]; with_reducible rfl) (by with_reducible rfl) ?_ | fail))
      exact w_skipL ⟨m - 1, by omega, gs - 1, _, by omega, by omega, rfl⟩
    · subst p6
      have heq : gs = Q := by
        rcases (by omega : gs = Q ∨ Q + 1 ≤ gs) with h5 | h5
        · exact h5
        · have := Int.mul_le_mul_of_nonneg_right h5 (Int.le_of_lt hb0)
          rw [Int.mul_comm] at p2
          omega
      subst heq
      (repeat (first | refine w_seq ?_ | refine w_block ?_ | refine w_regS (by simp (disch := omega) only [go_sem, e1, p1]; with_reducible rfl) ?_ | refine w_reg (by simp (disch := omega) only [go_sem, e1, p1]; with_reducible rfl) ?_ | refine w_skipS ?_ | refine w_skipB ?_ | refine w_exitS ?_ | refine w_exitB ?_ | refine w_exitN rfl ?_ | refine w_exitL ?_ | refine w_retS ?_ | refine w_retB ?_ | refine w_retL ?_ | refine w_condT (by simp (disch := omega) only [go_sem, e1, p1]; with_reducible rfl) (by with_reducible rfl) ?_ | refine w_condF (by simp (disch := omega) only [go_sem, e1, p1]; with_reducible rfl) (by with_reducible rfl) ?_ | fail))
      refine hK w _ p3 p4 ?_
      rw [p5, Int.mul_comm]

section
attribute [local irreducible] B_long_long_1
theorem long_ex (e : Bool) (a b : List Int) (h2 : 2 ≤ b.length) (hab : b.length ≤ a.length) (ha : a.length ≤ 1099511627776) (ia : In 4294967296 a) (ib : In 4294967296 b) (hbt : ∀ (h : b.length - 1 < b.length), 0 < b[b.length - 1])
    (hv : val 4294967296 (a.drop (a.length - b.length)) < val 4294967296 b) (hb : b.length ≤ 1099511627775) :
    ∃ r, lim tab F_long_long [.own ⟨0, 0, 0⟩ 1 0 a.length, sl u32c e b] (some ⟨a.map u32c, true⟩) = some r ∧ LongOk a b r := by
  refine runs_ex rfl rfl ?_
  have e1 : IntKind.i64.wrap ((a.length : Int) - (b.length : Int)) = ((a.length - b.length : Nat) : Int) := by rw [wrap_i64] <;> omega
  have e2 : max 0 (((a.length - b.length : Nat) : Int)) = ((a.length - b.length : Nat) : Int) := by omega
  (repeat (first | refine w_seq ?_ | refine w_block ?_ | refine w_regS (by simp (disch := omega) only [go_sem, e1, e2]; with_reducible rfl) ?_ | refine w_reg (by simp (disch := omega) only [go_sem, e1, e2]; with_reducible rfl) ?_ | refine w_skipS ?_ | refine w_skipB ?_ | refine w_exitS ?_ | refine w_exitB ?_ | refine w_exitN rfl ?_ | refine w_exitL ?_ | refine w_retS ?_ | refine w_retB ?_ | refine w_retL ?_ | refine w_condT (by simp (disch := omega) only [go_sem, e1, e2]; with_reducible rfl) (by with_reducible rfl) ?_ | refine w_condF (by simp (disch := omega) only [go_sem, e1, e2]; with_reducible rfl) (by with_reducible rfl) ?_ | fail))
  refine w_loop (fun m s => ∃ xs done z g', m ≤ a.length - b.length ∧ done.length + m = a.length - b.length ∧ In 4294967296 xs ∧ xs.length = a.length ∧ In 4294967296 done ∧ val 4294967296 a = val 4294967296 xs + 4294967296 ^ m * (val 4294967296 done * val 4294967296 b) ∧ val 4294967296 (xs.drop m) < val 4294967296 b ∧ z = (m : Int) - 1 ∧
    s = ⟨[(0, .own ⟨0, 0, 0⟩ 1 0 a.length), (1, sl u32c e b), (5, .int .i64 (b.length : Nat)), (6, .own ⟨18, 3, 0⟩ 1 0 (a.length - b.length)), (7, .int .i64 z)], [⟨0, 0, false, [⟨xs.map u32c, true⟩]⟩, ⟨18, 3, false, [⟨(List.replicate m 0 ++ done).map u32c, true⟩]⟩], [], g'⟩) (a.length - b.length) ?_ ?_
  · exact ⟨a, [], _, _, Nat.le_refl _, by simp, ia, rfl, .nil, by simp [val], hv, rfl, by rw [List.append_nil]⟩
  · rintro m s ⟨xs, done, z, g', h3, h4, h5, h6, h7, h8, h9, hz, rfl⟩
    cases m with
    | zero =>
      have hq : done.take (a.length - b.length) = done := List.take_of_length_le (by omega)
      simp only [List.replicate_zero, List.nil_append]
      (repeat (first | refine w_seq ?_ | refine w_block ?_ | refine w_regS (by simp (disch := omega) only [go_sem, hq]; with_reducible rfl) ?_ | refine w_reg (by simp (disch := omega) only [go_sem, hq]; with_reducible rfl) ?_ | refine w_skipS ?_ | refine w_skipB ?_ | refine w_exitS ?_ | refine w_exitB ?_ | refine w_exitN rfl ?_ | refine w_exitL ?_ | refine w_retS ?_ | refine w_retB ?_ | refine w_retL ?_ | refine w_condT (by simp (disch := omega) only [go_sem, hq]; with_reducible rfl) (by with_reducible rfl) ?_ | refine w_condF (by simp (disch := omega) only [go_sem, hq]; with_reducible rfl) (by with_reducible rfl) ?_ | fail))
      refine w_exi (by simp (disch := omega) only [go_sem, hq]; with_reducible rfl) ?_
      refine ⟨done, xs, rfl, h7, by omega, h5, h6, ?_, by simpa using h9⟩
      rw [h8]; simp
    | succ i =>
      obtain rfl : z = (i : Int) := by omega
      have hbt' := hbt (by omega)
      have hbn : b[b.length - 1]? = some b[b.length - 1] := List.getElem?_eq_getElem (by omega)
      have ibt := ib.get (i := b.length - 1) (by omega)
      have x1 : xs[i + b.length]? = some xs[i + b.length] := List.getElem?_eq_getElem (by omega)
      have x2 : xs[i + b.length - 1]? = some xs[i + b.length - 1] := List.getElem?_eq_getElem (by omega)
      have y1 := h5.get (i := i + b.length) (by omega)
      have y2 := h5.get (i := i + b.length - 1) (by omega)
      -- the window
      have vb : val 4294967296 b < 4294967296 ^ b.length := val_lt (by omega) ib
      have hb0 : 0 < val 4294967296 b := by have := val_nonneg (B := 4294967296) (by omega) (h5.drop (i + 1)); omega
      obtain ⟨w1, w2⟩ := val_small (by omega) (h5.drop (i + 1)) (n := b.length) (by simp; omega) (by omega)
      have hW : (xs.drop i).take (b.length + 1) = xs[i] :: (xs.drop (i + 1)).take b.length := by rw [drop_at (l := xs) (i := i) (by omega), List.take_succ_cons]
      have vW : val 4294967296 ((xs.drop i).take (b.length + 1)) = xs[i] + 4294967296 * val 4294967296 (xs.drop (i + 1)) := by rw [hW, val, w2]
      have hxi := h5.get (i := i) (by omega)
      have vD := val_nonneg (B := 4294967296) (by omega) (h5.drop (i + 1))
      generalize hWw : (xs.drop i).take (b.length + 1) = W at *
      have lW : W.length = b.length + 1 := by rw [← hWw]; simp; omega
      have iW : In 4294967296 W := by rw [← hWw]; exact (h5.drop _).take _
      have gW : ∀ j (h : j < b.length + 1), W[j] = xs[i + j] := by
        intro j h
        subst hWw
        simp
      -- the quotient's digit
      have q0 := Int.ediv_nonneg (a := val 4294967296 W) (b := val 4294967296 b) (by omega) (Int.le_of_lt hb0)
      have q1 := Int.mul_ediv_add_emod (val 4294967296 W) (val 4294967296 b)
      have q2 := Int.emod_nonneg (val 4294967296 W) (show val 4294967296 b ≠ 0 by omega)
      have q3 := Int.emod_lt_of_pos (val 4294967296 W) hb0
      have q4 : val 4294967296 W / val 4294967296 b < 4294967296 := Int.ediv_lt_of_lt_mul hb0 (by rw [vW]; omega)
      generalize hQ : val 4294967296 W / val 4294967296 b = Q at *
      generalize hR : val 4294967296 W % val 4294967296 b = R at *
      rw [Int.mul_comm] at q1
      -- what is guessed
      have hA := val_take_drop 4294967296 W (n := b.length - 1) (by omega)
      have hB := val_take_drop 4294967296 b (n := b.length - 1) (by omega)
      have dA : W.drop (b.length - 1) = [W[b.length - 1], W[b.length]] := by
        rw [drop_at (l := W) (i := b.length - 1) (by omega), show b.length - 1 + 1 = b.length by omega, drop_at (l := W) (i := b.length) (by omega), List.drop_eq_nil_of_le (by omega)]
      have dB : b.drop (b.length - 1) = [b[b.length - 1]] := by
        rw [drop_at (l := b) (i := b.length - 1) (by omega), List.drop_eq_nil_of_le (by omega)]
      have g1 := gW (b.length - 1) (by omega)
      have g2 := gW b.length (by omega)
      rw [dA] at hA
      rw [dB] at hB
      simp only [val, Int.mul_zero, Int.add_zero] at hA hB
      rw [g1, g2] at hA
      have e3 : i + (b.length - 1) = i + b.length - 1 := by omega
      simp only [e3] at hA
      have lA := val_lt (B := 4294967296) (by omega) (iW.take (b.length - 1))
      rw [List.length_take, Nat.min_eq_left (by omega)] at lA
      have hguess := guess_ok (pow_pos' (B := 4294967296) (by omega) (b.length - 1)) hA hB (val_nonneg (by omega) (iW.take _)) lA (val_nonneg (by omega) (ib.take _)) hbt' q0 (by omega)
      clear hA hB dA dB gW g1 g2 lA
      generalize xs[i + b.length]'(by omega) = u1 at *
      generalize xs[i + b.length - 1]'(by omega) = u2 at *
      generalize b[b.length - 1]'(by omega) = bt at *
      have o1 := or_u64 (a := u1) (b := u2) (n := 32) (by omega) y1.1 (by omega) (by omega)
      rw [show (2 : Int) ^ 32 = 4294967296 from rfl] at o1
      have t0 : 0 ≤ (u1 * 4294967296 + u2) / bt := Int.ediv_nonneg (by omega) (by omega)
      have t1 : (u1 * 4294967296 + u2) / bt ≤ u1 * 4294967296 + u2 := Int.ediv_le_self _ (by omega)
      rw [show u2 + 4294967296 * u1 = u1 * 4294967296 + u2 by omega] at hguess
      have e4 : IntKind.i64.wrap (((i + b.length : Nat) : Int) - 1) = ((i + b.length - 1 : Nat) : Int) := by rw [wrap_i64] <;> omega
      have e5 : IntKind.i64.wrap (((b.length : Nat) : Int) - 1) = ((b.length - 1 : Nat) : Int) := by rw [wrap_i64] <;> omega
      generalize hG : (u1 * 4294967296 + u2) / bt = G at *
      (repeat (first | refine w_seq ?_ | refine w_block ?_ | refine w_regS (by simp (disch := omega) only [go_sem, x1, x2, hbn, o1, e4, e5, hG]; with_reducible rfl) ?_ | refine w_reg (by simp (disch := omega) only [go_sem, x1, x2, hbn, o1, e4, e5, hG]; with_reducible rfl) ?_ | refine w_skipS ?_ | refine w_skipB ?_ | refine w_exitS ?_ | refine w_exitB ?_ | refine w_exitN rfl ?_ | refine w_exitL ?_ | refine w_retS ?_ | refine w_retB ?_ | refine w_retL ?_ | refine w_condT (by simp (disch := omega) only [go_sem, x1, x2, hbn, o1, e4, e5, hG]; with_reducible rfl) (by with_reducible rfl) ?_ | refine w_condF (by simp (disch := omega) only [go_sem, x1, x2, hbn, o1, e4, e5, hG]; with_reducible rfl) (by with_reducible rfl) ?_ | fail))
      refine long_guess e xs b _ a.length i (min G 4294967295) Q _ _ _ h2 hb (by omega) h6 (by omega) h5 ib q0 (by rw [hWw]; omega) (by rw [hWw, Int.add_mul]; omega) hb0 (by omega) (by omega) fun w g' p1 p2 p3 => ?_
      rw [hWw] at p3
      have e6 : List.replicate (i + 1) (0 : Int) ++ done = List.replicate i 0 ++ 0 :: done := by rw [List.replicate_succ', List.append_assoc]; rfl
      have e7 : i = (List.replicate i (0 : Int)).length := by simp
      have e8 : (List.replicate i 0 ++ 0 :: done)[i]? = some 0 := at_done _ _ _ _ e7
      have e9 : ∀ y, (List.replicate i 0 ++ 0 :: done).set i y = List.replicate i 0 ++ y :: done := fun y => set_done _ _ _ _ _ e7
      rw [e6]
      have hs : setAt xs i w = xs.take i ++ (w ++ xs.drop (i + w.length)) := by unfold setAt; rw [List.append_assoc]
      have hsd : (setAt xs i w).drop i = w ++ xs.drop (i + w.length) := by rw [hs, List.drop_left' (by simp; omega)]
      have hst : (setAt xs i w).take i = xs.take i := by rw [hs, List.take_left' (by simp; omega)]
      have hsl : (setAt xs i w).length = xs.length := by rw [hs]; simp; omega
      have v1 := val_take_drop 4294967296 (setAt xs i w) (n := i) (by omega)
      have v2 := val_take_drop 4294967296 xs (n := i) (by omega)
      have v3 : val 4294967296 (xs.drop i) = val 4294967296 W := by rw [drop_at (l := xs) (i := i) (by omega), val, vW]
      have v4 : val 4294967296 ((setAt xs i w).drop i) = val 4294967296 w := by
        rw [hsd, val_app, p2, show i + (b.length + 1) = i + 1 + b.length by omega, ← List.drop_drop, w1]; simp
      have v5 : In 4294967296 (setAt xs i w) := by
        rw [hs]; exact (h5.take _).app (p1.app (h5.drop _))
      rw [hst, v4] at v1
      rw [v3] at v2
      (repeat (first | refine w_seq ?_ | refine w_block ?_ | refine w_regS (by simp (disch := omega) only [go_sem, e8, e9]; with_reducible rfl) ?_ | refine w_reg (by simp (disch := omega) only [go_sem, e8, e9]; with_reducible rfl) ?_ | refine w_skipS ?_ | refine w_skipB ?_ | refine w_exitS ?_ | refine w_exitB ?_ | refine w_exitN rfl ?_ | refine w_exitL ?_ | refine w_retS ?_ | refine w_retB ?_ | refine w_retL ?_ | refine w_condT (by simp (disch := omega) only [go_sem, e8, e9]; with_reducible rfl) (by with_reducible rfl) ?_ | refine w_condF (by simp (disch := omega) only [go_sem, e8, e9]; with_reducible rfl) (by with_reducible rfl) ?_ | fail))
      refine w_skipL ⟨i, by omega, setAt xs i w, Q :: done, _, _, by omega, by simp; omega, v5, by omega, h7.cons ⟨q0, q4⟩, ?_, by omega, rfl, rfl⟩
      rw [h8, v1, v2, p3]
      simp only [val, Int.mul_sub, Int.mul_add, Int.add_mul, Int.pow_succ, Int.mul_assoc]
      omega
end
end Go.Proofs.Ytbdknlejnacmgaa.Pi.W
end

section
/-
  Package long on our machine: parted.
-/
namespace Go.Proofs.Ytbdknlejnacmgaa.Pi.W
open Go Num
set_option linter.unusedVariables false
set_option linter.unusedSimpArgs false
set_option maxRecDepth 100000

theorem gtf_Z (x : Int) : gtf 1 1 false (Z x) = some (sl u32c true (ql x.natAbs)) := nrfl rfl
theorem val_ql' (x : Int) (h : 0 ≤ x) : val 4294967296 (ql x.natAbs) = x := by rw [val_ql]; omega

/-- Moving down: one digit more. -/
theorem down_step {V x : Int} {i n : Nat} (hn : n ≤ 31) : (V + 4294967296 ^ (i + 1) * x) / 2 ^ n = V / 2 ^ n + 4294967296 ^ (i + 1) * (x / 2 ^ n) + 4294967296 ^ i * (x * 2 ^ (32 - n) % 4294967296) := by
  have hP : (0 : Int) < 2 ^ n := Int.pow_pos (by omega)
  have h1 := mul_mod_pow (x := x) (n := 32 - n) (by omega)
  rw [show 32 - (32 - n) = n by omega] at h1
  have hB : (4294967296 : Int) = 2 ^ n * 2 ^ (32 - n) := by rw [← Int.pow_add, show n + (32 - n) = 32 by omega]; rfl
  have h2 := Int.mul_ediv_add_emod x (2 ^ n)
  have h3 : (4294967296 : Int) ^ (i + 1) * x = 2 ^ n * (4294967296 ^ (i + 1) * (x / 2 ^ n) + 4294967296 ^ i * (x % 2 ^ n * 2 ^ (32 - n))) := by
    have e1 : (2 : Int) ^ n * (4294967296 ^ (i + 1) * (x / 2 ^ n)) = 4294967296 ^ (i + 1) * (2 ^ n * (x / 2 ^ n)) := by ac_rfl
    have e2 : (2 : Int) ^ n * (4294967296 ^ i * (x % 2 ^ n * 2 ^ (32 - n))) = 4294967296 ^ i * (2 ^ n * 2 ^ (32 - n)) * (x % 2 ^ n) := by ac_rfl
    rw [Int.mul_add, e1, e2, ← hB, ← Int.pow_succ, ← Int.mul_add, h2]
  rw [h1, h3, Int.add_mul_ediv_left _ _ (by omega), Int.add_assoc]

/-- What parted does. -/
def PartOk (n m : Nat) (r : Ret) : Prop := ∃ e q e' y, r = ⟨[sl u32c e q, sl u32c e' y], [], none⟩ ∧ In 4294967296 q ∧ In 4294967296 y ∧ val 4294967296 q = ((n / m : Nat) : Int) ∧ val 4294967296 y = ((n % m : Nat) : Int) ∧ q.length ≤ (ql n).length + 1 ∧ y.length ≤ (ql n).length + 1

/-- The rounds that move the rest down. -/
theorem parted_down (P : Ret → Prop) (q : List Int) (vw : Int) (d : List Int) (n : Nat) (t : List (Nat × PV)) (h : List Ent) (g : Nat) (g1 : Nat) (hn : n ≤ 31) (hd : d.length ≤ 1099511627776) (id : In 4294967296 d)
    (hP : ∀ o, In 4294967296 o → o.length = d.length → val 4294967296 o = val 4294967296 d / 2 ^ n → P ⟨[sl u32c false q, sl u32c false o], [], none⟩) :
    Wp tab (.loop B_long_parted_2) ⟨[(4, sl u32c false q), (8, .int .i64 (n : Nat)), (11, .own ⟨59, g1, 0⟩ 1 0 d.length), (59, sl u32c true d), (60, .int .i64 (d.length : Nat)), (61, .int .i64 0)], [⟨59, g1, false, [⟨(List.replicate d.length 0).map u32c, true⟩]⟩], [], g⟩
      (kB 1 (kS tab T_long_parted_3 (kE [.tmp 4, .tmp 5] false none P))) := by
  have hPp : (0 : Int) < 2 ^ n := Int.pow_pos (by omega)
  have hP1 : (1 : Int) ≤ 2 ^ n := by omega
  have hB : (4294967296 : Int) = 2 ^ n * 2 ^ (32 - n) := by rw [← Int.pow_add, show n + (32 - n) = 32 by omega]; rfl
  refine w_loop (fun m s => ∃ i o g', i + m = d.length ∧ o.length = d.length ∧ In 4294967296 o ∧ (∀ j, i ≤ j → j < d.length → o[j]? = some 0) ∧ (∀ j x, i = j + 1 → d[j]? = some x → o[j]? = some (x / 2 ^ n)) ∧ val 4294967296 o = val 4294967296 (d.take i) / 2 ^ n ∧
    s = ⟨[(4, sl u32c false q), (8, .int .i64 (n : Nat)), (11, .own ⟨59, g1, 0⟩ 1 0 d.length), (59, sl u32c true d), (60, .int .i64 (d.length : Nat)), (61, .int .i64 (i : Nat))], [⟨59, g1, false, [⟨o.map u32c, true⟩]⟩], [], g'⟩) d.length ?_ ?_
  · exact ⟨0, List.replicate d.length 0, _, by omega, by simp, In.zeros (by omega) _, fun j _ h => by rw [List.getElem?_replicate, if_pos h], fun j x h => by omega, by rw [val_zeros]; simp [val], rfl⟩
  · rintro m s ⟨i, o, g', h1, h2, h3, h4, h5, h6, rfl⟩
    by_cases hi : i < d.length
    · have hx := id.get hi
      have hx' : d[i]? = some d[i] := List.getElem?_eq_getElem hi
      have hv := val_take 4294967296 hi
      have o1 : o[i]? = some 0 := h4 i (Nat.le_refl _) hi
      have o1' : o[i]'(by omega) = 0 := by rw [List.getElem?_eq_getElem (by omega)] at o1; exact Option.some.inj o1
      generalize d[i] = x at *
      have b0 : 0 ≤ x / 2 ^ n := Int.ediv_nonneg hx.1 (by omega)
      have b1 : x / 2 ^ n ≤ x := Int.ediv_le_self _ hx.1
      have s1 := or_zero (c := x / 2 ^ n) (by omega)
      have v1 := val_set 4294967296 (l := o) (i := i) (by omega) (x / 2 ^ n)
      rw [o1', Int.sub_zero] at v1
      cases i with
      | zero =>
        (repeat (first | refine w_seq ?_ | refine w_block ?_ | refine w_regS (by simp (disch := omega) only [go_sem, hx', o1, s1]; with_reducible rfl) ?_ | refine w_reg (by simp (disch := omega) only [go_sem, hx', o1, s1]; with_reducible rfl) ?_ | refine w_skipS ?_ | refine w_skipB ?_ | refine w_exitS ?_ | refine w_exitB ?_ | refine w_exitN rfl ?_ | refine w_exitL ?_ | refine w_retS ?_ | refine w_retB ?_ | refine w_retL ?_ | refine w_condT (by simp (disch := omega) only [go_sem, hx', o1, s1]; with_reducible rfl) (by with_reducible rfl) ?_ | refine w_condF (by simp (disch := omega) only [go_sem, hx', o1, s1]; with_reducible rfl) (by with_reducible rfl) ?_ | fail))
        refine w_skipL ⟨m - 1, by omega, 1, o.set 0 (x / 2 ^ n), _, by omega, by simp; omega, h3.set (by omega), fun j p1 p2 => ?_, fun j y p1 p2 => ?_, ?_, rfl⟩
        · rw [List.getElem?_set_ne (by omega)]; exact h4 j (by omega) p2
        · obtain rfl : j = 0 := by omega
          rw [hx'] at p2
          cases p2
          rw [List.getElem?_set_self (by omega)]
        · rw [v1, hv, h6]; simp [val]
      | succ i =>
        obtain ⟨y, hy⟩ : ∃ y, d[i]? = some y := ⟨_, List.getElem?_eq_getElem (by omega)⟩
        have o2 := h5 i y rfl hy
        have hy' := id y (List.mem_of_getElem? hy)
        have c0 : 0 ≤ y / 2 ^ n := Int.ediv_nonneg hy'.1 (by omega)
        have c1 : y / 2 ^ n < 2 ^ (32 - n) := Int.ediv_lt_of_lt_mul hPp (by rw [Int.mul_comm, ← hB]; exact hy'.2)
        have s2 := or_low (c := y / 2 ^ n) (x := x) (n := 32 - n) (by omega) ⟨c0, c1⟩
        have l2 := low_lt (x := x) (n := 32 - n) (by omega)
        have w1 : 0 ≤ x * 2 ^ (32 - n) := Int.mul_nonneg hx.1 (Int.le_of_lt (Int.pow_pos (by omega)))
        have w2 : x * 2 ^ (32 - n) ≤ 4294967295 * 4294967296 := by
          have : (2 : Int) ^ (32 - n) ≤ 4294967296 := pow_mono (a := 32 - n) (b := 32) (by omega) (by omega)
          exact Int.mul_le_mul (by omega) this (Int.le_of_lt (Int.pow_pos (by omega))) (by omega)
        have e1 : IntKind.i64.wrap ((32 : Int) - (n : Int)) = ((32 - n : Nat) : Int) := by rw [wrap_i64] <;> omega
        have e2 : IntKind.i64.wrap (((i + 1 : Nat) : Int) - 1) = (i : Int) := by rw [wrap_i64] <;> omega
        have e3 : (o.set (i + 1) (x / 2 ^ n))[i]? = some (y / 2 ^ n) := by rw [List.getElem?_set_ne (by omega), o2]
        have ds := down_step (V := val 4294967296 (d.take (i + 1))) (x := x) (i := i) hn
        have v2 := val_set 4294967296 (l := o.set (i + 1) (x / 2 ^ n)) (i := i) (by simp; omega) (y / 2 ^ n + x * 2 ^ (32 - n) % 4294967296)
        have e4 : (o.set (i + 1) (x / 2 ^ n))[i]'(by simp; omega) = y / 2 ^ n := by
          rw [List.getElem?_eq_getElem (by simp; omega)] at e3; exact Option.some.inj e3
        rw [e4, v1, h6] at v2
        generalize hz : x * 2 ^ (32 - n) = z at *
        (repeat (first | refine w_seq ?_ | refine w_block ?_ | refine w_regS (by simp (disch := omega) only [go_sem, hx', o1, s1, e1, e2, e3, hz, s2]; with_reducible rfl) ?_ | refine w_reg (by simp (disch := omega) only [go_sem, hx', o1, s1, e1, e2, e3, hz, s2]; with_reducible rfl) ?_ | refine w_skipS ?_ | refine w_skipB ?_ | refine w_exitS ?_ | refine w_exitB ?_ | refine w_exitN rfl ?_ | refine w_exitL ?_ | refine w_retS ?_ | refine w_retB ?_ | refine w_retL ?_ | refine w_condT (by simp (disch := omega) only [go_sem, hx', o1, s1, e1, e2, e3, hz, s2]; with_reducible rfl) (by with_reducible rfl) ?_ | refine w_condF (by simp (disch := omega) only [go_sem, hx', o1, s1, e1, e2, e3, hz, s2]; with_reducible rfl) (by with_reducible rfl) ?_ | fail))
        refine w_skipL ⟨m - 1, by omega, i + 1 + 1, (o.set (i + 1) (x / 2 ^ n)).set i (y / 2 ^ n + z % 4294967296), _, by omega, by simp; omega, (h3.set (by omega)).set (by omega), fun j p1 p2 => ?_, fun j y' p1 p2 => ?_, ?_, rfl⟩
        · rw [List.getElem?_set_ne (by omega), List.getElem?_set_ne (by omega)]; exact h4 j (by omega) p2
        · obtain rfl : j = i + 1 := by omega
          rw [hx'] at p2
          cases p2
          rw [List.getElem?_set_ne (by omega), List.getElem?_set_self (by omega)]
        · rw [v2, hv, ds]
          have : y / 2 ^ n + z % 4294967296 - y / 2 ^ n = z % 4294967296 := by omega
          rw [this]
    · obtain rfl : i = d.length := by omega
      have hq : o.take d.length = o := List.take_of_length_le (by omega)
      rw [List.take_length] at h6
      (repeat (first | refine w_seq ?_ | refine w_block ?_ | refine w_regS (by simp (disch := omega) only [go_sem, hq]; with_reducible rfl) ?_ | refine w_reg (by simp (disch := omega) only [go_sem, hq]; with_reducible rfl) ?_ | refine w_skipS ?_ | refine w_skipB ?_ | refine w_exitS ?_ | refine w_exitB ?_ | refine w_exitN rfl ?_ | refine w_exitL ?_ | refine w_retS ?_ | refine w_retB ?_ | refine w_retL ?_ | refine w_condT (by simp (disch := omega) only [go_sem, hq]; with_reducible rfl) (by with_reducible rfl) ?_ | refine w_condF (by simp (disch := omega) only [go_sem, hq]; with_reducible rfl) (by with_reducible rfl) ?_ | fail))
      refine w_exi (by simp (disch := omega) only [go_sem, hq]; with_reducible rfl) ?_
      exact hP o h3 h2 h6
section
attribute [local irreducible] B_long_parted_2
theorem parted_ex (e1 e2 : Bool) (n m : Nat) (hm0 : 0 < m) (hn : (ql n).length ≤ 1099511627774) (hm : (ql m).length ≤ 1099511627774) :
    ∃ r, lim tab F_long_parted [sl u32c e1 (ql n), sl u32c e2 (ql m)] none = some r ∧ PartOk n m r := by
  have hc1 := cmp_lim e1 e2 n m (by omega) (by omega)
  have sn : PV.view [] = sl u32c false [] := rfl
  have ia := In_ql n
  have ib := In_ql m
  have va := val_ql n
  have vb := val_ql m
  by_cases hlt : n < m
  · refine runs_ex rfl rfl ?_
    have hs := sign_lt (n := (n : Int) - m) (by omega)
    (repeat (first | refine w_seq ?_ | refine w_block ?_ | refine w_regS (by simp (disch := omega) only [go_sem, hc1, sn, List.take_nil]; with_reducible rfl) ?_ | refine w_reg (by simp (disch := omega) only [go_sem, hc1, sn, List.take_nil]; with_reducible rfl) ?_ | refine w_skipS ?_ | refine w_skipB ?_ | refine w_exitS ?_ | refine w_exitB ?_ | refine w_exitN rfl ?_ | refine w_exitL ?_ | refine w_retS ?_ | refine w_retB ?_ | refine w_retL ?_ | refine w_condT (by simp (disch := omega) only [go_sem, hc1, sn, List.take_nil]; with_reducible rfl) (by with_reducible rfl) ?_ | refine w_condF (by simp (disch := omega) only [go_sem, hc1, sn, List.take_nil]; with_reducible rfl) (by with_reducible rfl) ?_ | fail))
    refine w_exi (by simp (disch := omega) only [go_sem, sn, List.take_nil]; with_reducible rfl) ?_
    exact ⟨false, [], e1, ql n, rfl, .nil, ia, by rw [Nat.div_eq_of_lt hlt]; rfl, by rw [va, Nat.mod_eq_of_lt hlt], by simp, by omega⟩
  · have hs := sign_ge (n := (n : Int) - m) (by omega)
    have hlen : (ql m).length ≤ (ql n).length := dig_len_mono (by omega) (by omega)
    have hml : 0 < (ql m).length := by
      rcases Nat.eq_zero_or_pos (ql m).length with h1 | h1
      · have := ql_nil.1 (List.length_eq_zero_iff.1 h1); omega
      · exact h1
    -- the highest part
    obtain ⟨bt, hbt⟩ : ∃ bt, (ql m)[(ql m).length - 1]? = some bt := ⟨_, List.getElem?_eq_getElem (by omega)⟩
    have ibt := ib bt (List.mem_of_getElem? hbt)
    have hdr : (ql m).drop ((ql m).length - 1) = [bt] := by
      rw [drop_at (l := ql m) (i := (ql m).length - 1) (by omega), List.drop_eq_nil_of_le (by omega)]
      rw [List.getElem?_eq_getElem (by omega)] at hbt
      rw [Option.some.inj hbt]
    have vsp := val_take_drop 4294967296 (ql m) (n := (ql m).length - 1) (by omega)
    rw [hdr, val_one, vb] at vsp
    have vlow := val_lt (B := 4294967296) (by omega) (ib.take ((ql m).length - 1))
    rw [List.length_take, Nat.min_eq_left (by omega)] at vlow
    have vlow0 := val_nonneg (B := 4294967296) (by omega) (ib.take ((ql m).length - 1))
    have hbt0 : 0 < bt := by
      rcases (by omega : 0 < bt ∨ bt = 0) with h1 | rfl
      · exact h1
      · have h2 : m < 4294967296 ^ ((ql m).length - 1) := by
          have h3 : (m : Int) < ((4294967296 ^ ((ql m).length - 1) : Nat) : Int) := by rw [Int.natCast_pow]; simpa using (by omega : (m : Int) < (4294967296 : Int) ^ ((ql m).length - 1))
          omega
        have := dig_len_le (B := 4294967296) (by omega) h2
        unfold ql at hml this; omega
    by_cases h1 : (ql m).length = 1
    · -- one part
      obtain ⟨q, y, p1, p2, p3, p4, p5, p6⟩ := by_ex e1 (ql n) bt ⟨hbt0, ibt.2⟩ (by omega) ia
      have hbm : (m : Int) = bt := by
        rw [h1] at vsp
        simpa [val] using vsp
      have h0 : (ql m)[0]? = some bt := by rw [← hbt, h1]
      rw [va, ← hbm] at p4
      obtain ⟨v, hv⟩ := Int.eq_ofNat_of_zero_le (val_nonneg (by omega) p2)
      obtain ⟨y, rfl⟩ := Int.eq_ofNat_of_zero_le p5
      rw [hv] at p4
      have p4' : n = v * m + y := by
        have : (n : Int) = ((v * m + y : Nat) : Int) := by rw [p4]; push_cast; rfl
        omega
      have hy : y < m := by omega
      have hq : n / m = v := by rw [p4', Nat.add_comm, Nat.add_mul_div_right _ _ hm0, Nat.div_eq_of_lt hy, Nat.zero_add]
      have hr : n % m = y := by rw [p4', Nat.add_comm, Nat.add_mul_mod_self_right, Nat.mod_eq_of_lt hy]
      refine runs_ex rfl rfl ?_
      (repeat (first | refine w_seq ?_ | refine w_block ?_ | refine w_regS (by simp (disch := omega) only [go_sem, hc1, p1, h0, h1]; with_reducible rfl) ?_ | refine w_reg (by simp (disch := omega) only [go_sem, hc1, p1, h0, h1]; with_reducible rfl) ?_ | refine w_skipS ?_ | refine w_skipB ?_ | refine w_exitS ?_ | refine w_exitB ?_ | refine w_exitN rfl ?_ | refine w_exitL ?_ | refine w_retS ?_ | refine w_retB ?_ | refine w_retL ?_ | refine w_condT (by simp (disch := omega) only [go_sem, hc1, p1, h0, h1]; with_reducible rfl) (by with_reducible rfl) ?_ | refine w_condF (by simp (disch := omega) only [go_sem, hc1, p1, h0, h1]; with_reducible rfl) (by with_reducible rfl) ?_ | fail))
      refine w_exi (by simp (disch := omega) only [go_sem]; with_reducible rfl) ?_
      refine ⟨false, q, false, [(y : Int)], rfl, p2, .cons ⟨p5, by omega⟩ .nil, by rw [hv, hq], by rw [val_one, hr], by omega, by simp⟩
    · obtain ⟨k, z1, hk, z2⟩ := lz32_ex bt hbt0 ibt.2
      obtain ⟨la, c, a1, a2, a3, a4, a5, a6⟩ := shifted_ex e1 (ql n) k hk (by omega) ia
      obtain ⟨lb, cb, b1, b2, b3, b4, b5, b6⟩ := shifted_ex e2 (ql m) k hk (by omega) ib
      have hP : (0 : Int) < 2 ^ k := Int.pow_pos (by omega)
      have hpw := pow_pos' (B := 4294967296) (by omega) ((ql m).length - 1)
      have hpl : (4294967296 : Int) ^ (ql m).length = 4294967296 ^ ((ql m).length - 1) * 4294967296 := by rw [← Int.pow_succ]; congr 1; omega
      rw [va] at a6
      rw [vb] at b6
      -- nothing is shifted out
      have hlow := low_lt (x := bt) (n := k) (by omega)
      rw [Int.emod_eq_of_lt (Int.mul_nonneg (by omega) (by omega)) z2] at hlow
      have hmP : (m : Int) * 2 ^ k < 4294967296 ^ (ql m).length := by
        have h2 : (m : Int) * 2 ^ k < 4294967296 ^ ((ql m).length - 1) * (bt + 1) * 2 ^ k := Int.mul_lt_mul_of_pos_right (by rw [Int.mul_add]; omega) hP
        have h3 : (4294967296 : Int) ^ ((ql m).length - 1) * (bt + 1) * 2 ^ k = 4294967296 ^ ((ql m).length - 1) * (bt * 2 ^ k + 2 ^ k) := by rw [Int.mul_assoc, Int.add_mul, Int.one_mul]
        have h4 : (4294967296 : Int) ^ ((ql m).length - 1) * (bt * 2 ^ k + 2 ^ k) ≤ 4294967296 ^ ((ql m).length - 1) * 4294967296 := Int.mul_le_mul_of_nonneg_left hlow (by omega)
        omega
      have hcb : cb = 0 := by
        rcases (by omega : cb = 0 ∨ 1 ≤ cb) with h2 | h2
        · exact h2
        · have h3 : (4294967296 : Int) ^ (ql m).length * 1 ≤ 4294967296 ^ (ql m).length * cb := Int.mul_le_mul_of_nonneg_left h2 (Int.le_of_lt (pow_pos' (by omega) _))
          have h4 := val_nonneg (B := 4294967296) (by omega) b2
          omega
      subst hcb
      rw [Int.mul_zero, Int.add_zero] at b6
      have hmlow : 4294967296 ^ ((ql m).length - 1) ≤ (m : Int) := by
        have : (4294967296 : Int) ^ ((ql m).length - 1) * 1 ≤ 4294967296 ^ ((ql m).length - 1) * bt := Int.mul_le_mul_of_nonneg_left (by omega) (by omega)
        omega
      have hvlb : 4294967296 ^ ((ql m).length - 1) * 2 ^ k ≤ val 4294967296 lb := by rw [b6]; exact Int.mul_le_mul_of_nonneg_right hmlow (by omega)
      have hpk : (1 : Int) ≤ 2 ^ k := by omega
      have hvlb' : (4294967296 : Int) ^ ((ql m).length - 1) ≤ 4294967296 ^ ((ql m).length - 1) * 2 ^ k := by
        have := Int.mul_le_mul_of_nonneg_left hpk (Int.le_of_lt hpw); omega
      have hlbt : ∀ h : lb.length - 1 < lb.length, 0 < lb[lb.length - 1] := by
        intro h
        have g1 := val_take_drop 4294967296 lb (n := lb.length - 1) (by omega)
        rw [drop_at (l := lb) (i := lb.length - 1) h, List.drop_eq_nil_of_le (by omega), val_one] at g1
        have g2 := val_lt (B := 4294967296) (by omega) (b2.take (lb.length - 1))
        rw [List.length_take, Nat.min_eq_left (by omega)] at g2
        have g3 := b2.get h
        rcases (by omega : 0 < lb[lb.length - 1] ∨ lb[lb.length - 1] = 0) with g4 | g4
        · exact g4
        · rw [g4, Int.mul_zero, Int.add_zero] at g1
          rw [b3] at g1 g2
          omega
      have iA : In 4294967296 (la ++ [c]) := a2.app (.cons ⟨a4, by have : (2 : Int) ^ k ≤ 4294967296 := pow_mono (a := k) (b := 32) (by omega) (by omega); omega⟩ .nil)
      have lA : (la ++ [c]).length = (ql n).length + 1 := by simp; omega
      have vA : val 4294967296 (la ++ [c]) = (n : Int) * 2 ^ k := by rw [val_snoc, a3, a6]
      have hv : val 4294967296 ((la ++ [c]).drop ((la ++ [c]).length - lb.length)) < val 4294967296 lb := by
        rw [lA, b3, List.drop_append_of_le_length (by omega), val_snoc]
        have g1 := val_lt (B := 4294967296) (by omega) (a2.drop ((ql n).length + 1 - (ql m).length))
        rw [List.length_drop, a3, show (ql n).length - ((ql n).length + 1 - (ql m).length) = (ql m).length - 1 by omega] at g1
        rw [List.length_drop, a3, show (ql n).length - ((ql n).length + 1 - (ql m).length) = (ql m).length - 1 by omega]
        have g2 : (4294967296 : Int) ^ ((ql m).length - 1) * (c + 1) ≤ 4294967296 ^ ((ql m).length - 1) * 2 ^ k := Int.mul_le_mul_of_nonneg_left (by omega) (by omega)
        rw [Int.mul_add] at g2
        omega
      obtain ⟨r, l1, q, w, rfl, l2, l3, l4, l5, l6, l7⟩ := long_ex false (la ++ [c]) lb (by omega) (by omega) (by omega) iA b2 hlbt hv (by omega)
      rw [lA] at l1 l3 l5
      have hw0 := val_nonneg (B := 4294967296) (by omega) l4
      have hmade := made_lim false false w (by omega) l4
      have hsg : sg false (val 4294967296 w) = val 4294967296 w := rfl
      rw [hsg] at hmade
      have e5 : IntKind.i64.wrap ((((ql m).length : Nat) : Int) - 1) = (((ql m).length - 1 : Nat) : Int) := by rw [wrap_i64] <;> omega
      have e6 : (lb ++ [0]).take (lb.length + 1) = lb ++ [0] := List.take_of_length_le (by simp)
      have e7 : (lb ++ [0]).take (ql m).length = lb := by rw [← b3]; exact List.take_left
      have e8 : w.take ((ql n).length + 1) = w := List.take_of_length_le (by omega)
      have hqw : (ql (val 4294967296 w).natAbs).length ≤ (ql n).length + 1 := by
        have g1 := val_lt (B := 4294967296) (by omega) l4
        rw [l5] at g1
        refine dig_len_le (B := 4294967296) (by omega) ?_
        have g2 : ((val 4294967296 w).natAbs : Int) < ((4294967296 ^ ((ql n).length + 1) : Nat) : Int) := by rw [Int.natCast_pow]; simpa using (by omega : ((val 4294967296 w).natAbs : Int) < (4294967296 : Int) ^ ((ql n).length + 1))
        omega
      refine runs_ex rfl rfl ?_
      rw [← b3] at b1
      (repeat (first | refine w_seq ?_ | refine w_block ?_ | refine w_regS (by simp (disch := omega) only [go_sem, hc1, hbt, e5, z1, a1, b1, e6, e7, l1, hmade, e8, gtf_Z]; with_reducible rfl) ?_ | refine w_reg (by simp (disch := omega) only [go_sem, hc1, hbt, e5, z1, a1, b1, e6, e7, l1, hmade, e8, gtf_Z]; with_reducible rfl) ?_ | refine w_skipS ?_ | refine w_skipB ?_ | refine w_exitS ?_ | refine w_exitB ?_ | refine w_exitN rfl ?_ | refine w_exitL ?_ | refine w_retS ?_ | refine w_retB ?_ | refine w_retL ?_ | refine w_condT (by simp (disch := omega) only [go_sem, hc1, hbt, e5, z1, a1, b1, e6, e7, l1, hmade, e8, gtf_Z]; with_reducible rfl) (by with_reducible rfl) ?_ | refine w_condF (by simp (disch := omega) only [go_sem, hc1, hbt, e5, z1, a1, b1, e6, e7, l1, hmade, e8, gtf_Z]; with_reducible rfl) (by with_reducible rfl) ?_ | fail))
      refine parted_down _ q (val 4294967296 w) (ql (val 4294967296 w).natAbs) k [] [] _ _ hk (by omega) (In_ql _) fun o q1 q2 q3 => ?_
      rw [val_ql' _ hw0] at q3
      rw [vA, b6] at l6
      rw [b6] at l7
      -- the rest, moved down
      obtain ⟨v, hvq⟩ := Int.eq_ofNat_of_zero_le (val_nonneg (B := 4294967296) (by omega) l2)
      rw [hvq] at l6
      have g1 : val 4294967296 w = 2 ^ k * ((n : Int) - v * m) := by
        have g2 : (v : Int) * ((m : Int) * 2 ^ k) = 2 ^ k * (v * m) := by ac_rfl
        rw [Int.mul_sub, Int.mul_comm _ (n : Int)]; omega
      have g3 : val 4294967296 w / 2 ^ k = (n : Int) - v * m := by rw [g1, Int.mul_ediv_cancel_left _ (by omega)]
      have g4 : 0 ≤ (n : Int) - v * m := by rw [← g3]; exact Int.ediv_nonneg hw0 (by omega)
      have g5 : (n : Int) - v * m < m := by
        rw [g1, Int.mul_comm (m : Int)] at l7
        exact Int.lt_of_mul_lt_mul_left l7 (by omega)
      obtain ⟨y, hy⟩ := Int.eq_ofNat_of_zero_le g4
      have p4' : n = v * m + y := by
        have : (n : Int) = ((v * m + y : Nat) : Int) := by push_cast; omega
        omega
      have hym : y < m := by omega
      have hq : n / m = v := by rw [p4', Nat.add_comm, Nat.add_mul_div_right _ _ hm0, Nat.div_eq_of_lt hym, Nat.zero_add]
      have hr : n % m = y := by rw [p4', Nat.add_comm, Nat.add_mul_mod_self_right, Nat.mod_eq_of_lt hym]
      exact ⟨false, q, false, o, rfl, l2, q1, by rw [hvq, hq], by rw [q3, g3, hy, hr], by omega, by omega⟩
end
end Go.Proofs.Ytbdknlejnacmgaa.Pi.W
end

section
/-
  Package long on our machine: Quo.
-/
namespace Go.Proofs.Ytbdknlejnacmgaa.Pi.W
open Go Num
set_option linter.unusedVariables false
set_option linter.unusedSimpArgs false
set_option maxRecDepth 100000

theorem fdiv_unique {x y q r : Int} (h : x = y * q + r) (hr : (0 ≤ r ∧ r < y) ∨ (y < r ∧ r ≤ 0)) : x.fdiv y = q ∧ x.fmod y = r := by
  have key : x.fdiv y = q := by
    rcases hr with hr | hr
    · rw [Int.fdiv_eq_ediv_of_nonneg _ (by omega), h, Int.add_comm, Int.add_mul_ediv_left _ _ (by omega), Int.ediv_eq_zero_of_lt hr.1 hr.2, Int.zero_add]
    · rw [← Int.neg_fdiv_neg, Int.fdiv_eq_ediv_of_nonneg _ (by omega), h]
      have : -(y * q + r) = -r + -y * q := by rw [Int.neg_mul]; omega
      rw [this, Int.add_mul_ediv_left _ _ (by omega), Int.ediv_eq_zero_of_lt (by omega) (by omega), Int.zero_add]
  refine ⟨key, ?_⟩
  have := Int.mul_fdiv_add_fmod x y
  rw [key] at this
  omega

theorem quo_zero (x : Int) : lim tab F_long_Int_Quo [Z x, Z 0] none = some ⟨[Z 0, Z 0, .int .i64 11], [], none⟩ := by
  have eb : Z 0 = .agg [.bool false, .nil0] := Z_0.symm
  have ea : Z x = .agg [.bool (decide (x < 0)), sl u32c true (ql x.natAbs)] := rfl
  rw [ea]
  have hz0 : (ql (Int.natAbs 0)).length = 0 := by rw [show ql (Int.natAbs 0) = [] from ql_nil.2 rfl]; rfl
  refine runs_w rfl rfl ?_
  (repeat (first | refine w_seq ?_ | refine w_block ?_ | refine w_regS (by simp (disch := omega) only [go_sem, hz0]; with_reducible rfl) ?_ | refine w_reg (by simp (disch := omega) only [go_sem, hz0]; with_reducible rfl) ?_ | refine w_skipS ?_ | refine w_skipB ?_ | refine w_exitS ?_ | refine w_exitB ?_ | refine w_exitN rfl ?_ | refine w_exitL ?_ | refine w_retS ?_ | refine w_retB ?_ | refine w_retL ?_ | refine w_condT (by simp (disch := omega) only [go_sem, hz0]; with_reducible rfl) (by with_reducible rfl) ?_ | refine w_condF (by simp (disch := omega) only [go_sem, hz0]; with_reducible rfl) (by with_reducible rfl) ?_ | fail))
  (first | refine w_fini ?_ | refine w_finiN ?_); simp (disch := omega) only [go_sem]

theorem quo_lim (x y : Int) (hy0 : y ≠ 0) (hx : sz x ≤ 1099511627773) (hy : sz y ≤ 1099511627773) : lim tab F_long_Int_Quo [Z x, Z y] none = some ⟨[Z (x.fdiv y), Z (x.fmod y), .int .i64 0], [], none⟩ := by
  have ea : Z x = .agg [.bool (decide (x < 0)), sl u32c true (ql x.natAbs)] := rfl
  have eb : Z y = .agg [.bool (decide (y < 0)), sl u32c true (ql y.natAbs)] := rfl
  have hx' : (ql x.natAbs).length ≤ 1099511627773 := hx
  have hy' : (ql y.natAbs).length ≤ 1099511627773 := hy
  obtain ⟨r, p0, e1, q, e2, w, rfl, p1, p2, p3, p4, p5, p6⟩ := parted_ex true true x.natAbs y.natAbs (by omega) (by omega) (by omega)
  have m1 := fun b => made_lim b e1 q (by omega) p1
  have m2 := fun b => made_lim b e2 w (by omega) p2
  rw [p3] at m1
  rw [p4] at m2
  have hnm : x.natAbs = y.natAbs * (x.natAbs / y.natAbs) + x.natAbs % y.natAbs := (Nat.div_add_mod _ _).symm
  have hlt : x.natAbs % y.natAbs < y.natAbs := Nat.mod_lt _ (by omega)
  have hqs : sz ((x.natAbs / y.natAbs : Nat) : Int) ≤ 1099511627774 := by
    have : (ql (x.natAbs / y.natAbs)).length ≤ (ql x.natAbs).length := dig_len_mono (by omega) (Nat.div_le_self _ _)
    unfold sz; rw [Int.natAbs_natCast]; omega
  have hrs : sz ((x.natAbs % y.natAbs : Nat) : Int) ≤ 1099511627774 := by
    have : (ql (x.natAbs % y.natAbs)).length ≤ (ql x.natAbs).length := dig_len_mono (by omega) (Nat.mod_le _ _)
    unfold sz; rw [Int.natAbs_natCast]; omega
  generalize hQ : x.natAbs / y.natAbs = Q at *
  generalize hR : x.natAbs % y.natAbs = R at *
  have hqn : sz (-(Q : Int)) ≤ 1099511627774 := by rw [sz_neg]; exact hqs
  have hrn : sz (-(R : Int)) ≤ 1099511627774 := by rw [sz_neg]; exact hrs
  have hmul : ((x.natAbs : Nat) : Int) = (y.natAbs : Nat) * (Q : Int) + R := by exact_mod_cast hnm
  have h1s : sz 1 ≤ 2 := sz_i64 (by omega) (by omega)
  have hl0 : (ql y.natAbs).length ≠ 0 := fun h => by have := ql_nil.1 (List.length_eq_zero_iff.1 h); omega
  rcases Int.lt_or_le x 0 with hxs | hxs <;> rcases Int.lt_or_le y 0 with hys | hys <;> by_cases hR0 : R = 0
  · -- x < 0 y < 0 R = 0
    have n1 : ((x.natAbs : Nat) : Int) = -x := by omega
    have n2 : ((y.natAbs : Nat) : Int) = -y := by omega
    rw [n1, n2] at hmul
    try rw [Int.neg_mul] at hmul
    have du : decide (x < 0) = true := by simp; omega
    have dv : decide (y < 0) = true := by simp; omega
    rw [dv] at eb
    rw [du] at ea
    have fb := eb.symm
    subst hR0
    have z0 : sg true ((0 : Nat) : Int) = 0 := rfl
    have k1 := m1 false
    have k2 := m2 true
    rw [z0] at k2
    simp only [sg, if_true, if_false, Bool.false_eq_true] at k1 k2
    obtain ⟨f1, f2⟩ := fdiv_unique (x := x) (y := y) (q := (Q : Int)) (r := 0) (by first | omega | (simp only [Int.mul_neg, Int.mul_sub, Int.mul_one]; omega) | (simp only [Int.mul_neg, Int.mul_sub, Int.mul_one] at *; omega)) (by omega)
    rw [f1, f2, ea, eb]
    refine runs_w rfl rfl ?_
    (repeat (first | refine w_seq ?_ | refine w_block ?_ | refine w_regS (by simp (disch := omega) only [go_sem, p0, k1, k2, fb, Int.sign_zero]; with_reducible rfl) ?_ | refine w_reg (by simp (disch := omega) only [go_sem, p0, k1, k2, fb, Int.sign_zero]; with_reducible rfl) ?_ | refine w_skipS ?_ | refine w_skipB ?_ | refine w_exitS ?_ | refine w_exitB ?_ | refine w_exitN rfl ?_ | refine w_exitL ?_ | refine w_retS ?_ | refine w_retB ?_ | refine w_retL ?_ | refine w_condT (by simp (disch := omega) only [go_sem, p0, k1, k2, fb, Int.sign_zero]; with_reducible rfl) (by with_reducible rfl) ?_ | refine w_condF (by simp (disch := omega) only [go_sem, p0, k1, k2, fb, Int.sign_zero]; with_reducible rfl) (by with_reducible rfl) ?_ | fail))
    (first | refine w_fini ?_ | refine w_finiN ?_); simp (disch := omega) only [go_sem]
  · -- x < 0 y < 0 R ≠ 0
    have n1 : ((x.natAbs : Nat) : Int) = -x := by omega
    have n2 : ((y.natAbs : Nat) : Int) = -y := by omega
    rw [n1, n2] at hmul
    try rw [Int.neg_mul] at hmul
    have du : decide (x < 0) = true := by simp; omega
    have dv : decide (y < 0) = true := by simp; omega
    rw [dv] at eb
    rw [du] at ea
    have fb := eb.symm
    have k1 := m1 false
    have k2 := m2 true
    simp only [sg, if_true, if_false, Bool.false_eq_true] at k1 k2
    obtain ⟨f1, f2⟩ := fdiv_unique (x := x) (y := y) (q := (Q : Int)) (r := -(R : Int)) (by first | omega | (simp only [Int.mul_neg, Int.mul_sub, Int.mul_one]; omega) | (simp only [Int.mul_neg, Int.mul_sub, Int.mul_one] at *; omega)) (by omega)
    rw [f1, f2, ea, eb]
    refine runs_w rfl rfl ?_
    have s0 : (-(R : Int)).sign ≠ 0 := fun h => by have := Int.sign_eq_zero_iff_zero.1 h; omega
    (repeat (first | refine w_seq ?_ | refine w_block ?_ | refine w_regS (by simp (disch := omega) only [go_sem, p0, k1, k2, fb, Int.sign_zero]; with_reducible rfl) ?_ | refine w_reg (by simp (disch := omega) only [go_sem, p0, k1, k2, fb, Int.sign_zero]; with_reducible rfl) ?_ | refine w_skipS ?_ | refine w_skipB ?_ | refine w_exitS ?_ | refine w_exitB ?_ | refine w_exitN rfl ?_ | refine w_exitL ?_ | refine w_retS ?_ | refine w_retB ?_ | refine w_retL ?_ | refine w_condT (by simp (disch := omega) only [go_sem, p0, k1, k2, fb, Int.sign_zero]; with_reducible rfl) (by with_reducible rfl) ?_ | refine w_condF (by simp (disch := omega) only [go_sem, p0, k1, k2, fb, Int.sign_zero]; with_reducible rfl) (by with_reducible rfl) ?_ | fail))
    (first | refine w_fini ?_ | refine w_finiN ?_); simp (disch := omega) only [go_sem]
  · -- x < 0 0 < y R = 0
    have n1 : ((x.natAbs : Nat) : Int) = -x := by omega
    have n2 : ((y.natAbs : Nat) : Int) = y := by omega
    rw [n1, n2] at hmul
    try rw [Int.neg_mul] at hmul
    have du : decide (x < 0) = true := by simp; omega
    have dv : decide (y < 0) = false := by simp; omega
    rw [dv] at eb
    rw [du] at ea
    have fb := eb.symm
    subst hR0
    have z0 : sg true ((0 : Nat) : Int) = 0 := rfl
    have k1 := m1 true
    have k2 := m2 true
    rw [z0] at k2
    simp only [sg, if_true, if_false, Bool.false_eq_true] at k1 k2
    obtain ⟨f1, f2⟩ := fdiv_unique (x := x) (y := y) (q := -(Q : Int)) (r := 0) (by first | omega | (simp only [Int.mul_neg, Int.mul_sub, Int.mul_one]; omega) | (simp only [Int.mul_neg, Int.mul_sub, Int.mul_one] at *; omega)) (by omega)
    rw [f1, f2, ea, eb]
    refine runs_w rfl rfl ?_
    (repeat (first | refine w_seq ?_ | refine w_block ?_ | refine w_regS (by simp (disch := omega) only [go_sem, p0, k1, k2, fb, Int.sign_zero]; with_reducible rfl) ?_ | refine w_reg (by simp (disch := omega) only [go_sem, p0, k1, k2, fb, Int.sign_zero]; with_reducible rfl) ?_ | refine w_skipS ?_ | refine w_skipB ?_ | refine w_exitS ?_ | refine w_exitB ?_ | refine w_exitN rfl ?_ | refine w_exitL ?_ | refine w_retS ?_ | refine w_retB ?_ | refine w_retL ?_ | refine w_condT (by simp (disch := omega) only [go_sem, p0, k1, k2, fb, Int.sign_zero]; with_reducible rfl) (by with_reducible rfl) ?_ | refine w_condF (by simp (disch := omega) only [go_sem, p0, k1, k2, fb, Int.sign_zero]; with_reducible rfl) (by with_reducible rfl) ?_ | fail))
    (first | refine w_fini ?_ | refine w_finiN ?_); simp (disch := omega) only [go_sem]
  · -- x < 0 0 < y R ≠ 0
    have n1 : ((x.natAbs : Nat) : Int) = -x := by omega
    have n2 : ((y.natAbs : Nat) : Int) = y := by omega
    rw [n1, n2] at hmul
    try rw [Int.neg_mul] at hmul
    have du : decide (x < 0) = true := by simp; omega
    have dv : decide (y < 0) = false := by simp; omega
    rw [dv] at eb
    rw [du] at ea
    have fb := eb.symm
    have k1 := m1 true
    have k2 := m2 true
    simp only [sg, if_true, if_false, Bool.false_eq_true] at k1 k2
    obtain ⟨f1, f2⟩ := fdiv_unique (x := x) (y := y) (q := (-(Q : Int) - 1)) (r := (-(R : Int) + y)) (by first | omega | (simp only [Int.mul_neg, Int.mul_sub, Int.mul_one]; omega) | (simp only [Int.mul_neg, Int.mul_sub, Int.mul_one] at *; omega)) (by omega)
    rw [f1, f2, ea, eb]
    refine runs_w rfl rfl ?_
    have s0 : (-(R : Int)).sign ≠ 0 := fun h => by have := Int.sign_eq_zero_iff_zero.1 h; omega
    (repeat (first | refine w_seq ?_ | refine w_block ?_ | refine w_regS (by simp (disch := omega) only [go_sem, p0, k1, k2, fb, Int.sign_zero]; with_reducible rfl) ?_ | refine w_reg (by simp (disch := omega) only [go_sem, p0, k1, k2, fb, Int.sign_zero]; with_reducible rfl) ?_ | refine w_skipS ?_ | refine w_skipB ?_ | refine w_exitS ?_ | refine w_exitB ?_ | refine w_exitN rfl ?_ | refine w_exitL ?_ | refine w_retS ?_ | refine w_retB ?_ | refine w_retL ?_ | refine w_condT (by simp (disch := omega) only [go_sem, p0, k1, k2, fb, Int.sign_zero]; with_reducible rfl) (by with_reducible rfl) ?_ | refine w_condF (by simp (disch := omega) only [go_sem, p0, k1, k2, fb, Int.sign_zero]; with_reducible rfl) (by with_reducible rfl) ?_ | fail))
    (first | refine w_fini ?_ | refine w_finiN ?_); simp (disch := omega) only [go_sem]
  · -- 0 ≤ x y < 0 R = 0
    have n1 : ((x.natAbs : Nat) : Int) = x := by omega
    have n2 : ((y.natAbs : Nat) : Int) = -y := by omega
    rw [n1, n2] at hmul
    try rw [Int.neg_mul] at hmul
    have du : decide (x < 0) = false := by simp; omega
    have dv : decide (y < 0) = true := by simp; omega
    rw [dv] at eb
    rw [du] at ea
    have fb := eb.symm
    subst hR0
    have z0 : sg false ((0 : Nat) : Int) = 0 := rfl
    have k1 := m1 true
    have k2 := m2 false
    rw [z0] at k2
    simp only [sg, if_true, if_false, Bool.false_eq_true] at k1 k2
    obtain ⟨f1, f2⟩ := fdiv_unique (x := x) (y := y) (q := -(Q : Int)) (r := 0) (by first | omega | (simp only [Int.mul_neg, Int.mul_sub, Int.mul_one]; omega) | (simp only [Int.mul_neg, Int.mul_sub, Int.mul_one] at *; omega)) (by omega)
    rw [f1, f2, ea, eb]
    refine runs_w rfl rfl ?_
    (repeat (first | refine w_seq ?_ | refine w_block ?_ | refine w_regS (by simp (disch := omega) only [go_sem, p0, k1, k2, fb, Int.sign_zero]; with_reducible rfl) ?_ | refine w_reg (by simp (disch := omega) only [go_sem, p0, k1, k2, fb, Int.sign_zero]; with_reducible rfl) ?_ | refine w_skipS ?_ | refine w_skipB ?_ | refine w_exitS ?_ | refine w_exitB ?_ | refine w_exitN rfl ?_ | refine w_exitL ?_ | refine w_retS ?_ | refine w_retB ?_ | refine w_retL ?_ | refine w_condT (by simp (disch := omega) only [go_sem, p0, k1, k2, fb, Int.sign_zero]; with_reducible rfl) (by with_reducible rfl) ?_ | refine w_condF (by simp (disch := omega) only [go_sem, p0, k1, k2, fb, Int.sign_zero]; with_reducible rfl) (by with_reducible rfl) ?_ | fail))
    (first | refine w_fini ?_ | refine w_finiN ?_); simp (disch := omega) only [go_sem]
  · -- 0 ≤ x y < 0 R ≠ 0
    have n1 : ((x.natAbs : Nat) : Int) = x := by omega
    have n2 : ((y.natAbs : Nat) : Int) = -y := by omega
    rw [n1, n2] at hmul
    try rw [Int.neg_mul] at hmul
    have du : decide (x < 0) = false := by simp; omega
    have dv : decide (y < 0) = true := by simp; omega
    rw [dv] at eb
    rw [du] at ea
    have fb := eb.symm
    have k1 := m1 true
    have k2 := m2 false
    simp only [sg, if_true, if_false, Bool.false_eq_true] at k1 k2
    obtain ⟨f1, f2⟩ := fdiv_unique (x := x) (y := y) (q := (-(Q : Int) - 1)) (r := ((R : Int) + y)) (by first | omega | (simp only [Int.mul_neg, Int.mul_sub, Int.mul_one]; omega) | (simp only [Int.mul_neg, Int.mul_sub, Int.mul_one] at *; omega)) (by omega)
    rw [f1, f2, ea, eb]
    refine runs_w rfl rfl ?_
    have s0 : ((R : Int)).sign ≠ 0 := fun h => by have := Int.sign_eq_zero_iff_zero.1 h; omega
    (repeat (first | refine w_seq ?_ | refine w_block ?_ | refine w_regS (by simp (disch := omega) only [go_sem, p0, k1, k2, fb, Int.sign_zero]; with_reducible rfl) ?_ | refine w_reg (by simp (disch := omega) only [go_sem, p0, k1, k2, fb, Int.sign_zero]; with_reducible rfl) ?_ | refine w_skipS ?_ | refine w_skipB ?_ | refine w_exitS ?_ | refine w_exitB ?_ | refine w_exitN rfl ?_ | refine w_exitL ?_ | refine w_retS ?_ | refine w_retB ?_ | refine w_retL ?_ | refine w_condT (by simp (disch := omega) only [go_sem, p0, k1, k2, fb, Int.sign_zero]; with_reducible rfl) (by with_reducible rfl) ?_ | refine w_condF (by simp (disch := omega) only [go_sem, p0, k1, k2, fb, Int.sign_zero]; with_reducible rfl) (by with_reducible rfl) ?_ | fail))
    (first | refine w_fini ?_ | refine w_finiN ?_); simp (disch := omega) only [go_sem]
  · -- 0 ≤ x 0 < y R = 0
    have n1 : ((x.natAbs : Nat) : Int) = x := by omega
    have n2 : ((y.natAbs : Nat) : Int) = y := by omega
    rw [n1, n2] at hmul
    try rw [Int.neg_mul] at hmul
    have du : decide (x < 0) = false := by simp; omega
    have dv : decide (y < 0) = false := by simp; omega
    rw [dv] at eb
    rw [du] at ea
    have fb := eb.symm
    subst hR0
    have z0 : sg false ((0 : Nat) : Int) = 0 := rfl
    have k1 := m1 false
    have k2 := m2 false
    rw [z0] at k2
    simp only [sg, if_true, if_false, Bool.false_eq_true] at k1 k2
    obtain ⟨f1, f2⟩ := fdiv_unique (x := x) (y := y) (q := (Q : Int)) (r := 0) (by first | omega | (simp only [Int.mul_neg, Int.mul_sub, Int.mul_one]; omega) | (simp only [Int.mul_neg, Int.mul_sub, Int.mul_one] at *; omega)) (by omega)
    rw [f1, f2, ea, eb]
    refine runs_w rfl rfl ?_
    (repeat (first | refine w_seq ?_ | refine w_block ?_ | refine w_regS (by simp (disch := omega) only [go_sem, p0, k1, k2, fb, Int.sign_zero]; with_reducible rfl) ?_ | refine w_reg (by simp (disch := omega) only [go_sem, p0, k1, k2, fb, Int.sign_zero]; with_reducible rfl) ?_ | refine w_skipS ?_ | refine w_skipB ?_ | refine w_exitS ?_ | refine w_exitB ?_ | refine w_exitN rfl ?_ | refine w_exitL ?_ | refine w_retS ?_ | refine w_retB ?_ | refine w_retL ?_ | refine w_condT (by simp (disch := omega) only [go_sem, p0, k1, k2, fb, Int.sign_zero]; with_reducible rfl) (by with_reducible rfl) ?_ | refine w_condF (by simp (disch := omega) only [go_sem, p0, k1, k2, fb, Int.sign_zero]; with_reducible rfl) (by with_reducible rfl) ?_ | fail))
    (first | refine w_fini ?_ | refine w_finiN ?_); simp (disch := omega) only [go_sem]
  · -- 0 ≤ x 0 < y R ≠ 0
    have n1 : ((x.natAbs : Nat) : Int) = x := by omega
    have n2 : ((y.natAbs : Nat) : Int) = y := by omega
    rw [n1, n2] at hmul
    try rw [Int.neg_mul] at hmul
    have du : decide (x < 0) = false := by simp; omega
    have dv : decide (y < 0) = false := by simp; omega
    rw [dv] at eb
    rw [du] at ea
    have fb := eb.symm
    have k1 := m1 false
    have k2 := m2 false
    simp only [sg, if_true, if_false, Bool.false_eq_true] at k1 k2
    obtain ⟨f1, f2⟩ := fdiv_unique (x := x) (y := y) (q := (Q : Int)) (r := (R : Int)) (by first | omega | (simp only [Int.mul_neg, Int.mul_sub, Int.mul_one]; omega) | (simp only [Int.mul_neg, Int.mul_sub, Int.mul_one] at *; omega)) (by omega)
    rw [f1, f2, ea, eb]
    refine runs_w rfl rfl ?_
    have s0 : ((R : Int)).sign ≠ 0 := fun h => by have := Int.sign_eq_zero_iff_zero.1 h; omega
    (repeat (first | refine w_seq ?_ | refine w_block ?_ | refine w_regS (by simp (disch := omega) only [go_sem, p0, k1, k2, fb, Int.sign_zero]; with_reducible rfl) ?_ | refine w_reg (by simp (disch := omega) only [go_sem, p0, k1, k2, fb, Int.sign_zero]; with_reducible rfl) ?_ | refine w_skipS ?_ | refine w_skipB ?_ | refine w_exitS ?_ | refine w_exitB ?_ | refine w_exitN rfl ?_ | refine w_exitL ?_ | refine w_retS ?_ | refine w_retB ?_ | refine w_retL ?_ | refine w_condT (by simp (disch := omega) only [go_sem, p0, k1, k2, fb, Int.sign_zero]; with_reducible rfl) (by with_reducible rfl) ?_ | refine w_condF (by simp (disch := omega) only [go_sem, p0, k1, k2, fb, Int.sign_zero]; with_reducible rfl) (by with_reducible rfl) ?_ | fail))
    (first | refine w_fini ?_ | refine w_finiN ?_); simp (disch := omega) only [go_sem]
attribute [go_sem] quo_zero quo_lim
end Go.Proofs.Ytbdknlejnacmgaa.Pi.W
end
