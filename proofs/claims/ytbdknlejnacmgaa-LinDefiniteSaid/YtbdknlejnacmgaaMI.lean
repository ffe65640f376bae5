/-
  Package lin on our machine: Definite.
-/
import Derived.Test.YtbdknlejnacmgaaM
import Derived.Test.YtbdknlejnacmgaaNumF
namespace Go.Proofs.Ytbdknlejnacmgaa.Pi.W
open Go Num
set_option linter.unusedVariables false
set_option linter.unusedSimpArgs false
set_option maxRecDepth 100000

/-- The same for rows as for columns, the leading minors above 0. -/
def Defn (n : Nat) (φ : Nat → Nat → Int) : Prop := (∀ i, i < n → ∀ j, j < i → φ i j = φ j i) ∧ ∀ k, k < n → 0 < det (k + 1) φ

theorem definite1_lim (n p q : Nat) (φ : Nat → Nat → Int) (hp : p < n) (hq : q < n) : lim tab F_lin_Mat_Definite_1 [.int .i64 (p : Int), .int .i64 (q : Int), .vptr [Mx n n φ]] none = some ⟨[Z (φ p q)], [], none⟩ := by
  refine runs_w rfl rfl ?_
  (repeat (first | refine w_seq ?_ | refine w_block ?_ | refine w_regS (by simp (disch := omega) only [go_sem]; with_reducible rfl) ?_ | refine w_reg (by simp (disch := omega) only [go_sem]; with_reducible rfl) ?_ | refine w_skipS ?_ | refine w_skipB ?_ | refine w_exitS ?_ | refine w_exitB ?_ | refine w_exitN rfl ?_ | refine w_exitL ?_ | refine w_retS ?_ | refine w_retB ?_ | refine w_retL ?_ | refine w_condT (by simp (disch := omega) only [go_sem]; with_reducible rfl) (by with_reducible rfl) ?_ | refine w_condF (by simp (disch := omega) only [go_sem]; with_reducible rfl) (by with_reducible rfl) ?_ | fail))
  (first | refine w_fini ?_ | refine w_finiN ?_); simp (disch := omega) only [go_sem]

section
attribute [local irreducible] T_lin_Mat_Definite_3
theorem definite_in (n i S : Nat) (φ : Nat → Nat → Int) (b fz : Bool) (g : Nat) (Q : PEx → St → Prop) (hi : i < n) (hn : n ≤ 12) (hS : S ≤ 33554430) (ha : ∀ i, i < n → ∀ j, j < n → sz (φ i j) ≤ S) (hb : b = true → ∀ j, j < i → φ i j = φ j i)
    (hQ : ∀ g', (∀ j, j < i → φ i j = φ j i) → Wp tab .skip ⟨[(1, .optr ⟨2, 1, 0⟩ 0 0), (3, .int .i64 (i : Nat)), (7, .int .i64 (n : Nat)), (8, .int .i64 (i : Nat)), (11, .int .i64 (i : Nat)), (12, .int .i64 (i : Nat)), (13, .bool false)], [⟨2, 1, fz, [⟨[[Mx n n φ]], true⟩]⟩], [], g'⟩ Q)
    (hR : ∀ g', b = false → Wp tab .ret ⟨[(2, .bool false)], [], [], g'⟩ Q) :
    Wp tab (.loop B_lin_Mat_Definite_2) ⟨[(1, .optr ⟨2, 1, 0⟩ 0 0), (3, .int .i64 (i : Nat)), (7, .int .i64 (n : Nat)), (8, .int .i64 (i : Nat)), (11, .int .i64 (i : Nat)), (12, .int .i64 0)], [⟨2, 1, fz, [⟨[[Mx n n φ]], true⟩]⟩], [], g⟩ (kB 2 Q) := by
  refine w_loop (fun m s => ∃ j g', j + m = i ∧ (∀ j', j' < j → φ i j' = φ j' i) ∧ s = ⟨[(1, .optr ⟨2, 1, 0⟩ 0 0), (3, .int .i64 (i : Nat)), (7, .int .i64 (n : Nat)), (8, .int .i64 (i : Nat)), (11, .int .i64 (i : Nat)), (12, .int .i64 (j : Nat))], [⟨2, 1, fz, [⟨[[Mx n n φ]], true⟩]⟩], [], g'⟩) i ?_ ?_
  · exact ⟨0, _, by omega, fun j h => by omega, rfl⟩
  · rintro m s ⟨j, g', h1, h2, rfl⟩
    by_cases hj : j < i
    · have s1 := ha i hi j (by omega)
      have s2 := ha j (by omega) i hi
      by_cases he : φ i j = φ j i
      · have e5 : φ i j - φ j i = 0 := by omega
        (repeat (first | refine w_seq ?_ | refine w_block ?_ | refine w_regS (by simp (disch := omega) only [go_sem, e5, Int.sign_zero]; with_reducible rfl) ?_ | refine w_reg (by simp (disch := omega) only [go_sem, e5, Int.sign_zero]; with_reducible rfl) ?_ | refine w_skipS ?_ | refine w_skipB ?_ | refine w_exitS ?_ | refine w_exitB ?_ | refine w_exitN rfl ?_ | refine w_exitL ?_ | refine w_retS ?_ | refine w_retB ?_ | refine w_retL ?_ | refine w_condT (by simp (disch := omega) only [go_sem, e5, Int.sign_zero]; with_reducible rfl) (by with_reducible rfl) ?_ | refine w_condF (by simp (disch := omega) only [go_sem, e5, Int.sign_zero]; with_reducible rfl) (by with_reducible rfl) ?_ | fail))
        refine w_skipL ⟨m - 1, by omega, j + 1, _, by omega, fun j' hj' => ?_, rfl⟩
        by_cases q : j' = j
        · subst q; exact he
        · exact h2 j' (by omega)
      · have h0 : (φ i j - φ j i).sign ≠ 0 := fun h => he (by have := Int.sign_eq_zero_iff_zero.1 h; omega)
        have e6 : decide ((φ i j - φ j i).sign = 0) = false := decide_eq_false h0
        (repeat (first | refine w_seq ?_ | refine w_block ?_ | refine w_regS (by simp (disch := omega) only [go_sem, e6]; with_reducible rfl) ?_ | refine w_reg (by simp (disch := omega) only [go_sem, e6]; with_reducible rfl) ?_ | refine w_skipS ?_ | refine w_skipB ?_ | refine w_exitS ?_ | refine w_exitB ?_ | refine w_exitN rfl ?_ | refine w_exitL ?_ | refine w_retS ?_ | refine w_retB ?_ | refine w_retL ?_ | refine w_condT (by simp (disch := omega) only [go_sem, e6]; with_reducible rfl) (by with_reducible rfl) ?_ | refine w_condF (by simp (disch := omega) only [go_sem, e6]; with_reducible rfl) (by with_reducible rfl) ?_ | fail))
        refine hR _ ?_
        cases b with
        | false => rfl
        | true => exact absurd (hb rfl j hj) he
    · obtain rfl : j = i := by omega
      (repeat (first | refine w_seq ?_ | refine w_block ?_ | refine w_regS (by simp (disch := omega) only [go_sem]; with_reducible rfl) ?_ | refine w_reg (by simp (disch := omega) only [go_sem]; with_reducible rfl) ?_ | refine w_skipS ?_ | refine w_skipB ?_ | refine w_exitS ?_ | refine w_exitB ?_ | refine w_exitN rfl ?_ | refine w_exitL ?_ | refine w_retS ?_ | refine w_retB ?_ | refine w_retL ?_ | refine w_condT (by simp (disch := omega) only [go_sem]; with_reducible rfl) (by with_reducible rfl) ?_ | refine w_condF (by simp (disch := omega) only [go_sem]; with_reducible rfl) (by with_reducible rfl) ?_ | fail))
      exact hQ _ h2
end

section
attribute [local irreducible] B_lin_Mat_Definite_2
theorem definite_lim (n S : Nat) (φ : Nat → Nat → Int) (b : Bool) (hn : n ≤ 12) (hS : S ≤ 33554430) (h1S : 1 ≤ S) (ha : ∀ i, i < n → ∀ j, j < n → sz (φ i j) ≤ S) (hb : b = true ↔ Defn n φ) : lim tab F_lin_Mat_Definite [Mx n n φ] none = some ⟨[.bool b], [], none⟩ := by
  refine runs_w rfl rfl ?_
  (repeat (first | refine w_seq ?_ | refine w_block ?_ | refine w_regS (by simp (disch := omega) only [go_sem]; with_reducible rfl) ?_ | refine w_reg (by simp (disch := omega) only [go_sem]; with_reducible rfl) ?_ | refine w_skipS ?_ | refine w_skipB ?_ | refine w_exitS ?_ | refine w_exitB ?_ | refine w_exitN rfl ?_ | refine w_exitL ?_ | refine w_retS ?_ | refine w_retB ?_ | refine w_retL ?_ | refine w_condT (by simp (disch := omega) only [go_sem]; with_reducible rfl) (by with_reducible rfl) ?_ | refine w_condF (by simp (disch := omega) only [go_sem]; with_reducible rfl) (by with_reducible rfl) ?_ | fail))
  refine w_loop (fun m s => ∃ i fz g', i + m = n ∧ (∀ i', i' < i → ∀ j, j < i' → φ i' j = φ j i') ∧ (∀ k, k < i → 0 < det (k + 1) φ) ∧ s = ⟨[(1, .optr ⟨2, 1, 0⟩ 0 0), (7, .int .i64 (n : Nat)), (8, .int .i64 (i : Nat))], [⟨2, 1, fz, [⟨[[Mx n n φ]], true⟩]⟩], [], g'⟩) n ?_ ?_
  · exact ⟨0, _, _, by omega, fun j h => by omega, fun j h => by omega, rfl⟩
  · rintro m s ⟨i, fz, g', h1, h2, h3, rfl⟩
    by_cases hi : i < n
    · (repeat (first | refine w_seq ?_ | refine w_block ?_ | refine w_regS (by simp (disch := omega) only [go_sem]; with_reducible rfl) ?_ | refine w_reg (by simp (disch := omega) only [go_sem]; with_reducible rfl) ?_ | refine w_skipS ?_ | refine w_skipB ?_ | refine w_exitS ?_ | refine w_exitB ?_ | refine w_exitN rfl ?_ | refine w_exitL ?_ | refine w_retS ?_ | refine w_retB ?_ | refine w_retL ?_ | refine w_condT (by simp (disch := omega) only [go_sem]; with_reducible rfl) (by with_reducible rfl) ?_ | refine w_condF (by simp (disch := omega) only [go_sem]; with_reducible rfl) (by with_reducible rfl) ?_ | fail))
      refine definite_in n i S φ b _ _ _ hi hn hS ha (fun h => (hb.1 h).1 i hi) (fun g2 h4 => ?_) (fun g2 h4 => ?_)
      · have d1 := det_lim (i + 1) S φ (by omega) (by omega) h1S fun p hp q hq => ha p (by omega) q (by omega)
        have m1 := mademat_lim F_lin_Mat_Definite_1 [.vptr [Mx n n φ]] (i + 1) φ (by omega) (fun h => rfl) rfl fun p q hp hq => definite1_lim n p q φ (by omega) (by omega)
        have s1 := sz_det (i + 1) S φ (by omega) (by omega) h1S fun p hp q hq => ha p (by omega) q (by omega)
        by_cases hd : 0 < det (i + 1) φ
        · have h0 : ¬ (det (i + 1) φ).sign ≤ 0 := by rw [Int.sign_eq_one_of_pos hd]; omega
          have e6 : decide ((det (i + 1) φ).sign ≤ 0) = false := decide_eq_false h0
          (repeat (first | refine w_seq ?_ | refine w_block ?_ | refine w_regS (by simp (disch := omega) only [go_sem, d1, m1, e6]; with_reducible rfl) ?_ | refine w_reg (by simp (disch := omega) only [go_sem, d1, m1, e6]; with_reducible rfl) ?_ | refine w_skipS ?_ | refine w_skipB ?_ | refine w_exitS ?_ | refine w_exitB ?_ | refine w_exitN rfl ?_ | refine w_exitL ?_ | refine w_retS ?_ | refine w_retB ?_ | refine w_retL ?_ | refine w_condT (by simp (disch := omega) only [go_sem, d1, m1, e6]; with_reducible rfl) (by with_reducible rfl) ?_ | refine w_condF (by simp (disch := omega) only [go_sem, d1, m1, e6]; with_reducible rfl) (by with_reducible rfl) ?_ | fail))
          refine w_skipL ⟨m - 1, by omega, i + 1, _, _, by omega, fun i' hi' j hj => ?_, fun k hk => ?_, rfl⟩
          · by_cases q : i' = i
            · subst q; exact h4 j hj
            · exact h2 i' (by omega) j hj
          · by_cases q : k = i
            · subst q; exact hd
            · exact h3 k (by omega)
        · have h0 : (det (i + 1) φ).sign ≤ 0 := by
            rcases Int.lt_or_eq_of_le (show det (i + 1) φ ≤ 0 by omega) with h | h
            · rw [Int.sign_eq_neg_one_of_neg h]; omega
            · rw [h, Int.sign_zero]; omega
          have e6 : decide ((det (i + 1) φ).sign ≤ 0) = true := decide_eq_true h0
          have hbf : b = false := by
            cases b with
            | false => rfl
            | true => exact absurd ((hb.1 rfl).2 i hi) hd
          subst hbf
          (repeat (first | refine w_seq ?_ | refine w_block ?_ | refine w_regS (by simp (disch := omega) only [go_sem, d1, m1, e6]; with_reducible rfl) ?_ | refine w_reg (by simp (disch := omega) only [go_sem, d1, m1, e6]; with_reducible rfl) ?_ | refine w_skipS ?_ | refine w_skipB ?_ | refine w_exitS ?_ | refine w_exitB ?_ | refine w_exitN rfl ?_ | refine w_exitL ?_ | refine w_retS ?_ | refine w_retB ?_ | refine w_retL ?_ | refine w_condT (by simp (disch := omega) only [go_sem, d1, m1, e6]; with_reducible rfl) (by with_reducible rfl) ?_ | refine w_condF (by simp (disch := omega) only [go_sem, d1, m1, e6]; with_reducible rfl) (by with_reducible rfl) ?_ | fail))
          (first | refine w_fini ?_ | refine w_finiN ?_); simp (disch := omega) only [go_sem]
      · subst h4
        (repeat (first | refine w_seq ?_ | refine w_block ?_ | refine w_regS (by simp (disch := omega) only [go_sem]; with_reducible rfl) ?_ | refine w_reg (by simp (disch := omega) only [go_sem]; with_reducible rfl) ?_ | refine w_skipS ?_ | refine w_skipB ?_ | refine w_exitS ?_ | refine w_exitB ?_ | refine w_exitN rfl ?_ | refine w_exitL ?_ | refine w_retS ?_ | refine w_retB ?_ | refine w_retL ?_ | refine w_condT (by simp (disch := omega) only [go_sem]; with_reducible rfl) (by with_reducible rfl) ?_ | refine w_condF (by simp (disch := omega) only [go_sem]; with_reducible rfl) (by with_reducible rfl) ?_ | fail))
        (first | refine w_fini ?_ | refine w_finiN ?_); simp (disch := omega) only [go_sem]
    · obtain rfl : i = n := by omega
      have hbt : b = true := hb.2 ⟨h2, h3⟩
      subst hbt
      (repeat (first | refine w_seq ?_ | refine w_block ?_ | refine w_regS (by simp (disch := omega) only [go_sem]; with_reducible rfl) ?_ | refine w_reg (by simp (disch := omega) only [go_sem]; with_reducible rfl) ?_ | refine w_skipS ?_ | refine w_skipB ?_ | refine w_exitS ?_ | refine w_exitB ?_ | refine w_exitN rfl ?_ | refine w_exitL ?_ | refine w_retS ?_ | refine w_retB ?_ | refine w_retL ?_ | refine w_condT (by simp (disch := omega) only [go_sem]; with_reducible rfl) (by with_reducible rfl) ?_ | refine w_condF (by simp (disch := omega) only [go_sem]; with_reducible rfl) (by with_reducible rfl) ?_ | fail))
      (first | refine w_fini ?_ | refine w_finiN ?_); simp (disch := omega) only [go_sem]
end
end Go.Proofs.Ytbdknlejnacmgaa.Pi.W
