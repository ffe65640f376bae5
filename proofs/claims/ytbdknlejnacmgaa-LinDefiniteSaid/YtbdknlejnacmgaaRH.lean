/-
  LinDefinite on our machine.
-/
import Derived.Test.YtbdknlejnacmgaaRX
import Derived.Test.YtbdknlejnacmgaaMI
import Derived.Test.YtbdknlejnacmgaaNumG
namespace Go.Proofs.Ytbdknlejnacmgaa.Pi.W
open Go Num
set_option linter.unusedVariables false
set_option linter.unusedSimpArgs false
set_option maxRecDepth 100000

theorem RO_put (c j : Nat) (ρ : Nat → Nat → Int) (f : Nat → Int) : RO j c ρ ++ [⟨((List.range c).map f).map zc, true⟩] = RO (j + 1) c fun t => if t = j then f else ρ t := by
  unfold RO
  rw [List.range_succ, List.map_append]
  congr 1
  · exact List.map_congr_left fun t ht => by
      show ro c (ρ t) = ro c (if t = j then f else ρ t)
      rw [if_neg (by have := List.mem_range.1 ht; omega)]
  · simp [ro]
theorem RO_congr {r c : Nat} {ρ σ : Nat → Nat → Int} (h : ∀ t, t < r → ∀ s, s < c → ρ t s = σ t s) : RO r c ρ = RO r c σ := by
  unfold RO
  refine List.map_congr_left fun t ht => ?_
  unfold ro
  congr 2
  exact List.map_congr_left fun s hs => h t (List.mem_range.1 ht) s (List.mem_range.1 hs)

/-- Whether a list is not 0 alone. -/
theorem defi_1 (n : Nat) (φ : Nat → Nat → Int) (x : Nat → Int) (g : Nat) (Q : PEx → St → Prop) (hn : n ≤ 6) (hx : ∀ i, i < n → sz (x i) ≤ 2)
    (hQ : ∀ so g', (so = true ↔ ∃ j, j < n ∧ x j ≠ 0) → Wp tab .skip ⟨[(5, .bool true), (6, Mx n n φ), (9, Rw n x), (11, .bool so), (12, .int .i64 (n : Nat)), (42, .bool false)], [], [], g'⟩ Q) :
    Wp tab (.loop B_law07_LinDefinite_1) ⟨[(5, .bool true), (6, Mx n n φ), (9, Rw n x), (11, .bool false), (12, .int .i64 0)], [], [], g⟩ (kB 0 Q) := by
  refine w_loop (fun m s => ∃ i so g', i + m = n ∧ (so = true ↔ ∃ j, j < i ∧ x j ≠ 0) ∧ s = ⟨[(5, .bool true), (6, Mx n n φ), (9, Rw n x), (11, .bool so), (12, .int .i64 (i : Nat))], [], [], g'⟩) n ?_ ?_
  · exact ⟨0, false, _, by omega, ⟨fun h => by simp at h, fun ⟨j, h, _⟩ => by omega⟩, rfl⟩
  · rintro m s ⟨i, so, g', h1, h2, rfl⟩
    by_cases hi : i < n
    · have s1 := hx i hi
      by_cases h0 : x i = 0
      · have e1 : (x i).sign = 0 := by rw [h0]; rfl
        have h3 : so = true ↔ ∃ j, j < i + 1 ∧ x j ≠ 0 := h2.trans ⟨fun ⟨j, a, b⟩ => ⟨j, by omega, b⟩, fun ⟨j, a, b⟩ => ⟨j, by
          by_cases e : j = i
          · subst e; exact absurd h0 b
          · omega, b⟩⟩
        cases so
        all_goals
          (repeat (first | refine w_seq ?_ | refine w_block ?_ | refine w_regS (by simp (disch := omega) only [go_sem, e1]; with_reducible rfl) ?_ | refine w_reg (by simp (disch := omega) only [go_sem, e1]; with_reducible rfl) ?_ | refine w_skipS ?_ | refine w_skipB ?_ | refine w_exitS ?_ | refine w_exitB ?_ | refine w_exitN rfl ?_ | refine w_exitL ?_ | refine w_retS ?_ | refine w_retB ?_ | refine w_retL ?_ | refine w_condT (by simp (disch := omega) only [go_sem, e1]; with_reducible rfl) (by with_reducible rfl) ?_ | refine w_condF (by simp (disch := omega) only [go_sem, e1]; with_reducible rfl) (by with_reducible rfl) ?_ | fail))
          exact w_skipL ⟨m - 1, by omega, i + 1, _, _, by omega, h3, rfl⟩
      · have e1 : (x i).sign ≠ 0 := fun h => h0 (Int.sign_eq_zero_iff_zero.1 h)
        have e2 : decide ((x i).sign = 0) = false := decide_eq_false e1
        have h3 : true = true ↔ ∃ j, j < i + 1 ∧ x j ≠ 0 := ⟨fun _ => ⟨i, by omega, h0⟩, fun _ => rfl⟩
        cases so
        all_goals
          (repeat (first | refine w_seq ?_ | refine w_block ?_ | refine w_regS (by simp (disch := omega) only [go_sem, e2]; with_reducible rfl) ?_ | refine w_reg (by simp (disch := omega) only [go_sem, e2]; with_reducible rfl) ?_ | refine w_skipS ?_ | refine w_skipB ?_ | refine w_exitS ?_ | refine w_exitB ?_ | refine w_exitN rfl ?_ | refine w_exitL ?_ | refine w_retS ?_ | refine w_retB ?_ | refine w_retL ?_ | refine w_condT (by simp (disch := omega) only [go_sem, e2]; with_reducible rfl) (by with_reducible rfl) ?_ | refine w_condF (by simp (disch := omega) only [go_sem, e2]; with_reducible rfl) (by with_reducible rfl) ?_ | fail))
          exact w_skipL ⟨m - 1, by omega, i + 1, _, _, by omega, h3, rfl⟩
    · obtain rfl : i = n := by omega
      (repeat (first | refine w_seq ?_ | refine w_block ?_ | refine w_regS (by simp (disch := omega) only [go_sem]; with_reducible rfl) ?_ | refine w_reg (by simp (disch := omega) only [go_sem]; with_reducible rfl) ?_ | refine w_skipS ?_ | refine w_skipB ?_ | refine w_exitS ?_ | refine w_exitB ?_ | refine w_exitN rfl ?_ | refine w_exitL ?_ | refine w_retS ?_ | refine w_retB ?_ | refine w_retL ?_ | refine w_condT (by simp (disch := omega) only [go_sem]; with_reducible rfl) (by with_reducible rfl) ?_ | refine w_condF (by simp (disch := omega) only [go_sem]; with_reducible rfl) (by with_reducible rfl) ?_ | fail))
      exact hQ _ _ h2

/-- The matrix times its turned one, and one on the diagonal, is laid. -/
theorem defi_3 (n : Nat) (φ : Nat → Nat → Int) (x : Nat → Int) (so : Bool) (g1 g : Nat) (Q : PEx → St → Prop) (hn : n ≤ 6) (hs : ∀ i, i < n → ∀ j, j < n → sz (mm n (fun i j => φ j i) φ i j) ≤ 12)
    (hQ : ∀ g1 X g', (X = [] ∨ ∃ gx, X = [⟨72, gx, false, []⟩]) → Wp tab .skip ⟨[(5, .bool true), (6, Mx n n φ), (9, Rw n x), (11, .bool so), (14, Mx n n (mm n (fun i j => φ j i) φ)), (15, .own ⟨16, g1, 0⟩ 1 0 n), (16, .int .i64 (n : Nat)), (62, .bool false)], ⟨16, g1, false, ⟨chl 16 g1 n n (fun t => t), decide (n = 0)⟩ :: RO n n (gram n φ)⟩ :: X, [], g'⟩ Q) :
    Wp tab (.loop B_law07_LinDefinite_3) ⟨[(5, .bool true), (6, Mx n n φ), (9, Rw n x), (11, .bool so), (14, Mx n n (mm n (fun i j => φ j i) φ)), (15, .own ⟨16, g1, 0⟩ 1 0 0), (16, .int .i64 0)], [⟨16, g1, false, [⟨[], true⟩]⟩], [], g⟩ (kB 2 Q) := by
  generalize hψ : mm n (fun i j => φ j i) φ = ψ at *
  have hgr : ∀ i j, gram n φ i j = if j = i then ψ i i + 1 else ψ i j := fun i j => by rw [← hψ]; rfl
  refine w_loop (fun m s => ∃ i ρ g1 X g', i + m = n ∧ (X = [] ∨ ∃ gx, X = [⟨72, gx, false, []⟩]) ∧ (∀ t, t < i → ∀ s, s < n → ρ t s = gram n φ t s) ∧ s = ⟨[(5, .bool true), (6, Mx n n φ), (9, Rw n x), (11, .bool so), (14, Mx n n ψ), (15, .own ⟨16, g1, 0⟩ 1 0 i), (16, .int .i64 (i : Nat))], ⟨16, g1, false, ⟨chl 16 g1 n i (fun t => t), decide (i = 0)⟩ :: RO i n ρ⟩ :: X, [], g'⟩) n ?_ ?_
  · exact ⟨0, gram n φ, _, [], _, by omega, .inl rfl, fun t ht => by omega, rfl⟩
  · rintro m s ⟨i, ρ, g1, X, g', h1, hX, h2, rfl⟩
    by_cases hi : i < n
    · have s1 := hs i hi i hi
      have e3 := RO_put n i ρ (ψ i)
      have e4 := fun l g => chl_succ l g n i
      have e6 := of_lim 1 (by omega) (by omega)
      have s2 : sz 1 ≤ 2 := sz_i64 (by omega) (by omega)
      rcases hX with rfl | ⟨gx, rfl⟩
      all_goals
        (repeat (first | refine w_seq ?_ | refine w_block ?_ | refine w_regS (by simp (disch := omega) only [go_sem, chl_noself, chl_ren, chl_len, RO_len, e3, e4, e6, List.length_range, appY_row, appY_zc, elems_Rw, List.nil_append, chl_at, RO_at, List.getElem?_cons_succ, List.getElem?_range, rng_set, RO_set, if_true]; with_reducible rfl) ?_ | refine w_reg (by simp (disch := omega) only [go_sem, chl_noself, chl_ren, chl_len, RO_len, e3, e4, e6, List.length_range, appY_row, appY_zc, elems_Rw, List.nil_append, chl_at, RO_at, List.getElem?_cons_succ, List.getElem?_range, rng_set, RO_set, if_true]; with_reducible rfl) ?_ | refine w_skipS ?_ | refine w_skipB ?_ | refine w_exitS ?_ | refine w_exitB ?_ | refine w_exitN rfl ?_ | refine w_exitL ?_ | refine w_retS ?_ | refine w_retB ?_ | refine w_retL ?_ | refine w_condT (by simp (disch := omega) only [go_sem, chl_noself, chl_ren, chl_len, RO_len, e3, e4, e6, List.length_range, appY_row, appY_zc, elems_Rw, List.nil_append, chl_at, RO_at, List.getElem?_cons_succ, List.getElem?_range, rng_set, RO_set, if_true]; with_reducible rfl) (by with_reducible rfl) ?_ | refine w_condF (by simp (disch := omega) only [go_sem, chl_noself, chl_ren, chl_len, RO_len, e3, e4, e6, List.length_range, appY_row, appY_zc, elems_Rw, List.nil_append, chl_at, RO_at, List.getElem?_cons_succ, List.getElem?_range, rng_set, RO_set, if_true]; with_reducible rfl) (by with_reducible rfl) ?_ | fail))
        refine w_skipL ⟨m - 1, by omega, i + 1, _, _, _, _, by omega, .inr ⟨_, rfl⟩, fun t ht s hs => ?_, rfl⟩
        rw [hgr]
        by_cases q : t = i
        · subst q; simp
        · simp only [if_neg q]
          rw [h2 t (by omega) s hs, hgr]
    · obtain rfl : i = n := by omega
      have e1 := RO_congr h2
      rw [e1]
      rcases hX with rfl | ⟨gx, rfl⟩
      all_goals
        (repeat (first | refine w_seq ?_ | refine w_block ?_ | refine w_regS (by simp (disch := omega) only [go_sem]; with_reducible rfl) ?_ | refine w_reg (by simp (disch := omega) only [go_sem]; with_reducible rfl) ?_ | refine w_skipS ?_ | refine w_skipB ?_ | refine w_exitS ?_ | refine w_exitB ?_ | refine w_exitN rfl ?_ | refine w_exitL ?_ | refine w_retS ?_ | refine w_retB ?_ | refine w_retL ?_ | refine w_condT (by simp (disch := omega) only [go_sem]; with_reducible rfl) (by with_reducible rfl) ?_ | refine w_condF (by simp (disch := omega) only [go_sem]; with_reducible rfl) (by with_reducible rfl) ?_ | fail))
        first | exact hQ _ [] _ (.inl rfl) | exact hQ _ [_] _ (.inr ⟨_, rfl⟩)
end Go.Proofs.Ytbdknlejnacmgaa.Pi.W
