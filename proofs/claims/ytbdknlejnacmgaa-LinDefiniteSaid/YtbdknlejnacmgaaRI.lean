/-
  LinDefinite on our machine: the rest.
-/
import Derived.Test.YtbdknlejnacmgaaRH
import Derived.Test.YtbdknlejnacmgaaR
namespace Go.Proofs.Ytbdknlejnacmgaa.Pi.W
open Go Num
set_option linter.unusedVariables false
set_option linter.unusedSimpArgs false
set_option maxRecDepth 100000

theorem qf_form (n : Nat) (φ : Nat → Nat → Int) (x : Nat → Int) : qf n φ x = form n φ x := rfl

section
attribute [local irreducible] B_law07_LinDefinite_3
theorem defi_rest (n : Nat) (φ : Nat → Nat → Int) (x : Nat → Int) (so : Bool) (g : Nat) (hn : n ≤ 6) (ha : ∀ i, i < n → ∀ j, j < n → sz (φ i j) ≤ 2) (hx : ∀ i, i < n → sz (x i) ≤ 2) (hso : so = true ↔ ∃ j, j < n ∧ x j ≠ 0) :
    Wp tab T_law07_LinDefinite_5 ⟨[(5, .bool true), (6, Mx n n φ), (9, Rw n x), (11, .bool so), (12, .int .i64 (n : Nat)), (42, .bool false)], [], [], g⟩ (kF [.tmp 4] false none ⟨[.bool true], [], none⟩) := by
  have hψ : ∀ i, i < n → ∀ j, j < n → sz (mm n (fun i j => φ j i) φ i j) ≤ 12 := fun i hi j hj => by
    have q1 : sz (mm n (fun i j => φ j i) φ i j) ≤ 4 + n := sz_sumN (f := fun k => φ k i * φ k j) fun k hk => by
      have q2 := sz_mul (φ k i) (φ k j)
      have q3 := ha k hk i hi
      have q4 := ha k hk j hj
      omega
    omega
  have hγ : ∀ i, i < n → ∀ j, j < n → sz (gram n φ i j) ≤ 16 := fun i hi j hj => by
    unfold gram
    split
    · have q1 := hψ i hi i hi
      have q2 := sz_add (mm n (fun i j => φ j i) φ i i) 1
      have q3 : sz 1 ≤ 2 := sz_i64 (by omega) (by omega)
      omega
    · have := hψ i hi j hj; omega
  have t1 := turnedmat_lim n φ (by omega)
  have m1 := mulmat_lim n (fun i j => φ j i) φ 2 2 (by omega) (by omega) (by omega) (fun i k hi hk => ha k hk i hi) fun i k hi hk => ha i hi k hk
  have hD : Defn n (gram n φ) := ⟨fun i hi j hj => gram_sym n φ i j, fun k hk => minors_of_above (fun i hi j hj => gram_sym n φ i j) (gram_above n φ) (k + 1) (by omega)⟩
  have hdp : 0 < det n (gram n φ) := minors_of_above (fun i hi j hj => gram_sym n φ i j) (gram_above n φ) n (Nat.le_refl _)
  have c1 := definite_lim n 16 (gram n φ) true (by omega) (by omega) (by omega) hγ ⟨fun _ => hD, fun _ => rfl⟩
  have c2 := quadmat_lim n (gram n φ) x 16 2 (by omega) (by omega) (by omega) (fun i k hi hk => hγ i hi k hk) hx
  have c3 := det_lim n 16 (gram n φ) (by omega) (by omega) (by omega) hγ
  have c5 := quadmat_lim n φ x 2 2 (by omega) (by omega) (by omega) (fun i k hi hk => ha i hi k hk) hx
  have z1 := sz_det n 16 (gram n φ) (by omega) (by omega) (by omega) hγ
  have z2 : sz (qf n (gram n φ) x) ≤ 100 := by
    have : sz (qf n (gram n φ) x) ≤ (16 + 2 + n + 2) + n := sz_sumN (f := fun k => x k * mv n (gram n φ) x k) fun k hk => by
      have q1 := sz_mul (x k) (mv n (gram n φ) x k)
      have q2 := hx k hk
      have q3 := sz_mv (S := 16) (T := 2) (fun i k hi hk => hγ i hi k hk) hx hk
      omega
    omega
  have z3 : sz (qf n φ x) ≤ 100 := by
    have : sz (qf n φ x) ≤ (2 + 2 + n + 2) + n := sz_sumN (f := fun k => x k * mv n φ x k) fun k hk => by
      have q1 := sz_mul (x k) (mv n φ x k)
      have q2 := hx k hk
      have q3 := sz_mv (S := 2) (T := 2) (fun i k hi hk => ha i hi k hk) hx hk
      omega
    omega
  have p3 : (det n (gram n φ)).sign = 1 := Int.sign_eq_one_of_pos hdp
  obtain ⟨own, hown⟩ : ∃ b : Bool, b = true ↔ Defn n φ := by
    by_cases h : Defn n φ
    · exact ⟨true, fun _ => h, fun _ => rfl⟩
    · exact ⟨false, fun q => by simp at q, fun q => absurd q h⟩
  have c4 := definite_lim n 2 φ own (by omega) (by omega) (by omega) ha hown
  have p1 : so = true → (qf n (gram n φ) x).sign = 1 := fun h => Int.sign_eq_one_of_pos (gram_above n φ x (hso.1 h))
  have p2 : so = false → (qf n (gram n φ) x).sign = 0 := fun h => by
    have : qf n (gram n φ) x = 0 := form_zero n (gram n φ) x fun i hi => Classical.byContradiction fun q => by
      have := hso.2 ⟨i, hi, q⟩
      rw [h] at this; cases this
    rw [this]; rfl
  have p4 : own = true → so = true → (qf n φ x).sign = 1 := fun h1 h2 => by
    have hd := hown.1 h1
    refine Int.sign_eq_one_of_pos (above_of_minors (n := n) (fun i hi j hj => ?_) (fun k hk => ?_) x (hso.1 h2))
    · rcases Nat.lt_trichotomy i j with h | h | h
      · exact (hd.1 j hj i h).symm
      · subst h; rfl
      · exact hd.1 i hi j h
    · cases k with
      | zero => show (0 : Int) < 1; decide
      | succ k => exact hd.2 k (by omega)
  (repeat (first | refine w_seq ?_ | refine w_block ?_ | refine w_regS (by simp (disch := omega) only [go_sem, t1, m1]; with_reducible rfl) ?_ | refine w_reg (by simp (disch := omega) only [go_sem, t1, m1]; with_reducible rfl) ?_ | refine w_skipS ?_ | refine w_skipB ?_ | refine w_exitS ?_ | refine w_exitB ?_ | refine w_exitN rfl ?_ | refine w_exitL ?_ | refine w_retS ?_ | refine w_retB ?_ | refine w_retL ?_ | refine w_condT (by simp (disch := omega) only [go_sem, t1, m1]; with_reducible rfl) (by with_reducible rfl) ?_ | refine w_condF (by simp (disch := omega) only [go_sem, t1, m1]; with_reducible rfl) (by with_reducible rfl) ?_ | fail))
  refine defi_3 n φ x so _ _ _ hn hψ fun g1 X g' hX => ?_
  generalize det n (gram n φ) = dg at *
  generalize qf n (gram n φ) x = qg at *
  generalize qf n φ x = qp at *
  generalize gram n φ = γ at *
  by_cases h0 : n = 0
  · subst h0
    have w1 : chl 16 g1 0 0 (fun t => t) = [] := rfl
    have w2 : RO 0 0 γ = [] := rfl
    have w3 : PV.view [] = Mx 0 0 γ := rfl
    rw [w1, w2, show decide ((0 : Nat) = 0) = true from rfl]
    rcases hX with rfl | ⟨gx, rfl⟩
    all_goals
      cases so
      all_goals
        cases own
        all_goals
          first | have p5 := p1 rfl | have p5 := p2 rfl
          first | have p6 := p4 rfl rfl | have p6 := p3
          (repeat (first | refine w_seq ?_ | refine w_block ?_ | refine w_regS (by simp (disch := omega) only [go_sem, List.drop_nil, List.take_nil, w3, c1, c2, c3, c4, c5, p3, p5, p6]; with_reducible rfl) ?_ | refine w_reg (by simp (disch := omega) only [go_sem, List.drop_nil, List.take_nil, w3, c1, c2, c3, c4, c5, p3, p5, p6]; with_reducible rfl) ?_ | refine w_skipS ?_ | refine w_skipB ?_ | refine w_exitS ?_ | refine w_exitB ?_ | refine w_exitN rfl ?_ | refine w_exitL ?_ | refine w_retS ?_ | refine w_retB ?_ | refine w_retL ?_ | refine w_condT (by simp (disch := omega) only [go_sem, List.drop_nil, List.take_nil, w3, c1, c2, c3, c4, c5, p3, p5, p6]; with_reducible rfl) (by with_reducible rfl) ?_ | refine w_condF (by simp (disch := omega) only [go_sem, List.drop_nil, List.take_nil, w3, c1, c2, c3, c4, c5, p3, p5, p6]; with_reducible rfl) (by with_reducible rfl) ?_ | fail))
          (first | refine w_fini ?_ | refine w_finiN ?_); simp (disch := omega) only [go_sem]
  · have e7 : ∀ fz X', fzll (fz0 (⟨16, g1, fz, ⟨chl 16 g1 n n fun t => t, false⟩ :: RO n n γ⟩ :: X')) (chl 16 g1 n n fun t => t) = some (VO n n γ, List.replicate n (16, g1)) :=
      fun fz X' => fzll_z 16 g1 n n rfl γ _ fz ⟨chl 16 g1 n n fun t => t, false⟩ (by simp [efind]) n (Nat.le_refl _)
    have e8 : decide (n = 0) = false := decide_eq_false h0
    rw [e8]
    rcases hX with rfl | ⟨gx, rfl⟩
    all_goals
      cases so
      all_goals
        cases own
        all_goals
          first | have p5 := p1 rfl | have p5 := p2 rfl
          first | have p6 := p4 rfl rfl | have p6 := p3
          (repeat (first | refine w_seq ?_ | refine w_block ?_ | refine w_regS (by simp (disch := omega) only [go_sem, VO_take, VO_view, chl_len, chl_take, e7, all_tt, zin_rep, c1, c2, c3, c4, c5, p3, p5, p6]; with_reducible rfl) ?_ | refine w_reg (by simp (disch := omega) only [go_sem, VO_take, VO_view, chl_len, chl_take, e7, all_tt, zin_rep, c1, c2, c3, c4, c5, p3, p5, p6]; with_reducible rfl) ?_ | refine w_skipS ?_ | refine w_skipB ?_ | refine w_exitS ?_ | refine w_exitB ?_ | refine w_exitN rfl ?_ | refine w_exitL ?_ | refine w_retS ?_ | refine w_retB ?_ | refine w_retL ?_ | refine w_condT (by simp (disch := omega) only [go_sem, VO_take, VO_view, chl_len, chl_take, e7, all_tt, zin_rep, c1, c2, c3, c4, c5, p3, p5, p6]; with_reducible rfl) (by with_reducible rfl) ?_ | refine w_condF (by simp (disch := omega) only [go_sem, VO_take, VO_view, chl_len, chl_take, e7, all_tt, zin_rep, c1, c2, c3, c4, c5, p3, p5, p6]; with_reducible rfl) (by with_reducible rfl) ?_ | fail))
          (first | refine w_fini ?_ | refine w_finiN ?_); simp (disch := omega) only [go_sem]
end

section
attribute [local irreducible] B_law07_LinDefinite_1 T_law07_LinDefinite_5
theorem linDefinite_lim (hA : lim tab F_law07_awake [] none = some ⟨[.bool true], [], none⟩) (zss : List (List Int)) (zs : List Int) (hl : zss.length ≤ 9223372036854775807) (hls : ∀ zs ∈ zss, zs.length ≤ 9223372036854775807) (hz : ∀ zs ∈ zss, ∀ z ∈ zs, I64 z)
    (hl' : zs.length ≤ 9223372036854775807) (hz' : ∀ z ∈ zs, I64 z) : lim tab F_law07_LinDefinite [IR zss, sl i64c false zs] none = some ⟨[.bool true], [], none⟩ := by
  refine runs_w rfl rfl ?_
  by_cases hsq : Sq zss 6
  · have hr := read_yes zss 6 (by omega) hz hsq
    rw [show ((6 : Nat) : Int) = 6 from rfl] at hr
    have hn := hsq.1
    generalize zss.length = n at *
    have hli := lawlist_lim zs n (by omega) hz' hl'
    have ha : ∀ i, i < n → ∀ j, j < n → sz (ent zss i j) ≤ 2 := fun i _ j _ => sz_I64 (ent_I64 hz i j)
    have hb : ∀ i, i < n → sz (lst zs i) ≤ 2 := fun i _ => sz_I64 (lst_I64 hz' i)
    (repeat (first | refine w_seq ?_ | refine w_block ?_ | refine w_regS (by simp (disch := omega) only [go_sem, hA, hr, hli]; with_reducible rfl) ?_ | refine w_reg (by simp (disch := omega) only [go_sem, hA, hr, hli]; with_reducible rfl) ?_ | refine w_skipS ?_ | refine w_skipB ?_ | refine w_exitS ?_ | refine w_exitB ?_ | refine w_exitN rfl ?_ | refine w_exitL ?_ | refine w_retS ?_ | refine w_retB ?_ | refine w_retL ?_ | refine w_condT (by simp (disch := omega) only [go_sem, hA, hr, hli]; with_reducible rfl) (by with_reducible rfl) ?_ | refine w_condF (by simp (disch := omega) only [go_sem, hA, hr, hli]; with_reducible rfl) (by with_reducible rfl) ?_ | fail))
    refine defi_1 n (ent zss) (lst zs) _ _ hn hb fun so g' hso => ?_
    (repeat (first | refine w_seq ?_ | refine w_block ?_ | refine w_regS (by simp (disch := omega) only [go_sem]; with_reducible rfl) ?_ | refine w_reg (by simp (disch := omega) only [go_sem]; with_reducible rfl) ?_ | refine w_skipS ?_ | refine w_skipB ?_ | refine w_exitS ?_ | refine w_exitB ?_ | refine w_exitN rfl ?_ | refine w_exitL ?_ | refine w_retS ?_ | refine w_retB ?_ | refine w_retL ?_ | refine w_condT (by simp (disch := omega) only [go_sem]; with_reducible rfl) (by with_reducible rfl) ?_ | refine w_condF (by simp (disch := omega) only [go_sem]; with_reducible rfl) (by with_reducible rfl) ?_ | fail))
    exact defi_rest n (ent zss) (lst zs) so _ hn ha hb hso
  · have hr := read_no zss 6 (by omega) hl hls hsq
    rw [show ((6 : Nat) : Int) = 6 from rfl] at hr
    (repeat (first | refine w_seq ?_ | refine w_block ?_ | refine w_regS (by simp (disch := omega) only [go_sem, hA, hr]; with_reducible rfl) ?_ | refine w_reg (by simp (disch := omega) only [go_sem, hA, hr]; with_reducible rfl) ?_ | refine w_skipS ?_ | refine w_skipB ?_ | refine w_exitS ?_ | refine w_exitB ?_ | refine w_exitN rfl ?_ | refine w_exitL ?_ | refine w_retS ?_ | refine w_retB ?_ | refine w_retL ?_ | refine w_condT (by simp (disch := omega) only [go_sem, hA, hr]; with_reducible rfl) (by with_reducible rfl) ?_ | refine w_condF (by simp (disch := omega) only [go_sem, hA, hr]; with_reducible rfl) (by with_reducible rfl) ?_ | fail))
    (first | refine w_fini ?_ | refine w_finiN ?_); simp (disch := omega) only [go_sem]
end
end Go.Proofs.Ytbdknlejnacmgaa.Pi.W
