import Derived.Test.YtbdknlejnacmgaaM
import Derived.Test.YtbdknlejnacmgaaW

section
/-
  The reference's numbers on our machine: made, Of.
-/
namespace Go.Proofs.Ytbdknlejnacmgaa.Pi.W
open Go Num
set_option linter.unusedVariables false
set_option linter.unusedSimpArgs false
set_option maxRecDepth 100000

/-- A number's decimal digits. -/
def dl (n : Nat) : List Int := dig 10 n
def dc (x : Int) : List PV := [.bool (decide (x < 0)), sl i64c false (dl x.natAbs)]
def D (x : Int) : PV := .agg (dc x)
theorem dl_nil {n : Nat} : dl n = [] ↔ n = 0 := dig_nil (by omega)
theorem val_dl (n : Nat) : val 10 (dl n) = n := val_dig (B := 10) (by omega) n
theorem In_dl (n : Nat) : In 10 (dl n) := In_dig (B := 10) (by omega) n
theorem trim_dl {l : List Int} (h : In 10 l) : trim l = dl (val 10 l).toNat := trim_dig (B := 10) (by omega) h

theorem cellsOf_D (x : Int) : cellsOf (D x) = dc x := nrfl rfl
theorem dc_len (x : Int) : (dc x).length = 2 := nrfl rfl
theorem dc_flat (x : Int) : (dc x).all flat = true := by simp only [dc, List.all_cons, List.all_nil, flat_sl, flat_bool, Bool.and_self]
theorem dc_pu0 (x : Int) : (dc x).all pu0 = true := by simp only [dc, List.all_cons, List.all_nil, pu0_sl, pu0_bool, Bool.and_self]
theorem dc_set2 (a b : PV) (x : Int) : setAt [a, b] 0 (dc x) = dc x := nrfl rfl
theorem dc_set (y x : Int) : setAt (dc y) 0 (dc x) = dc x := nrfl rfl
theorem dc_setz (y x : Int) : setAt (zc y) 0 (dc x) = dc x := nrfl rfl
theorem dc_agg (x : Int) : PV.agg (dc x) = D x := nrfl rfl
theorem dc_take (x : Int) : List.take 2 (dc x) = dc x := nrfl rfl
theorem dc_pk0 (x : Int) : pk 1 false (List.take 1 (dc x)) = some (.bool (decide (x < 0))) := nrfl rfl
theorem dc_pk1 (x : Int) : pk 1 false (List.take 1 (List.drop 1 (dc x))) = some (sl i64c false (dl x.natAbs)) := nrfl rfl
theorem dc_pk1' (x : Int) : pk 1 false (List.drop 1 (dc x)) = some (sl i64c false (dl x.natAbs)) := nrfl rfl
theorem fzv_D (h : List Ent) (x : Int) : fzv h (D x) = some (D x, []) := by
  simp only [D, dc, fzv_agg, fzl, fz2_bool, fz2_sl, Option.bind_some, thn_some]; rfl
theorem zc_build (a : PV) : setAt (zc 0) 0 [a] = [a, .nil0] := by rw [← zc_0]; rfl
theorem zc_build1 (a : PV) : setAt (zc 0) 1 [a] = [.bool false, a] := by rw [← zc_0]; rfl
theorem zc_set2' (x : Int) (a b : PV) : setAt (zc x) 0 [a, b] = [a, b] := nrfl rfl
attribute [go_sem] zc_build zc_build1 zc_set2'
attribute [go_sem] cellsOf_D dc_len dc_flat dc_pu0 dc_set2 dc_set dc_setz dc_agg dc_take dc_pk0 dc_pk1 dc_pk1' fzv_D

theorem D_made (b : Bool) {l : List Int} (h : In 10 l) : PV.agg [.bool (b && decide (0 < (trim l).length)), sl i64c false (trim l)] = D (sg b (val 10 l)) := by
  have h2 := val_nonneg (B := 10) (by decide) h
  obtain ⟨v, hv⟩ := Int.eq_ofNat_of_zero_le h2
  have e1 : (sg b (val 10 l)).natAbs = v := by
    unfold sg; rw [hv]; split <;> omega
  have e2 : trim l = dl v := by rw [trim_dl h, hv]; rfl
  have e3 : (b && decide (0 < (trim l).length)) = decide (sg b (val 10 l) < 0) := by
    rw [e2, hv]
    have : (0 < (dl v).length) ↔ 0 < v := by
      rw [List.length_pos_iff, ne_eq, dl_nil]; omega
    cases b
    · simp [sg]
    · simp [sg, this]
  rw [e3]
  unfold D dc
  rw [e1, e2]

theorem dmade_lim (b : Bool) (l : List Int) (hl : l.length ≤ 1099511627776) (h : In 10 l) : lim tab F_ref01_made [.bool b, sl i64c false l] none = some ⟨[D (sg b (val 10 l))], [], none⟩ := by
  rw [← D_made b h]
  refine runs_w rfl rfl ?_
  (repeat (first | refine w_seq ?_ | refine w_block ?_ | refine w_regS (by simp (disch := omega) only [go_sem]; with_reducible rfl) ?_ | refine w_reg (by simp (disch := omega) only [go_sem]; with_reducible rfl) ?_ | refine w_skipS ?_ | refine w_skipB ?_ | refine w_exitS ?_ | refine w_exitB ?_ | refine w_exitN rfl ?_ | refine w_exitL ?_ | refine w_retS ?_ | refine w_retB ?_ | refine w_retL ?_ | refine w_condT (by simp (disch := omega) only [go_sem]; with_reducible rfl) (by with_reducible rfl) ?_ | refine w_condF (by simp (disch := omega) only [go_sem]; with_reducible rfl) (by with_reducible rfl) ?_ | fail))
  refine w_loop (fun m s => m ≤ l.length ∧ (∀ j (h : j < l.length), m ≤ j → l[j] = 0) ∧ ∃ g,
    s = ⟨[(0, .bool b), (1, sl i64c false l), (4, .optr ⟨5, 1, 0⟩ 0 0), (5, .int .i64 (m : Nat))], [⟨5, 1, false, [⟨[zc 0], true⟩]⟩], [], g⟩) l.length ?_ ?_
  · exact ⟨Nat.le_refl _, fun j h1 h2 => by omega, _, rfl⟩
  · rintro m s ⟨h1, h2, g, rfl⟩
    by_cases hm : m = 0
    · have ht : trim l = l.take 0 := trim_take (Nat.zero_le _) (fun j hj _ => h2 j hj (by omega)) (.inl rfl)
      subst hm
      rw [ht]
      cases b
      · (repeat (first | refine w_seq ?_ | refine w_block ?_ | refine w_regS (by simp (disch := omega) only [go_sem, Int.natCast_zero]; with_reducible rfl) ?_ | refine w_reg (by simp (disch := omega) only [go_sem, Int.natCast_zero]; with_reducible rfl) ?_ | refine w_skipS ?_ | refine w_skipB ?_ | refine w_exitS ?_ | refine w_exitB ?_ | refine w_exitN rfl ?_ | refine w_exitL ?_ | refine w_retS ?_ | refine w_retB ?_ | refine w_retL ?_ | refine w_condT (by simp (disch := omega) only [go_sem, Int.natCast_zero]; with_reducible rfl) (by with_reducible rfl) ?_ | refine w_condF (by simp (disch := omega) only [go_sem, Int.natCast_zero]; with_reducible rfl) (by with_reducible rfl) ?_ | fail))
        (first | refine w_fini ?_ | refine w_finiN ?_); simp (disch := omega) only [go_sem]
      · (repeat (first | refine w_seq ?_ | refine w_block ?_ | refine w_regS (by simp (disch := omega) only [go_sem, Int.natCast_zero]; with_reducible rfl) ?_ | refine w_reg (by simp (disch := omega) only [go_sem, Int.natCast_zero]; with_reducible rfl) ?_ | refine w_skipS ?_ | refine w_skipB ?_ | refine w_exitS ?_ | refine w_exitB ?_ | refine w_exitN rfl ?_ | refine w_exitL ?_ | refine w_retS ?_ | refine w_retB ?_ | refine w_retL ?_ | refine w_condT (by simp (disch := omega) only [go_sem, Int.natCast_zero]; with_reducible rfl) (by with_reducible rfl) ?_ | refine w_condF (by simp (disch := omega) only [go_sem, Int.natCast_zero]; with_reducible rfl) (by with_reducible rfl) ?_ | fail))
        (first | refine w_fini ?_ | refine w_finiN ?_); simp (disch := omega) only [go_sem]
    · obtain ⟨n, rfl⟩ := Nat.exists_eq_succ_of_ne_zero hm
      have e1 : IntKind.i64.wrap ((n.succ : Nat) - 1 : Int) = (n : Nat) := by rw [wrap_i64] <;> omega
      have e2 : l[n]? = some l[n] := List.getElem?_eq_getElem (by omega)
      by_cases hz : l[n] = 0
      · (repeat (first | refine w_seq ?_ | refine w_block ?_ | refine w_regS (by simp (disch := omega) only [go_sem, e1, e2]; with_reducible rfl) ?_ | refine w_reg (by simp (disch := omega) only [go_sem, e1, e2]; with_reducible rfl) ?_ | refine w_skipS ?_ | refine w_skipB ?_ | refine w_exitS ?_ | refine w_exitB ?_ | refine w_exitN rfl ?_ | refine w_exitL ?_ | refine w_retS ?_ | refine w_retB ?_ | refine w_retL ?_ | refine w_condT (by simp (disch := omega) only [go_sem, e1, e2]; with_reducible rfl) (by with_reducible rfl) ?_ | refine w_condF (by simp (disch := omega) only [go_sem, e1, e2]; with_reducible rfl) (by with_reducible rfl) ?_ | fail))
        refine w_skipL ⟨n, by omega, by omega, fun j h3 h4 => ?_, _, rfl⟩
        by_cases hj : j = n
        · subst hj; exact hz
        · exact h2 j h3 (by omega)
      · have ht : trim l = l.take (n + 1) := trim_take h1 h2 (.inr ⟨l[n], e2, hz⟩)
        have e3 : decide (0 < (l.take (n + 1)).length) = true := by
          rw [List.length_take]; exact decide_eq_true (by omega)
        rw [ht, e3]
        cases b
        · (repeat (first | refine w_seq ?_ | refine w_block ?_ | refine w_regS (by simp (disch := omega) only [go_sem, e1, e2]; with_reducible rfl) ?_ | refine w_reg (by simp (disch := omega) only [go_sem, e1, e2]; with_reducible rfl) ?_ | refine w_skipS ?_ | refine w_skipB ?_ | refine w_exitS ?_ | refine w_exitB ?_ | refine w_exitN rfl ?_ | refine w_exitL ?_ | refine w_retS ?_ | refine w_retB ?_ | refine w_retL ?_ | refine w_condT (by simp (disch := omega) only [go_sem, e1, e2]; with_reducible rfl) (by with_reducible rfl) ?_ | refine w_condF (by simp (disch := omega) only [go_sem, e1, e2]; with_reducible rfl) (by with_reducible rfl) ?_ | fail))
          (first | refine w_fini ?_ | refine w_finiN ?_); simp (disch := omega) only [go_sem]
        · (repeat (first | refine w_seq ?_ | refine w_block ?_ | refine w_regS (by simp (disch := omega) only [go_sem, e1, e2]; with_reducible rfl) ?_ | refine w_reg (by simp (disch := omega) only [go_sem, e1, e2]; with_reducible rfl) ?_ | refine w_skipS ?_ | refine w_skipB ?_ | refine w_exitS ?_ | refine w_exitB ?_ | refine w_exitN rfl ?_ | refine w_exitL ?_ | refine w_retS ?_ | refine w_retB ?_ | refine w_retL ?_ | refine w_condT (by simp (disch := omega) only [go_sem, e1, e2]; with_reducible rfl) (by with_reducible rfl) ?_ | refine w_condF (by simp (disch := omega) only [go_sem, e1, e2]; with_reducible rfl) (by with_reducible rfl) ?_ | fail))
          (first | refine w_fini ?_ | refine w_finiN ?_); simp (disch := omega) only [go_sem]

theorem dof_lim (n : Int) (hn : -9223372036854775808 ≤ n ∧ n ≤ 9223372036854775807) : lim tab F_ref01_Of [.int .i64 n] none = some ⟨[D n], [], none⟩ := by
  refine runs_w rfl rfl ?_
  (repeat (first | refine w_seq ?_ | refine w_block ?_ | refine w_regS (by simp (disch := omega) only [go_sem]; with_reducible rfl) ?_ | refine w_reg (by simp (disch := omega) only [go_sem]; with_reducible rfl) ?_ | refine w_skipS ?_ | refine w_skipB ?_ | refine w_exitS ?_ | refine w_exitB ?_ | refine w_exitN rfl ?_ | refine w_exitL ?_ | refine w_retS ?_ | refine w_retB ?_ | refine w_retL ?_ | refine w_condT (by simp (disch := omega) only [go_sem]; with_reducible rfl) (by with_reducible rfl) ?_ | refine w_condF (by simp (disch := omega) only [go_sem]; with_reducible rfl) (by with_reducible rfl) ?_ | fail))
  generalize hb : decide (n < 0) = b
  refine w_loop (fun m s => ∃ k l L gx g, l.length = L ∧ L + m ≤ 20 ∧ In 10 l ∧ (k : Int).natAbs < 10 ^ m ∧ (n < 0 → k ≤ 0) ∧ (0 ≤ n → 0 ≤ k) ∧ val 10 l + 10 ^ L * (k.natAbs : Int) = (n.natAbs : Int) ∧
    s = ⟨[(0, .int .i64 k), (2, .optr ⟨3, 1, 0⟩ 0 0), (3, .own ⟨4, gx, 0⟩ 1 0 L), (4, .bool b)], [⟨3, 1, false, [⟨[zc 0], true⟩]⟩, ⟨4, gx, false, [⟨l.map i64c, true⟩]⟩], [], g⟩) 20 ?_ ?_
  · exact ⟨n, [], 0, _, _, rfl, by omega, .nil, by omega, by omega, by omega, by simp [val], rfl⟩
  · rintro m s ⟨k, l, L, gx, g, hL, h1, h2, h3, h4, h5, h6, rfl⟩
    by_cases hk : k = 0
    · subst hk
      have h7 : val 10 l = (n.natAbs : Int) := by simpa using h6
      have p5 := dmade_lim b l (by omega) h2
      have e1 : sg b (val 10 l) = n := by
        rw [h7, ← hb]; unfold sg
        by_cases c : n < 0 <;> simp [c] <;> omega
      rw [e1] at p5
      have e2 : l.take L = l := List.take_of_length_le (by omega)
      (repeat (first | refine w_seq ?_ | refine w_block ?_ | refine w_regS (by simp (disch := omega) only [go_sem, p5, e2]; with_reducible rfl) ?_ | refine w_reg (by simp (disch := omega) only [go_sem, p5, e2]; with_reducible rfl) ?_ | refine w_skipS ?_ | refine w_skipB ?_ | refine w_exitS ?_ | refine w_exitB ?_ | refine w_exitN rfl ?_ | refine w_exitL ?_ | refine w_retS ?_ | refine w_retB ?_ | refine w_retL ?_ | refine w_condT (by simp (disch := omega) only [go_sem, p5, e2]; with_reducible rfl) (by with_reducible rfl) ?_ | refine w_condF (by simp (disch := omega) only [go_sem, p5, e2]; with_reducible rfl) (by with_reducible rfl) ?_ | fail))
      (first | refine w_fini ?_ | refine w_finiN ?_); simp (disch := omega) only [go_sem]
    · cases m with
      | zero => simp at h3; omega
      | succ m =>
        rw [Nat.pow_succ] at h3
        have hkb : (k.natAbs : Int) ≤ 9223372036854775808 := by
          have h7 := val_nonneg (B := 10) (by omega) h2
          have h8 := pow_pos' (B := 10) (by omega) L
          have h9 : (1 : Int) * (k.natAbs : Int) ≤ 10 ^ L * (k.natAbs : Int) := Int.mul_le_mul_of_nonneg_right (by omega) (by omega)
          omega
        have e6 : val 10 (l ++ [((k.natAbs % 10 : Nat) : Int)]) + 10 ^ (L + 1) * ((k.natAbs / 10 : Nat) : Int) = (n.natAbs : Int) := by
          rw [val_snoc, Int.pow_succ, ← h6, hL, Int.mul_assoc, Int.add_assoc, ← Int.mul_add]
          congr 2; omega
        have f1 : (-((k.natAbs / 10 : Nat) : Int)).natAbs = k.natAbs / 10 := by omega
        have f2 : (((k.natAbs / 10 : Nat) : Int)).natAbs = k.natAbs / 10 := by omega
        have f3 : k.natAbs / 10 < 10 ^ m := by omega
        generalize hq : ((k.natAbs / 10 : Nat) : Int) = q at *
        generalize hc : ((k.natAbs % 10 : Nat) : Int) = c at *
        rcases Int.lt_or_le k 0 with hneg | hpos
        · have t1 : k.tmod 10 = -c := by
            rw [show k = -(k.natAbs : Int) by omega, Int.neg_tmod, Int.tmod_eq_emod_of_nonneg (by omega)]; omega
          have t2 : k.tdiv 10 = -q := by
            rw [show k = -(k.natAbs : Int) by omega, Int.neg_tdiv, Int.tdiv_eq_ediv_of_nonneg (by omega)]; omega
          by_cases c0 : c = 0
          · have t1' : k.tmod 10 = 0 := by omega
            (repeat (first | refine w_seq ?_ | refine w_block ?_ | refine w_regS (by simp (disch := omega) only [go_sem, t1', t2]; with_reducible rfl) ?_ | refine w_reg (by simp (disch := omega) only [go_sem, t1', t2]; with_reducible rfl) ?_ | refine w_skipS ?_ | refine w_skipB ?_ | refine w_exitS ?_ | refine w_exitB ?_ | refine w_exitN rfl ?_ | refine w_exitL ?_ | refine w_retS ?_ | refine w_retB ?_ | refine w_retL ?_ | refine w_condT (by simp (disch := omega) only [go_sem, t1', t2]; with_reducible rfl) (by with_reducible rfl) ?_ | refine w_condF (by simp (disch := omega) only [go_sem, t1', t2]; with_reducible rfl) (by with_reducible rfl) ?_ | fail))
            exact w_skipL ⟨m, by omega, -q, l ++ [0], L + 1, _, _, by simp; omega, by omega, h2.app (.cons (by omega) .nil), by omega, by omega, by omega, by rw [f1, ← c0, hq]; exact e6, rfl⟩
          · (repeat (first | refine w_seq ?_ | refine w_block ?_ | refine w_regS (by simp (disch := omega) only [go_sem, t1, t2, Int.neg_neg]; with_reducible rfl) ?_ | refine w_reg (by simp (disch := omega) only [go_sem, t1, t2, Int.neg_neg]; with_reducible rfl) ?_ | refine w_skipS ?_ | refine w_skipB ?_ | refine w_exitS ?_ | refine w_exitB ?_ | refine w_exitN rfl ?_ | refine w_exitL ?_ | refine w_retS ?_ | refine w_retB ?_ | refine w_retL ?_ | refine w_condT (by simp (disch := omega) only [go_sem, t1, t2, Int.neg_neg]; with_reducible rfl) (by with_reducible rfl) ?_ | refine w_condF (by simp (disch := omega) only [go_sem, t1, t2, Int.neg_neg]; with_reducible rfl) (by with_reducible rfl) ?_ | fail))
            exact w_skipL ⟨m, by omega, -q, l ++ [c], L + 1, _, _, by simp; omega, by omega, h2.app (.cons (by omega) .nil), by omega, by omega, by omega, by rw [f1, hq]; exact e6, rfl⟩
        · have t1 : k.tmod 10 = c := by
            rw [Int.tmod_eq_emod_of_nonneg hpos]; omega
          have t2 : k.tdiv 10 = q := by
            rw [Int.tdiv_eq_ediv_of_nonneg hpos]; omega
          (repeat (first | refine w_seq ?_ | refine w_block ?_ | refine w_regS (by simp (disch := omega) only [go_sem, t1, t2]; with_reducible rfl) ?_ | refine w_reg (by simp (disch := omega) only [go_sem, t1, t2]; with_reducible rfl) ?_ | refine w_skipS ?_ | refine w_skipB ?_ | refine w_exitS ?_ | refine w_exitB ?_ | refine w_exitN rfl ?_ | refine w_exitL ?_ | refine w_retS ?_ | refine w_retB ?_ | refine w_retL ?_ | refine w_condT (by simp (disch := omega) only [go_sem, t1, t2]; with_reducible rfl) (by with_reducible rfl) ?_ | refine w_condF (by simp (disch := omega) only [go_sem, t1, t2]; with_reducible rfl) (by with_reducible rfl) ?_ | fail))
          exact w_skipL ⟨m, by omega, q, l ++ [c], L + 1, _, _, by simp; omega, by omega, h2.app (.cons (by omega) .nil), by omega, by omega, by omega, by rw [f2, hq]; exact e6, rfl⟩
end Go.Proofs.Ytbdknlejnacmgaa.Pi.W
end

section
/-
  The reference's matrices on our machine: Of.
-/
namespace Go.Proofs.Ytbdknlejnacmgaa.Pi.W
open Go Num
set_option linter.unusedVariables false
set_option linter.unusedSimpArgs false
set_option maxRecDepth 100000

/-! ### Rows and matrices of the reference's numbers -/
theorem fits_dc (l : List Int) : fits 2 (l.map dc) = true := fits_map _ _ _ fun _ => rfl
theorem pure_dc (l : List Int) : ((l.map dc).all fun x => x.all pu0) = true := pure_map _ _ dc_pu0
theorem flat_dc (l : List Int) : ((l.map dc).all fun x => x.all flat) = true := flat_map _ _ dc_flat
theorem snoc_dc (l : List Int) (v : Int) : l.map dc ++ [dc v] = (l ++ [v]).map dc := by rw [List.map_append]; rfl
theorem snoc_zc (l : List Int) (v : Int) : l.map zc ++ [zc v] = (l ++ [v]).map zc := by rw [List.map_append]; rfl
theorem set_dc (l : List Int) (i : Nat) (v : Int) : (l.map dc).set i (dc v) = (l.set i v).map dc := List.map_set.symm
def DR (n : Nat) (f : Nat → Int) : PV := sl dc false ((List.range n).map f)
theorem DR_fold (n : Nat) (f : Nat → Int) : sl dc false ((List.range n).map f) = DR n f := nrfl rfl
theorem DR_congr {n : Nat} {f g : Nat → Int} (h : ∀ k, k < n → f k = g k) : DR n f = DR n g := by
  unfold DR; congr 1; exact List.map_congr_left fun k hk => h k (by simpa using hk)
theorem lnv_DR (n : Nat) (f : Nat → Int) : lnv false (DR n f) = some n := by unfold DR; rw [lnv_sl]; simp
theorem ixv_DR (n : Nat) (f : Nat → Int) (k : Nat) : ixv 2 (DR n f) k = req (decide (k < n)) (some (.vptr (dc (f k)))) := by
  unfold DR; rw [ixv_sl]
  by_cases h : k < n
  · rw [rng_at n f h, decide_eq_true h]; rfl
  · rw [List.getElem?_eq_none (by simpa using h), decide_eq_false h]; rfl
theorem fzv_DR (h : List Ent) (n : Nat) (f : Nat → Int) : fzv h (DR n f) = some (DR n f, []) := fzv_sl _ _ _ _
theorem fz2_DR (h : List Ent) (n : Nat) (f : Nat → Int) : fz2 h (DR n f) = some (DR n f, []) := fz2_sl _ _ _ _
theorem flat_DR (n : Nat) (f : Nat → Int) : flat (DR n f) = true := flat_sl _ _ _
theorem pu0_DR (n : Nat) (f : Nat → Int) : pu0 (DR n f) = true := pu0_sl _ _ _
theorem pu00_DR (n : Nat) (f : Nat → Int) : pu00 (DR n f) = true := pu00_sl _ _ _
theorem cellsOf_DR (n : Nat) (f : Nat → Int) : cellsOf (DR n f) = [DR n f] := cellsOf_sl _ _ _
def DM (r c : Nat) (φ : Nat → Nat → Int) : PV := .view (((List.range r).map fun i => DR c (φ i)).map c1)
theorem DM_sl (r c : Nat) (φ : Nat → Nat → Int) : DM r c φ = sl c1 false ((List.range r).map fun i => DR c (φ i)) := nrfl rfl
theorem DM_fold (r c : Nat) (φ : Nat → Nat → Int) : sl c1 false ((List.range r).map fun i => DR c (φ i)) = DM r c φ := nrfl rfl
theorem lnv_DM (r c : Nat) (φ : Nat → Nat → Int) : lnv false (DM r c φ) = some r := by rw [DM_sl, lnv_sl]; simp
theorem ixv_DM (r c : Nat) (φ : Nat → Nat → Int) (k : Nat) : ixv 1 (DM r c φ) k = req (decide (k < r)) (some (.vptr [DR c (φ k)])) := by
  rw [DM_sl, ixv_sl]
  by_cases h : k < r
  · rw [List.getElem?_map, List.getElem?_range h, decide_eq_true h]; rfl
  · rw [List.getElem?_eq_none (by simpa using h), decide_eq_false h]; rfl
theorem fzv_DM (h : List Ent) (r c : Nat) (φ : Nat → Nat → Int) : fzv h (DM r c φ) = some (DM r c φ, []) := nrfl rfl
theorem flat_DM (r c : Nat) (φ : Nat → Nat → Int) : flat (DM r c φ) = true := nrfl rfl
theorem pu0_DM (r c : Nat) (φ : Nat → Nat → Int) : pu0 (DM r c φ) = true := nrfl rfl
theorem pu00_DM (r c : Nat) (φ : Nat → Nat → Int) : pu00 (DM r c φ) = true := nrfl rfl
theorem cellsOf_DM (r c : Nat) (φ : Nat → Nat → Int) : cellsOf (DM r c φ) = [DM r c φ] := nrfl rfl
attribute [go_sem] fits_dc pure_dc flat_dc snoc_dc snoc_zc set_dc DR_fold lnv_DR ixv_DR fzv_DR fz2_DR flat_DR pu0_DR pu00_DR cellsOf_DR DM_fold lnv_DM ixv_DM fzv_DM flat_DM pu0_DM pu00_DM cellsOf_DM

/-! ### Rows behind rows -/
def rowR (r : Ent) (e : Ent) (ob : Obj) (os : List Obj) (l1 g1 l g len zm k : Nat) : Option Eff :=
  match r.os with
  | [ro] => bif ro.pure && ro.xs.length == k then
      some { v := .own ⟨l, g, 0⟩ 1 0 (len + 1), up := [{ l := l, g := g, fz := false, os := { xs := ob.xs.map (fun x => x.map (ren l1 g1 l g)) ++ [[.own ⟨l, g, os.length + 1⟩ zm 0 k]], pure := false } :: (os ++ [ro]) }, { e with os := [] }, { r with os := [] }] } else none
  | _ => none
theorem rowR_mk (m0 gm : Nat) (fzm : Bool) (rx : List (List PV)) (e : Ent) (ob : Obj) (os : List Obj) (l1 g1 l g len zm k : Nat) : rowR ⟨m0, gm, fzm, [⟨rx, true⟩]⟩ e ob os l1 g1 l g len zm k =
    req (decide (rx.length = k)) (some ⟨.own ⟨l, g, 0⟩ 1 0 (len + 1), [⟨l, g, false, ⟨ob.xs.map (fun x => x.map (ren l1 g1 l g)) ++ [[.own ⟨l, g, os.length + 1⟩ zm 0 k]], false⟩ :: (os ++ [⟨rx, true⟩])⟩, { e with os := [] }, ⟨m0, gm, fzm, []⟩], []⟩) := by
  simp only [rowR, req, Bool.true_and]; rfl
theorem appR_mk (h : List Ent) (z : List (Nat × Nat)) (g : Nat) (av : List Nat) (l0 g0 : Nat) (fz : Bool) (ob : Obj) (os : List Obj) (l1 g1 l len lm gm zm k : Nat) : appR h z g av ⟨l0, g0, fz, ob :: os⟩ l1 g1 l 1 len [.own ⟨lm, gm, 0⟩ zm 0 k] =
    req (decide (ob.xs.length = len) && (ob.pure || ob.xs.all (·.all (noSelf l1 g1)))) (req (okAv av lm && !isFz h z ⟨lm, gm, 0⟩ && !(lm == 0) && !(lm == l1) && !(lm == l)) (thn (efind h lm gm) fun r => rowR r ⟨l0, g0, fz, ob :: os⟩ ob os l1 g1 l g len zm k)) := by
  simp only [appR, req, thn, rowR, beq_self_eq_true, Bool.and_true]
  rfl
attribute [go_sem] rowR_mk appR_mk

theorem chl_noself (l g c r : Nat) (π : Nat → Nat) : ((chl l g c r π).all fun x => x.all (noSelf l g)) = true := by
  unfold chl; simp [List.all_map, List.all_eq_true, noSelf]
def ROd (r c : Nat) (ρ : Nat → Nat → Int) : List Obj := (List.range r).map fun t => ⟨((List.range c).map (ρ t)).map dc, true⟩
theorem ROd_len (r c : Nat) (ρ : Nat → Nat → Int) : (ROd r c ρ).length = r := by simp [ROd]
theorem ROd_succ (r c : Nat) (ρ : Nat → Nat → Int) : ROd r c ρ ++ [⟨((List.range c).map (ρ r)).map dc, true⟩] = ROd (r + 1) c ρ := by
  unfold ROd; rw [List.range_succ, List.map_append]; rfl
theorem chl_succ (l g c r : Nat) : chl l g c r (fun t => t) ++ [[.own ⟨l, g, r + 1⟩ 2 0 c]] = chl l g c (r + 1) fun t => t := by
  unfold chl; rw [List.range_succ, List.map_append]; rfl
theorem rng_succ (n : Nat) (f : Nat → Int) : (List.range n).map f ++ [f n] = (List.range (n + 1)).map f := by
  rw [List.range_succ, List.map_append]; rfl

/-- Rows of their own are handed back as views. -/
theorem fzll_d (l g n c : Nat) (hl : (l == 0) = false) (ρ : Nat → Nat → Int) (h : List Ent) (fz : Bool) (pa : Obj) (hh : efind h l g = some ⟨l, g, fz, pa :: ROd n c ρ⟩) : ∀ (m : Nat), m ≤ n →
    ∃ zs, fzll (fz0 h) (chl l g c m fun t => t) = some (((List.range m).map fun i => DR c (ρ i)).map c1, zs) := by
  have one : ∀ k, k < n → fzl (fz0 h) [.own ⟨l, g, k + 1⟩ 2 0 c] = some ([DR c (ρ k)], [(l, g)]) := by
    intro k hk
    have e0 : (ROd n c ρ)[k]? = some ⟨((List.range c).map (ρ k)).map dc, true⟩ := by
      unfold ROd; rw [List.getElem?_map, List.getElem?_range hk]; rfl
    have e1 : fz0 h (.own ⟨l, g, k + 1⟩ 2 0 c) = some (DR c (ρ k), [(l, g)]) := by
      simp only [fz0, pu0, cond_false, rel0, hobj, hh, Option.bind_some, List.getElem?_cons_succ, e0, hl]
      simp only [cond_false, Option.bind_some, Bool.true_and, Nat.zero_add, List.length_map, List.length_range, Nat.le_refl, decide_true, cond_true, List.drop_zero]
      rw [← List.map_take, take_rng]
      rfl
    simp only [fzl, e1, Option.bind_some]
    rfl
  have app : ∀ (l : List (List PV)) (x : List PV) a za b zb, fzll (fz0 h) l = some (a, za) → fzl (fz0 h) x = some (b, zb) → fzll (fz0 h) (l ++ [x]) = some (a ++ [b], za ++ zb) := by
    intro l x
    induction l with
    | nil =>
      intro a za b zb h1 h2
      cases h1
      simp only [List.nil_append, fzll, h2, Option.bind_some, List.append_nil]
    | cons y l ih =>
      intro a za b zb h1 h2
      simp only [fzll] at h1
      obtain ⟨p, h3, h4⟩ := Option.bind_eq_some_iff.1 h1
      obtain ⟨q, h5, h6⟩ := Option.bind_eq_some_iff.1 h4
      cases h6
      simp only [List.cons_append, fzll, h3, Option.bind_some, ih _ _ _ _ h5 h2, List.append_assoc]
  intro m
  induction m with
  | zero => intro _; exact ⟨[], rfl⟩
  | succ m ih =>
    intro hm
    obtain ⟨zs, e⟩ := ih (by omega)
    refine ⟨zs ++ [(l, g)], ?_⟩
    rw [← chl_succ, List.range_succ, List.map_append, List.map_append]
    exact app _ _ _ _ _ _ e (one m (by omega))

section
theorem refof_row (zss : List (List Int)) (zs : List Int) (n i L gx g6 g : Nat) (H : List Ent) (ob : List Obj) (Q : PEx → St → Prop) (hzs : zss[i]? = some zs) (hn : zs.length = n) (h12 : n ≤ 1048576) (hz : ∀ z ∈ zs, I64 z)
    (hQ : ∀ g6' g', Wp tab .skip ⟨[(0, IR zss), (3, .own ⟨4, gx, 0⟩ 1 0 L), (4, .int .i64 (i : Nat)), (5, .own ⟨6, g6', 0⟩ 2 0 n), (6, .int .i64 (n : Nat)), (19, .bool false)], [⟨4, gx, false, ob⟩, ⟨6, g6', false, [⟨((List.range n).map (ent zss i)).map dc, true⟩]⟩], [], g'⟩ Q) :
    Wp tab (.loop B_ref07_Of_1) ⟨[(0, IR zss), (3, .own ⟨4, gx, 0⟩ 1 0 L), (4, .int .i64 (i : Nat)), (5, .own ⟨6, g6, 0⟩ 2 0 0), (6, .int .i64 0)], [⟨4, gx, false, ob⟩, ⟨6, g6, false, [⟨[], true⟩]⟩], [], g⟩ (kB 2 Q) := by
  refine w_loop (fun m s => ∃ j g6' g', j + m = n ∧ s = ⟨[(0, IR zss), (3, .own ⟨4, gx, 0⟩ 1 0 L), (4, .int .i64 (i : Nat)), (5, .own ⟨6, g6', 0⟩ 2 0 j), (6, .int .i64 (j : Nat))], [⟨4, gx, false, ob⟩, ⟨6, g6', false, [⟨((List.range j).map (ent zss i)).map dc, true⟩]⟩], [], g'⟩) n ?_ ?_
  · exact ⟨0, _, _, by omega, rfl⟩
  · rintro m s ⟨j, g6', g', h1, rfl⟩
    by_cases hj : j < n
    · have hx : zs[j]? = some zs[j] := List.getElem?_eq_getElem (by omega)
      have he := ent_at hzs hx
      have hI := dof_lim zs[j] (hz _ (List.getElem_mem _))
      rw [← he] at hI hx
      have hs := rng_succ j (ent zss i)
      (repeat (first | refine w_seq ?_ | refine w_block ?_ | refine w_regS (by simp (disch := omega) only [go_sem, hzs, hx, hI, hs]; with_reducible rfl) ?_ | refine w_reg (by simp (disch := omega) only [go_sem, hzs, hx, hI, hs]; with_reducible rfl) ?_ | refine w_skipS ?_ | refine w_skipB ?_ | refine w_exitS ?_ | refine w_exitB ?_ | refine w_exitN rfl ?_ | refine w_exitL ?_ | refine w_retS ?_ | refine w_retB ?_ | refine w_retL ?_ | refine w_condT (by simp (disch := omega) only [go_sem, hzs, hx, hI, hs]; with_reducible rfl) (by with_reducible rfl) ?_ | refine w_condF (by simp (disch := omega) only [go_sem, hzs, hx, hI, hs]; with_reducible rfl) (by with_reducible rfl) ?_ | fail))
      exact w_skipL ⟨m - 1, by omega, j + 1, _, _, by omega, rfl⟩
    · obtain rfl : j = n := by omega
      (repeat (first | refine w_seq ?_ | refine w_block ?_ | refine w_regS (by simp (disch := omega) only [go_sem, hzs]; with_reducible rfl) ?_ | refine w_reg (by simp (disch := omega) only [go_sem, hzs]; with_reducible rfl) ?_ | refine w_skipS ?_ | refine w_skipB ?_ | refine w_exitS ?_ | refine w_exitB ?_ | refine w_exitN rfl ?_ | refine w_exitL ?_ | refine w_retS ?_ | refine w_retB ?_ | refine w_retL ?_ | refine w_condT (by simp (disch := omega) only [go_sem, hzs]; with_reducible rfl) (by with_reducible rfl) ?_ | refine w_condF (by simp (disch := omega) only [go_sem, hzs]; with_reducible rfl) (by with_reducible rfl) ?_ | fail))
      exact hQ _ _
end

section
attribute [local irreducible] B_ref07_Of_1
theorem refof_lim (zss : List (List Int)) (n : Nat) (hn : zss.length = n) (h12 : n ≤ 1000) (hb : ∀ zs ∈ zss, zs.length = n) (hz : ∀ zs ∈ zss, ∀ z ∈ zs, I64 z) : lim tab F_ref07_Of [IR zss] none = some ⟨[DM n n (ent zss)], [], none⟩ := by
  refine runs_w rfl rfl ?_
  (repeat (first | refine w_seq ?_ | refine w_block ?_ | refine w_regS (by simp (disch := omega) only [go_sem]; with_reducible rfl) ?_ | refine w_reg (by simp (disch := omega) only [go_sem]; with_reducible rfl) ?_ | refine w_skipS ?_ | refine w_skipB ?_ | refine w_exitS ?_ | refine w_exitB ?_ | refine w_exitN rfl ?_ | refine w_exitL ?_ | refine w_retS ?_ | refine w_retB ?_ | refine w_retL ?_ | refine w_condT (by simp (disch := omega) only [go_sem]; with_reducible rfl) (by with_reducible rfl) ?_ | refine w_condF (by simp (disch := omega) only [go_sem]; with_reducible rfl) (by with_reducible rfl) ?_ | fail))
  refine w_loop (fun m s => ∃ i gx X g', i + m = n ∧ (X = [] ∨ ∃ g6, X = [⟨6, g6, false, []⟩]) ∧ s = ⟨[(0, IR zss), (3, .own ⟨4, gx, 0⟩ 1 0 i), (4, .int .i64 (i : Nat))], ⟨4, gx, false, ⟨chl 4 gx n i (fun t => t), decide (i = 0)⟩ :: ROd i n (ent zss)⟩ :: X, [], g'⟩) n ?_ ?_
  · exact ⟨0, _, [], _, by omega, .inl rfl, rfl⟩
  · rintro m s ⟨i, gx, X, g', h1, hX, rfl⟩
    by_cases hi : i < n
    · have hx : zss[i]? = some zss[i] := List.getElem?_eq_getElem (by omega)
      have hm : zss[i] ∈ zss := List.getElem_mem (by omega)
      have e3 := ROd_succ i n (ent zss)
      have e4 := fun l g => chl_succ l g n i
      rcases hX with rfl | ⟨g6, rfl⟩
      all_goals
        (repeat (first | refine w_seq ?_ | refine w_block ?_ | refine w_regS (by simp (disch := omega) only [go_sem, hn]; with_reducible rfl) ?_ | refine w_reg (by simp (disch := omega) only [go_sem, hn]; with_reducible rfl) ?_ | refine w_skipS ?_ | refine w_skipB ?_ | refine w_exitS ?_ | refine w_exitB ?_ | refine w_exitN rfl ?_ | refine w_exitL ?_ | refine w_retS ?_ | refine w_retB ?_ | refine w_retL ?_ | refine w_condT (by simp (disch := omega) only [go_sem, hn]; with_reducible rfl) (by with_reducible rfl) ?_ | refine w_condF (by simp (disch := omega) only [go_sem, hn]; with_reducible rfl) (by with_reducible rfl) ?_ | fail))
        refine refof_row zss zss[i] n i i gx _ _ [] _ _ hx (hb _ hm) (by omega) (hz _ hm) fun g6' g2 => ?_
        (repeat (first | refine w_seq ?_ | refine w_block ?_ | refine w_regS (by simp (disch := omega) only [go_sem, chl_noself, chl_ren, chl_len, ROd_len, e3, e4, List.length_range]; with_reducible rfl) ?_ | refine w_reg (by simp (disch := omega) only [go_sem, chl_noself, chl_ren, chl_len, ROd_len, e3, e4, List.length_range]; with_reducible rfl) ?_ | refine w_skipS ?_ | refine w_skipB ?_ | refine w_exitS ?_ | refine w_exitB ?_ | refine w_exitN rfl ?_ | refine w_exitL ?_ | refine w_retS ?_ | refine w_retB ?_ | refine w_retL ?_ | refine w_condT (by simp (disch := omega) only [go_sem, chl_noself, chl_ren, chl_len, ROd_len, e3, e4, List.length_range]; with_reducible rfl) (by with_reducible rfl) ?_ | refine w_condF (by simp (disch := omega) only [go_sem, chl_noself, chl_ren, chl_len, ROd_len, e3, e4, List.length_range]; with_reducible rfl) (by with_reducible rfl) ?_ | fail))
        exact w_skipL ⟨m - 1, by omega, i + 1, _, _, _, by omega, .inr ⟨_, rfl⟩, rfl⟩
    · obtain rfl : i = n := by omega
      by_cases h0 : i = 0
      · subst h0
        rcases hX with rfl | ⟨g6, rfl⟩
        all_goals
          (repeat (first | refine w_seq ?_ | refine w_block ?_ | refine w_regS (by simp (disch := omega) only [go_sem, hn]; with_reducible rfl) ?_ | refine w_reg (by simp (disch := omega) only [go_sem, hn]; with_reducible rfl) ?_ | refine w_skipS ?_ | refine w_skipB ?_ | refine w_exitS ?_ | refine w_exitB ?_ | refine w_exitN rfl ?_ | refine w_exitL ?_ | refine w_retS ?_ | refine w_retB ?_ | refine w_retL ?_ | refine w_condT (by simp (disch := omega) only [go_sem, hn]; with_reducible rfl) (by with_reducible rfl) ?_ | refine w_condF (by simp (disch := omega) only [go_sem, hn]; with_reducible rfl) (by with_reducible rfl) ?_ | fail))
          (first | refine w_fini ?_ | refine w_finiN ?_); simp (disch := omega) only [go_sem, List.take_nil, chl_len, List.take_zero]
          rfl
      · obtain ⟨zs, e1⟩ := fzll_d 4 gx i i rfl (ent zss) [⟨4, gx, false, ⟨chl 4 gx i i fun t => t, false⟩ :: ROd i i (ent zss)⟩] false ⟨chl 4 gx i i fun t => t, false⟩ (by unfold efind; simp) i (Nat.le_refl _)
        have e2 : (chl 4 gx i i fun t => t).take i = chl 4 gx i i fun t => t := List.take_of_length_le (by rw [chl_len]; omega)
        have e6 : ∀ g6, ∃ zs, fzll (fz0 [⟨4, gx, false, ⟨chl 4 gx i i fun t => t, false⟩ :: ROd i i (ent zss)⟩, ⟨6, g6, false, []⟩]) (chl 4 gx i i fun t => t) = some (((List.range i).map fun k => DR i (ent zss k)).map c1, zs) := fun g6 => fzll_d 4 gx i i rfl (ent zss) _ false ⟨chl 4 gx i i fun t => t, false⟩ (by unfold efind; simp) i (Nat.le_refl _)
        rcases hX with rfl | ⟨g6, rfl⟩
        · (repeat (first | refine w_seq ?_ | refine w_block ?_ | refine w_regS (by simp (disch := omega) only [go_sem, hn]; with_reducible rfl) ?_ | refine w_reg (by simp (disch := omega) only [go_sem, hn]; with_reducible rfl) ?_ | refine w_skipS ?_ | refine w_skipB ?_ | refine w_exitS ?_ | refine w_exitB ?_ | refine w_exitN rfl ?_ | refine w_exitL ?_ | refine w_retS ?_ | refine w_retB ?_ | refine w_retL ?_ | refine w_condT (by simp (disch := omega) only [go_sem, hn]; with_reducible rfl) (by with_reducible rfl) ?_ | refine w_condF (by simp (disch := omega) only [go_sem, hn]; with_reducible rfl) (by with_reducible rfl) ?_ | fail))
          (first | refine w_fini ?_ | refine w_finiN ?_); simp (disch := omega) only [go_sem, e1, e2, chl_len]
        · obtain ⟨zs', e7⟩ := e6 g6
          (repeat (first | refine w_seq ?_ | refine w_block ?_ | refine w_regS (by simp (disch := omega) only [go_sem, hn]; with_reducible rfl) ?_ | refine w_reg (by simp (disch := omega) only [go_sem, hn]; with_reducible rfl) ?_ | refine w_skipS ?_ | refine w_skipB ?_ | refine w_exitS ?_ | refine w_exitB ?_ | refine w_exitN rfl ?_ | refine w_exitL ?_ | refine w_retS ?_ | refine w_retB ?_ | refine w_retL ?_ | refine w_condT (by simp (disch := omega) only [go_sem, hn]; with_reducible rfl) (by with_reducible rfl) ?_ | refine w_condF (by simp (disch := omega) only [go_sem, hn]; with_reducible rfl) (by with_reducible rfl) ?_ | fail))
          (first | refine w_fini ?_ | refine w_finiN ?_); simp (disch := omega) only [go_sem, e7, e2, chl_len]
end
end Go.Proofs.Ytbdknlejnacmgaa.Pi.W
end

section
/-
  The laws' own functions of layer 7 on our machine: square, read, list.
-/
namespace Go.Proofs.Ytbdknlejnacmgaa.Pi.W
open Go Num
set_option linter.unusedVariables false
set_option linter.unusedSimpArgs false
set_option maxRecDepth 100000

/-- Rows that make a matrix of up to so many. -/
def Sq (zss : List (List Int)) (most : Nat) : Prop := zss.length ≤ most ∧ ∀ zs ∈ zss, zs.length = zss.length

theorem square_no (zss : List (List Int)) (most : Nat) (hm : most ≤ 1000) (hl : zss.length ≤ 9223372036854775807) (hls : ∀ zs ∈ zss, zs.length ≤ 9223372036854775807) (h : ¬ Sq zss most) : lim tab F_law07_square [IR zss, .int .i64 (most : Int)] none = some ⟨[.bool false], [], none⟩ := by
  refine runs_w rfl rfl ?_
  by_cases h1 : most < zss.length
  · (repeat (first | refine w_seq ?_ | refine w_block ?_ | refine w_regS (by simp (disch := omega) only [go_sem]; with_reducible rfl) ?_ | refine w_reg (by simp (disch := omega) only [go_sem]; with_reducible rfl) ?_ | refine w_skipS ?_ | refine w_skipB ?_ | refine w_exitS ?_ | refine w_exitB ?_ | refine w_exitN rfl ?_ | refine w_exitL ?_ | refine w_retS ?_ | refine w_retB ?_ | refine w_retL ?_ | refine w_condT (by simp (disch := omega) only [go_sem]; with_reducible rfl) (by with_reducible rfl) ?_ | refine w_condF (by simp (disch := omega) only [go_sem]; with_reducible rfl) (by with_reducible rfl) ?_ | fail))
    (first | refine w_fini ?_ | refine w_finiN ?_); simp (disch := omega) only [go_sem]
  · (repeat (first | refine w_seq ?_ | refine w_block ?_ | refine w_regS (by simp (disch := omega) only [go_sem]; with_reducible rfl) ?_ | refine w_reg (by simp (disch := omega) only [go_sem]; with_reducible rfl) ?_ | refine w_skipS ?_ | refine w_skipB ?_ | refine w_exitS ?_ | refine w_exitB ?_ | refine w_exitN rfl ?_ | refine w_exitL ?_ | refine w_retS ?_ | refine w_retB ?_ | refine w_retL ?_ | refine w_condT (by simp (disch := omega) only [go_sem]; with_reducible rfl) (by with_reducible rfl) ?_ | refine w_condF (by simp (disch := omega) only [go_sem]; with_reducible rfl) (by with_reducible rfl) ?_ | fail))
    refine w_loop (fun m s => ∃ i g', i + m = zss.length ∧ (∀ j (h : j < zss.length), j < i → zss[j].length = zss.length) ∧ s = ⟨[(0, IR zss), (5, .int .i64 (i : Nat))], [], [], g'⟩) zss.length ?_ ?_
    · exact ⟨0, _, by omega, fun j h1 h2 => by omega, rfl⟩
    · rintro m s ⟨i, g', h2, h3, rfl⟩
      by_cases hi : i < zss.length
      · have hz : zss[i]? = some zss[i] := List.getElem?_eq_getElem hi
        have hlz := hls _ (List.getElem_mem hi)
        by_cases hb : zss[i].length = zss.length
        · (repeat (first | refine w_seq ?_ | refine w_block ?_ | refine w_regS (by simp (disch := omega) only [go_sem, hz]; with_reducible rfl) ?_ | refine w_reg (by simp (disch := omega) only [go_sem, hz]; with_reducible rfl) ?_ | refine w_skipS ?_ | refine w_skipB ?_ | refine w_exitS ?_ | refine w_exitB ?_ | refine w_exitN rfl ?_ | refine w_exitL ?_ | refine w_retS ?_ | refine w_retB ?_ | refine w_retL ?_ | refine w_condT (by simp (disch := omega) only [go_sem, hz]; with_reducible rfl) (by with_reducible rfl) ?_ | refine w_condF (by simp (disch := omega) only [go_sem, hz]; with_reducible rfl) (by with_reducible rfl) ?_ | fail))
          refine w_skipL ⟨m - 1, by omega, i + 1, _, by omega, fun j p1 p2 => ?_, rfl⟩
          by_cases hj : j = i
          · subst hj; exact hb
          · exact h3 j p1 (by omega)
        · (repeat (first | refine w_seq ?_ | refine w_block ?_ | refine w_regS (by simp (disch := omega) only [go_sem, hz]; with_reducible rfl) ?_ | refine w_reg (by simp (disch := omega) only [go_sem, hz]; with_reducible rfl) ?_ | refine w_skipS ?_ | refine w_skipB ?_ | refine w_exitS ?_ | refine w_exitB ?_ | refine w_exitN rfl ?_ | refine w_exitL ?_ | refine w_retS ?_ | refine w_retB ?_ | refine w_retL ?_ | refine w_condT (by simp (disch := omega) only [go_sem, hz]; with_reducible rfl) (by with_reducible rfl) ?_ | refine w_condF (by simp (disch := omega) only [go_sem, hz]; with_reducible rfl) (by with_reducible rfl) ?_ | fail))
          (first | refine w_fini ?_ | refine w_finiN ?_); simp (disch := omega) only [go_sem]
      · exact absurd ⟨by omega, fun zs hz => by obtain ⟨j, hj, rfl⟩ := List.getElem_of_mem hz; exact h3 j hj (by omega)⟩ h
theorem square_yes (zss : List (List Int)) (most : Nat) (hm : most ≤ 1000) (h : Sq zss most) : lim tab F_law07_square [IR zss, .int .i64 (most : Int)] none = some ⟨[.bool true], [], none⟩ := by
  obtain ⟨h1, h2⟩ := h
  refine runs_w rfl rfl ?_
  (repeat (first | refine w_seq ?_ | refine w_block ?_ | refine w_regS (by simp (disch := omega) only [go_sem]; with_reducible rfl) ?_ | refine w_reg (by simp (disch := omega) only [go_sem]; with_reducible rfl) ?_ | refine w_skipS ?_ | refine w_skipB ?_ | refine w_exitS ?_ | refine w_exitB ?_ | refine w_exitN rfl ?_ | refine w_exitL ?_ | refine w_retS ?_ | refine w_retB ?_ | refine w_retL ?_ | refine w_condT (by simp (disch := omega) only [go_sem]; with_reducible rfl) (by with_reducible rfl) ?_ | refine w_condF (by simp (disch := omega) only [go_sem]; with_reducible rfl) (by with_reducible rfl) ?_ | fail))
  refine w_loop (fun m s => ∃ i g', i + m = zss.length ∧ s = ⟨[(0, IR zss), (5, .int .i64 (i : Nat))], [], [], g'⟩) zss.length ?_ ?_
  · exact ⟨0, _, by omega, rfl⟩
  · rintro m s ⟨i, g', h3, rfl⟩
    by_cases hi : i < zss.length
    · have hz : zss[i]? = some zss[i] := List.getElem?_eq_getElem hi
      have hb := h2 _ (List.getElem_mem hi)
      (repeat (first | refine w_seq ?_ | refine w_block ?_ | refine w_regS (by simp (disch := omega) only [go_sem, hz, hb]; with_reducible rfl) ?_ | refine w_reg (by simp (disch := omega) only [go_sem, hz, hb]; with_reducible rfl) ?_ | refine w_skipS ?_ | refine w_skipB ?_ | refine w_exitS ?_ | refine w_exitB ?_ | refine w_exitN rfl ?_ | refine w_exitL ?_ | refine w_retS ?_ | refine w_retB ?_ | refine w_retL ?_ | refine w_condT (by simp (disch := omega) only [go_sem, hz, hb]; with_reducible rfl) (by with_reducible rfl) ?_ | refine w_condF (by simp (disch := omega) only [go_sem, hz, hb]; with_reducible rfl) (by with_reducible rfl) ?_ | fail))
      exact w_skipL ⟨m - 1, by omega, i + 1, _, by omega, rfl⟩
    · (repeat (first | refine w_seq ?_ | refine w_block ?_ | refine w_regS (by simp (disch := omega) only [go_sem]; with_reducible rfl) ?_ | refine w_reg (by simp (disch := omega) only [go_sem]; with_reducible rfl) ?_ | refine w_skipS ?_ | refine w_skipB ?_ | refine w_exitS ?_ | refine w_exitB ?_ | refine w_exitN rfl ?_ | refine w_exitL ?_ | refine w_retS ?_ | refine w_retB ?_ | refine w_retL ?_ | refine w_condT (by simp (disch := omega) only [go_sem]; with_reducible rfl) (by with_reducible rfl) ?_ | refine w_condF (by simp (disch := omega) only [go_sem]; with_reducible rfl) (by with_reducible rfl) ?_ | fail))
      (first | refine w_fini ?_ | refine w_finiN ?_); simp (disch := omega) only [go_sem]

theorem read_no (zss : List (List Int)) (most : Nat) (hm : most ≤ 1000) (hl : zss.length ≤ 9223372036854775807) (hls : ∀ zs ∈ zss, zs.length ≤ 9223372036854775807) (h : ¬ Sq zss most) : lim tab F_law07_read [IR zss, .int .i64 (most : Int)] none = some ⟨[.view [], .view [], .bool false], [], none⟩ := by
  have h1 := square_no zss most hm hl hls h
  refine runs_w rfl rfl ?_
  (repeat (first | refine w_seq ?_ | refine w_block ?_ | refine w_regS (by simp (disch := omega) only [go_sem, h1]; with_reducible rfl) ?_ | refine w_reg (by simp (disch := omega) only [go_sem, h1]; with_reducible rfl) ?_ | refine w_skipS ?_ | refine w_skipB ?_ | refine w_exitS ?_ | refine w_exitB ?_ | refine w_exitN rfl ?_ | refine w_exitL ?_ | refine w_retS ?_ | refine w_retB ?_ | refine w_retL ?_ | refine w_condT (by simp (disch := omega) only [go_sem, h1]; with_reducible rfl) (by with_reducible rfl) ?_ | refine w_condF (by simp (disch := omega) only [go_sem, h1]; with_reducible rfl) (by with_reducible rfl) ?_ | fail))
  (first | refine w_fini ?_ | refine w_finiN ?_); simp (disch := omega) only [go_sem, List.take_nil]
theorem read_yes (zss : List (List Int)) (most : Nat) (hm : most ≤ 12) (hz : ∀ zs ∈ zss, ∀ z ∈ zs, I64 z) (h : Sq zss most) : lim tab F_law07_read [IR zss, .int .i64 (most : Int)] none = some ⟨[Mx zss.length zss.length (ent zss), DM zss.length zss.length (ent zss), .bool true], [], none⟩ := by
  have h1 := square_yes zss most (by omega) h
  have h2 := of_ok zss zss.length rfl (by have := h.1; omega) h.2 hz
  have h3 := refof_lim zss zss.length rfl (by have := h.1; omega) h.2 hz
  refine runs_w rfl rfl ?_
  (repeat (first | refine w_seq ?_ | refine w_block ?_ | refine w_regS (by simp (disch := omega) only [go_sem, h1, h2, h3]; with_reducible rfl) ?_ | refine w_reg (by simp (disch := omega) only [go_sem, h1, h2, h3]; with_reducible rfl) ?_ | refine w_skipS ?_ | refine w_skipB ?_ | refine w_exitS ?_ | refine w_exitB ?_ | refine w_exitN rfl ?_ | refine w_exitL ?_ | refine w_retS ?_ | refine w_retB ?_ | refine w_retL ?_ | refine w_condT (by simp (disch := omega) only [go_sem, h1, h2, h3]; with_reducible rfl) (by with_reducible rfl) ?_ | refine w_condF (by simp (disch := omega) only [go_sem, h1, h2, h3]; with_reducible rfl) (by with_reducible rfl) ?_ | fail))
  (first | refine w_fini ?_ | refine w_finiN ?_); simp (disch := omega) only [go_sem]

/-- A list's number, 0 behind its end. -/
def lst (zs : List Int) (i : Nat) : Int := zs.getD i 0
theorem lst_at {zs : List Int} {i : Nat} {z : Int} (h : zs[i]? = some z) : lst zs i = z := by
  simp only [lst, List.getD_eq_getElem?_getD, h, Option.getD_some]
theorem lst_out {zs : List Int} {i : Nat} (h : zs.length ≤ i) : lst zs i = 0 := by
  simp only [lst, List.getD_eq_getElem?_getD, List.getElem?_eq_none h, Option.getD_none]
theorem lst_I64 {zs : List Int} (h : ∀ z ∈ zs, I64 z) (i : Nat) : I64 (lst zs i) := by
  by_cases hi : i < zs.length
  · rw [lst_at (List.getElem?_eq_getElem hi)]; exact h _ (List.getElem_mem hi)
  · rw [lst_out (by omega)]; exact ⟨by omega, by omega⟩

theorem lawlist_lim (zs : List Int) (n : Nat) (hn : n ≤ 1000) (hz : ∀ z ∈ zs, I64 z) (hl : zs.length ≤ 9223372036854775807) : lim tab F_law07_list [sl i64c false zs, .int .i64 (n : Int)] none = some ⟨[Rw n (lst zs), DR n (lst zs)], [], none⟩ := by
  refine runs_w rfl rfl ?_
  (repeat (first | refine w_seq ?_ | refine w_block ?_ | refine w_regS (by simp (disch := omega) only [go_sem]; with_reducible rfl) ?_ | refine w_reg (by simp (disch := omega) only [go_sem]; with_reducible rfl) ?_ | refine w_skipS ?_ | refine w_skipB ?_ | refine w_exitS ?_ | refine w_exitB ?_ | refine w_exitN rfl ?_ | refine w_exitL ?_ | refine w_retS ?_ | refine w_retB ?_ | refine w_retL ?_ | refine w_condT (by simp (disch := omega) only [go_sem]; with_reducible rfl) (by with_reducible rfl) ?_ | refine w_condF (by simp (disch := omega) only [go_sem]; with_reducible rfl) (by with_reducible rfl) ?_ | fail))
  refine w_loop (fun m s => ∃ i g7 g8 g', i + m = n ∧ s = ⟨[(0, sl i64c false zs), (1, .int .i64 (n : Nat)), (6, .own ⟨7, g7, 0⟩ 2 0 i), (7, .own ⟨8, g8, 0⟩ 2 0 i), (8, .int .i64 (i : Nat))],
    [⟨7, g7, false, [⟨((List.range i).map (lst zs)).map zc, true⟩]⟩, ⟨8, g8, false, [⟨((List.range i).map (lst zs)).map dc, true⟩]⟩], [], g'⟩) n ?_ ?_
  · exact ⟨0, _, _, _, by omega, rfl⟩
  · rintro m s ⟨i, g7, g8, g', h1, rfl⟩
    by_cases hi : i < n
    · have hI := lst_I64 hz i
      have h2 := of_lim (lst zs i) hI.1 hI.2
      have h3 := dof_lim (lst zs i) hI
      have h4 := rng_succ i (lst zs)
      by_cases hx : i < zs.length
      · have h5 : zs[i]? = some (lst zs i) := by rw [List.getElem?_eq_getElem hx, lst_at (List.getElem?_eq_getElem hx)]
        (repeat (first | refine w_seq ?_ | refine w_block ?_ | refine w_regS (by simp (disch := omega) only [go_sem, h2, h3, h4, h5]; with_reducible rfl) ?_ | refine w_reg (by simp (disch := omega) only [go_sem, h2, h3, h4, h5]; with_reducible rfl) ?_ | refine w_skipS ?_ | refine w_skipB ?_ | refine w_exitS ?_ | refine w_exitB ?_ | refine w_exitN rfl ?_ | refine w_exitL ?_ | refine w_retS ?_ | refine w_retB ?_ | refine w_retL ?_ | refine w_condT (by simp (disch := omega) only [go_sem, h2, h3, h4, h5]; with_reducible rfl) (by with_reducible rfl) ?_ | refine w_condF (by simp (disch := omega) only [go_sem, h2, h3, h4, h5]; with_reducible rfl) (by with_reducible rfl) ?_ | fail))
        exact w_skipL ⟨m - 1, by omega, i + 1, _, _, _, by omega, rfl⟩
      · have h5 := lst_out (zs := zs) (i := i) (by omega)
        rw [h5] at h2 h3 h4
        (repeat (first | refine w_seq ?_ | refine w_block ?_ | refine w_regS (by simp (disch := omega) only [go_sem, h2, h3, h4]; with_reducible rfl) ?_ | refine w_reg (by simp (disch := omega) only [go_sem, h2, h3, h4]; with_reducible rfl) ?_ | refine w_skipS ?_ | refine w_skipB ?_ | refine w_exitS ?_ | refine w_exitB ?_ | refine w_exitN rfl ?_ | refine w_exitL ?_ | refine w_retS ?_ | refine w_retB ?_ | refine w_retL ?_ | refine w_condT (by simp (disch := omega) only [go_sem, h2, h3, h4]; with_reducible rfl) (by with_reducible rfl) ?_ | refine w_condF (by simp (disch := omega) only [go_sem, h2, h3, h4]; with_reducible rfl) (by with_reducible rfl) ?_ | fail))
        exact w_skipL ⟨m - 1, by omega, i + 1, _, _, _, by omega, rfl⟩
    · obtain rfl : i = n := by omega
      (repeat (first | refine w_seq ?_ | refine w_block ?_ | refine w_regS (by simp (disch := omega) only [go_sem]; with_reducible rfl) ?_ | refine w_reg (by simp (disch := omega) only [go_sem]; with_reducible rfl) ?_ | refine w_skipS ?_ | refine w_skipB ?_ | refine w_exitS ?_ | refine w_exitB ?_ | refine w_exitN rfl ?_ | refine w_exitL ?_ | refine w_retS ?_ | refine w_retB ?_ | refine w_retL ?_ | refine w_condT (by simp (disch := omega) only [go_sem]; with_reducible rfl) (by with_reducible rfl) ?_ | refine w_condF (by simp (disch := omega) only [go_sem]; with_reducible rfl) (by with_reducible rfl) ?_ | fail))
      (first | refine w_fini ?_ | refine w_finiN ?_); simp (disch := omega) only [go_sem]
end Go.Proofs.Ytbdknlejnacmgaa.Pi.W
end

section
/-
  LinBack on our machine.
-/
namespace Go.Proofs.Ytbdknlejnacmgaa.Pi.W
open Go Num
set_option linter.unusedVariables false
set_option linter.unusedSimpArgs false
set_option maxRecDepth 100000

theorem sz_I64 {z : Int} (h : I64 z) : sz z ≤ 2 := sz_i64 h.1 h.2
theorem ent_I64 {zss : List (List Int)} (h : ∀ zs ∈ zss, ∀ z ∈ zs, I64 z) (i j : Nat) : I64 (ent zss i j) := by
  show I64 (lst (zss.getD i []) j)
  refine lst_I64 (fun z hz => ?_) j
  by_cases hi : i < zss.length
  · rw [List.getD_eq_getElem?_getD, List.getElem?_eq_getElem hi, Option.getD_some] at hz
    exact h _ (List.getElem_mem hi) z hz
  · rw [List.getD_eq_getElem?_getD, List.getElem?_eq_none (by omega), Option.getD_none] at hz
    cases hz

theorem linBack_lim (hA : lim tab F_law07_awake [] none = some ⟨[.bool true], [], none⟩) (zss : List (List Int)) (zs : List Int) (hl : zss.length ≤ 9223372036854775807) (hls : ∀ zs ∈ zss, zs.length ≤ 9223372036854775807) (hz : ∀ zs ∈ zss, ∀ z ∈ zs, I64 z)
    (hl' : zs.length ≤ 9223372036854775807) (hz' : ∀ z ∈ zs, I64 z) : lim tab F_law07_LinBack [IR zss, sl i64c false zs] none = some ⟨[.bool true], [], none⟩ := by
  refine runs_w rfl rfl ?_
  by_cases hsq : Sq zss 8
  · have hr := read_yes zss 8 (by omega) hz hsq
    rw [show ((8 : Nat) : Int) = 8 from rfl] at hr
    have hn := hsq.1
    generalize zss.length = n at *
    have hli := lawlist_lim zs n (by omega) hz' hl'
    have ha : ∀ i, i < n → ∀ j, j < n → sz (ent zss i j) ≤ 2 := fun i _ j _ => sz_I64 (ent_I64 hz i j)
    have hb : ∀ i, i < n → sz (lst zs i) ≤ 2 := fun i _ => sz_I64 (lst_I64 hz' i)
    have hdet := det_lim n 2 (ent zss) (by omega) (by omega) (by omega) ha
    by_cases hd : det n (ent zss) = 0
    · have hs := solve_zero n 2 (ent zss) (lst zs) (by omega) (by omega) (by omega) ha hb hd
      rw [hd] at hdet
      (repeat (first | refine w_seq ?_ | refine w_block ?_ | refine w_regS (by simp (disch := omega) only [go_sem, hA, hr, hli, hs, hdet, Int.sign_zero]; with_reducible rfl) ?_ | refine w_reg (by simp (disch := omega) only [go_sem, hA, hr, hli, hs, hdet, Int.sign_zero]; with_reducible rfl) ?_ | refine w_skipS ?_ | refine w_skipB ?_ | refine w_exitS ?_ | refine w_exitB ?_ | refine w_exitN rfl ?_ | refine w_exitL ?_ | refine w_retS ?_ | refine w_retB ?_ | refine w_retL ?_ | refine w_condT (by simp (disch := omega) only [go_sem, hA, hr, hli, hs, hdet, Int.sign_zero]; with_reducible rfl) (by with_reducible rfl) ?_ | refine w_condF (by simp (disch := omega) only [go_sem, hA, hr, hli, hs, hdet, Int.sign_zero]; with_reducible rfl) (by with_reducible rfl) ?_ | fail))
      (first | refine w_fini ?_ | refine w_finiN ?_); simp (disch := omega) only [go_sem]
    · obtain ⟨x, hs, hx, hsx⟩ := solve_ok n 2 (ent zss) (lst zs) (by omega) (by omega) (by omega) ha hb hd
      have hsd := sz_det n 2 (ent zss) (by omega) (by omega) (by omega) ha
      have hap := apply_lim n (ent zss) x 2 12288 (by omega) (by omega) (by omega) (fun i k hi hk => ha i hi k hk) fun k hk => by have := hsx k hk; omega
      have h0 : (det n (ent zss)).sign ≠ 0 := fun h => hd (Int.sign_eq_zero_iff_zero.1 h)
      have hmv : ∀ i, i < n → sz (mv n (ent zss) x i) ≤ 20000 := fun i hi => by
        have := sz_mv (S := 2) (T := 12288) (fun i k hi hk => ha i hi k hk) (fun k hk => by have := hsx k hk; omega) hi
        omega
      generalize det n (ent zss) = dt at *
      (repeat (first | refine w_seq ?_ | refine w_block ?_ | refine w_regS (by simp (disch := omega) only [go_sem, hA, hr, hli, hs, hdet, hap]; with_reducible rfl) ?_ | refine w_reg (by simp (disch := omega) only [go_sem, hA, hr, hli, hs, hdet, hap]; with_reducible rfl) ?_ | refine w_skipS ?_ | refine w_skipB ?_ | refine w_exitS ?_ | refine w_exitB ?_ | refine w_exitN rfl ?_ | refine w_exitL ?_ | refine w_retS ?_ | refine w_retB ?_ | refine w_retL ?_ | refine w_condT (by simp (disch := omega) only [go_sem, hA, hr, hli, hs, hdet, hap]; with_reducible rfl) (by with_reducible rfl) ?_ | refine w_condF (by simp (disch := omega) only [go_sem, hA, hr, hli, hs, hdet, hap]; with_reducible rfl) (by with_reducible rfl) ?_ | fail))
      refine w_loop (fun m s => ∃ i g', i + m = n ∧ s = ⟨[(5, .bool true), (6, Mx n n (ent zss)), (9, Rw n (lst zs)), (12, .optr ⟨13, 6, 0⟩ 0 0), (15, Rw n (mv n (ent zss) x)), (16, .int .i64 (i : Nat))], [⟨13, 6, false, [⟨[zc dt], true⟩]⟩], [], g'⟩) n ?_ ?_
      · exact ⟨0, _, by omega, rfl⟩
      · rintro m s ⟨i, g', h1, rfl⟩
        by_cases hi : i < n
        · have e1 := hx i hi
          have e2 := hb i hi
          have e3 := hmv i hi
          have e4 := sz_mul (lst zs i) dt
          have e5 : mv n (ent zss) x i - lst zs i * dt = 0 := by omega
          (repeat (first | refine w_seq ?_ | refine w_block ?_ | refine w_regS (by simp (disch := omega) only [go_sem, e5, Int.sign_zero]; with_reducible rfl) ?_ | refine w_reg (by simp (disch := omega) only [go_sem, e5, Int.sign_zero]; with_reducible rfl) ?_ | refine w_skipS ?_ | refine w_skipB ?_ | refine w_exitS ?_ | refine w_exitB ?_ | refine w_exitN rfl ?_ | refine w_exitL ?_ | refine w_retS ?_ | refine w_retB ?_ | refine w_retL ?_ | refine w_condT (by simp (disch := omega) only [go_sem, e5, Int.sign_zero]; with_reducible rfl) (by with_reducible rfl) ?_ | refine w_condF (by simp (disch := omega) only [go_sem, e5, Int.sign_zero]; with_reducible rfl) (by with_reducible rfl) ?_ | fail))
          exact w_skipL ⟨m - 1, by omega, i + 1, _, by omega, rfl⟩
        · (repeat (first | refine w_seq ?_ | refine w_block ?_ | refine w_regS (by simp (disch := omega) only [go_sem]; with_reducible rfl) ?_ | refine w_reg (by simp (disch := omega) only [go_sem]; with_reducible rfl) ?_ | refine w_skipS ?_ | refine w_skipB ?_ | refine w_exitS ?_ | refine w_exitB ?_ | refine w_exitN rfl ?_ | refine w_exitL ?_ | refine w_retS ?_ | refine w_retB ?_ | refine w_retL ?_ | refine w_condT (by simp (disch := omega) only [go_sem]; with_reducible rfl) (by with_reducible rfl) ?_ | refine w_condF (by simp (disch := omega) only [go_sem]; with_reducible rfl) (by with_reducible rfl) ?_ | fail))
          (first | refine w_fini ?_ | refine w_finiN ?_); simp (disch := omega) only [go_sem]
  · have hr := read_no zss 8 (by omega) hl hls hsq
    rw [show ((8 : Nat) : Int) = 8 from rfl] at hr
    (repeat (first | refine w_seq ?_ | refine w_block ?_ | refine w_regS (by simp (disch := omega) only [go_sem, hA, hr]; with_reducible rfl) ?_ | refine w_reg (by simp (disch := omega) only [go_sem, hA, hr]; with_reducible rfl) ?_ | refine w_skipS ?_ | refine w_skipB ?_ | refine w_exitS ?_ | refine w_exitB ?_ | refine w_exitN rfl ?_ | refine w_exitL ?_ | refine w_retS ?_ | refine w_retB ?_ | refine w_retL ?_ | refine w_condT (by simp (disch := omega) only [go_sem, hA, hr]; with_reducible rfl) (by with_reducible rfl) ?_ | refine w_condF (by simp (disch := omega) only [go_sem, hA, hr]; with_reducible rfl) (by with_reducible rfl) ?_ | fail))
    (first | refine w_fini ?_ | refine w_finiN ?_); simp (disch := omega) only [go_sem]
end Go.Proofs.Ytbdknlejnacmgaa.Pi.W
end
