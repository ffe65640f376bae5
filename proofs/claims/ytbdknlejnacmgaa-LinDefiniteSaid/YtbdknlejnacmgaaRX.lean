import Derived.Test.YtbdknlejnacmgaaR

section
/-
  LinRules on our machine: rows of their own that are appended; the loops.
-/
namespace Go.Proofs.Ytbdknlejnacmgaa.Pi.W
open Go Num
set_option linter.unusedVariables false
set_option linter.unusedSimpArgs false
set_option maxRecDepth 100000

theorem appY_row (h : List Ent) (z : List (Nat × Nat)) (g : Nat) (av : List Nat) (wl : Option Nat) (l bytes l1 g1 len m g2 zm k : Nat) :
    appY h z g av wl l 1 bytes (.own ⟨l1, g1, 0⟩ 1 0 len) [[.own ⟨m, g2, 0⟩ zm 0 k]] = req (decide (1 ≤ l) && (okAv av l1 && okW wl l1 && !isFz h z ⟨l1, g1, 0⟩ && !(l1 == 0) && decide ((len + 1) * bytes ≤ 140737488355328)))
      (thn (efind h l1 g1) fun e => appR h z g av e l1 g1 l 1 len [.own ⟨m, g2, 0⟩ zm 0 k]) := by
  rw [appY_one]
  simp only [List.length_singleton, beq_self_eq_true, Bool.and_true, Bool.true_and, show ([PV.own ⟨m, g2, 0⟩ zm 0 k].all pu0) = false from rfl, show ([PV.own ⟨m, g2, 0⟩ zm 0 k].all flat) = true from rfl, sel, cond_false]

theorem RO_succ (c j : Nat) (φ : Nat → Nat → Int) : RO j c φ ++ [⟨((List.range c).map (φ j)).map zc, true⟩] = RO (j + 1) c φ := by
  unfold RO; rw [List.range_succ, List.map_append]; rfl

/-- Rows that are views, in an object. -/
def VO (c r : Nat) (φ : Nat → Nat → Int) : List (List PV) := (List.range r).map fun t => [Rw c (φ t)]
theorem VO_len (c r : Nat) (φ : Nat → Nat → Int) : (VO c r φ).length = r := by simp [VO]
theorem VO_succ (c j : Nat) (φ : Nat → Nat → Int) : VO c j φ ++ [[Rw c (φ j)]] = VO c (j + 1) φ := by
  unfold VO; rw [List.range_succ, List.map_append]; rfl
theorem VO_at (c r : Nat) (φ : Nat → Nat → Int) {k : Nat} (h : k < r) : (VO c r φ)[k]? = some [Rw c (φ k)] := by
  unfold VO; rw [List.getElem?_map, List.getElem?_range h]; rfl
theorem VO_set (c r : Nat) (φ : Nat → Nat → Int) (k : Nat) (f : Nat → Int) : (VO c r φ).set k [Rw c f] = VO c r fun t => if t = k then f else φ t := by
  unfold VO; rw [rng_set]
  congr 1; funext t
  by_cases h : t = k
  · simp only [h, if_true]
  · simp only [if_neg h]
theorem VO_view (c r : Nat) (φ : Nat → Nat → Int) : PV.view (VO c r φ) = Mx r c φ := by
  unfold VO Mx; rw [List.map_map]; rfl
theorem VO_pure (c r : Nat) (φ : Nat → Nat → Int) : (VO c r φ).all (fun x => x.all pu0) = true := by
  unfold VO; simp [List.all_map, List.all_eq_true]; intro k _; unfold Rw; exact pu0_sl _ _ _
theorem elems_Rw (h : List Ent) (av : List Nat) (n : Nat) (f : Nat → Int) : elems h av (Rw n f) = some (((List.range n).map f).map zc) := elems_sl _ _ _ _ _
theorem appY_zc (h : List Ent) (z : List (Nat × Nat)) (g : Nat) (av : List Nat) (wl : Option Nat) (l sz bytes l1 g1 zs len : Nat) (q : List Int) :
    appY h z g av wl l sz bytes (.own ⟨l1, g1, 0⟩ zs 0 len) (q.map zc) = req (decide (1 ≤ l) && fits sz (q.map zc) && (q.map zc).all (·.all flat) && (zs == sz && okAv av l1 && okW wl l1 && !isFz h z ⟨l1, g1, 0⟩ && !(l1 == 0) && decide ((len + (q.map zc).length) * bytes ≤ 140737488355328))) (thn (efind h l1 g1) fun e => app1 e l1 g1 l g sz len (q.map zc)) :=
  appY_own h z g av wl l sz bytes l1 g1 zs len _ (pure_zc q)
theorem appY_Rw (h : List Ent) (z : List (Nat × Nat)) (g : Nat) (av : List Nat) (wl : Option Nat) (l bytes l1 g1 len c : Nat) (f : Nat → Int) :
    appY h z g av wl l 1 bytes (.own ⟨l1, g1, 0⟩ 1 0 len) [[Rw c f]] = req (decide (1 ≤ l) && (okAv av l1 && okW wl l1 && !isFz h z ⟨l1, g1, 0⟩ && !(l1 == 0) && decide ((len + 1) * bytes ≤ 140737488355328)))
      (thn (efind h l1 g1) fun e => app1 e l1 g1 l g 1 len [[Rw c f]]) := by
  rw [appY_one]
  simp only [List.length_singleton, beq_self_eq_true, Bool.and_true, Bool.true_and, List.all_cons, List.all_nil, pu0_Rw, flat_Rw, sel, cond_true]

/-! ### Rows of their own are handed on -/
theorem fzll_z (l g n c : Nat) (hl : (l == 0) = false) (ρ : Nat → Nat → Int) (h : List Ent) (fz : Bool) (pa : Obj) (hh : efind h l g = some ⟨l, g, fz, pa :: RO n c ρ⟩) : ∀ (m : Nat), m ≤ n →
    fzll (fz0 h) (chl l g c m fun t => t) = some (VO c m ρ, List.replicate m (l, g)) := by
  have app : ∀ (q : List (List PV)) (x : List PV) a za b zb, fzll (fz0 h) q = some (a, za) → fzl (fz0 h) x = some (b, zb) → fzll (fz0 h) (q ++ [x]) = some (a ++ [b], za ++ zb) := by
    intro q
    induction q with
    | nil =>
      intro x a za b zb h1 h2
      simp only [fzll, Option.some.injEq, Prod.mk.injEq] at h1
      obtain ⟨rfl, rfl⟩ := h1
      simp only [List.nil_append, fzll, h2, Option.bind_some, List.append_nil]
    | cons y q ih =>
      intro x a za b zb h1 h2
      simp only [fzll] at h1
      cases h3 : fzl (fz0 h) y with
      | none => rw [h3] at h1; cases h1
      | some u =>
        rw [h3, Option.bind_some] at h1
        cases h4 : fzll (fz0 h) q with
        | none => rw [h4] at h1; cases h1
        | some v =>
          rw [h4, Option.bind_some, Option.some.injEq, Prod.mk.injEq] at h1
          obtain ⟨rfl, rfl⟩ := h1
          simp only [List.cons_append, fzll, h3, Option.bind_some, ih _ _ _ _ _ h4 h2, List.append_assoc]
  intro m
  induction m with
  | zero => intro _; rfl
  | succ m ih =>
    intro hm
    have h1 : fzl (fz0 h) [.own ⟨l, g, m + 1⟩ 2 0 c] = some ([Rw c (ρ m)], [(l, g)]) := by
      have h2 : hobj h ⟨l, g, m + 1⟩ = some ⟨((List.range c).map (ρ m)).map zc, true⟩ := by
        show (efind h l g).bind _ = _
        rw [hh]
        show (pa :: RO n c ρ)[m + 1]? = _
        rw [List.getElem?_cons_succ, RO_at n c ρ (by omega)]
      have h3 : (((List.range c).map (ρ m)).map zc).length = c := by simp
      have h4 : List.take c (((List.range c).map (ρ m)).map zc) = ((List.range c).map (ρ m)).map zc := List.take_of_length_le (by omega)
      simp only [fzl, fz0, pu0, cond_false, rel0, hl, h2, Option.bind_some, Bool.true_and, h3, Nat.zero_add, Nat.le_refl, decide_true, cond_true, List.drop_zero, h4, List.append_nil]
      rfl
    rw [← chl_succ, app _ _ _ _ _ _ (ih (by omega)) h1, VO_succ, List.replicate_succ' (n := m)]
theorem all_rep {α : Type} (p : α → Bool) (a : α) (m : Nat) : (p a && (List.replicate m a).all p) = p a := by
  induction m with
  | zero => simp
  | succ m ih => rw [List.replicate_succ, List.all_cons, ← Bool.and_assoc, Bool.and_self, ih]
theorem all_tt {α : Type} (l : List α) : (l.all fun _ => true) = true := by simp
theorem zin_rep {l l' : Nat} (g g' m : Nat) (h : l ≠ l') : zin (List.replicate m (l, g)) l' g' = false := by
  induction m with
  | zero => rfl
  | succ m ih =>
    rw [List.replicate_succ, zin_cons, ih]
    simp [h]
theorem chl_take (l g c r : Nat) (π : Nat → Nat) : (chl l g c r π).take r = chl l g c r π := List.take_of_length_le (by rw [chl_len]; exact Nat.le_refl _)
theorem VO_take (c r : Nat) (φ : Nat → Nat → Int) : (VO c r φ).take r = VO c r φ := List.take_of_length_le (by rw [VO_len]; exact Nat.le_refl _)
end Go.Proofs.Ytbdknlejnacmgaa.Pi.W
end

section
/-
  LinRules on our machine: its two loops.
-/
namespace Go.Proofs.Ytbdknlejnacmgaa.Pi.W
open Go Num
set_option linter.unusedVariables false
set_option linter.unusedSimpArgs false
set_option maxRecDepth 100000

theorem rules_1 (n : Nat) (φ : Nat → Nat → Int) (d i k times : Int) (gd g1 g2 g : Nat) (Q : PEx → St → Prop) (hn : n ≤ 7)
    (hQ : ∀ g1 g2 X g', (X = [] ∨ ∃ gx, X = [⟨115, gx, false, []⟩]) → Wp tab .skip ⟨[(2, .int .i64 i), (3, .int .i64 k), (4, .int .i64 times), (11, .bool true), (12, Mx n n φ), (18, .optr ⟨19, gd, 0⟩ 0 0), (19, .int .i64 0), (20, .int .i64 0), (21, .own ⟨22, g1, 0⟩ 1 0 n), (22, .own ⟨23, g2, 0⟩ 1 0 n), (23, .int .i64 (n : Nat)), (105, .bool false)], ⟨19, gd, false, [⟨[zc d], true⟩]⟩ :: ⟨22, g1, false, ⟨chl 22 g1 n n (fun t => t), decide (n = 0)⟩ :: RO n n φ⟩ :: ⟨23, g2, false, [⟨VO n n φ, true⟩]⟩ :: X, [], g'⟩ Q) :
    Wp tab (.loop B_law07_LinRules_1) ⟨[(2, .int .i64 i), (3, .int .i64 k), (4, .int .i64 times), (11, .bool true), (12, Mx n n φ), (18, .optr ⟨19, gd, 0⟩ 0 0), (19, .int .i64 0), (20, .int .i64 0), (21, .own ⟨22, g1, 0⟩ 1 0 0), (22, .own ⟨23, g2, 0⟩ 1 0 0), (23, .int .i64 0)], [⟨19, gd, false, [⟨[zc d], true⟩]⟩, ⟨22, g1, false, [⟨[], true⟩]⟩, ⟨23, g2, false, [⟨[], true⟩]⟩], [], g⟩ (kB 0 Q) := by
  refine w_loop (fun m s => ∃ j g1 g2 X g', j + m = n ∧ (X = [] ∨ ∃ gx, X = [⟨115, gx, false, []⟩]) ∧ s = ⟨[(2, .int .i64 i), (3, .int .i64 k), (4, .int .i64 times), (11, .bool true), (12, Mx n n φ), (18, .optr ⟨19, gd, 0⟩ 0 0), (19, .int .i64 0), (20, .int .i64 0), (21, .own ⟨22, g1, 0⟩ 1 0 j), (22, .own ⟨23, g2, 0⟩ 1 0 j), (23, .int .i64 (j : Nat))], ⟨19, gd, false, [⟨[zc d], true⟩]⟩ :: ⟨22, g1, false, ⟨chl 22 g1 n j (fun t => t), decide (j = 0)⟩ :: RO j n φ⟩ :: ⟨23, g2, false, [⟨VO n j φ, true⟩]⟩ :: X, [], g'⟩) n ?_ ?_
  · exact ⟨0, _, _, [], _, by omega, .inl rfl, rfl⟩
  · rintro m s ⟨j, g1, g2, X, g', h1, hX, rfl⟩
    by_cases hj : j < n
    · have e3 := RO_succ n j φ
      have e4 := fun l g => chl_succ l g n j
      have e5 := VO_succ n j φ
      rcases hX with rfl | ⟨gx, rfl⟩
      all_goals
        (repeat (first | refine w_seq ?_ | refine w_block ?_ | refine w_regS (by simp (disch := omega) only [go_sem, chl_noself, chl_ren, chl_len, RO_len, VO_len, e3, e4, e5, List.length_range, appY_row, appY_Rw, appY_zc, elems_Rw, List.nil_append]; with_reducible rfl) ?_ | refine w_reg (by simp (disch := omega) only [go_sem, chl_noself, chl_ren, chl_len, RO_len, VO_len, e3, e4, e5, List.length_range, appY_row, appY_Rw, appY_zc, elems_Rw, List.nil_append]; with_reducible rfl) ?_ | refine w_skipS ?_ | refine w_skipB ?_ | refine w_exitS ?_ | refine w_exitB ?_ | refine w_exitN rfl ?_ | refine w_exitL ?_ | refine w_retS ?_ | refine w_retB ?_ | refine w_retL ?_ | refine w_condT (by simp (disch := omega) only [go_sem, chl_noself, chl_ren, chl_len, RO_len, VO_len, e3, e4, e5, List.length_range, appY_row, appY_Rw, appY_zc, elems_Rw, List.nil_append]; with_reducible rfl) (by with_reducible rfl) ?_ | refine w_condF (by simp (disch := omega) only [go_sem, chl_noself, chl_ren, chl_len, RO_len, VO_len, e3, e4, e5, List.length_range, appY_row, appY_Rw, appY_zc, elems_Rw, List.nil_append]; with_reducible rfl) (by with_reducible rfl) ?_ | fail))
        exact w_skipL ⟨m - 1, by omega, j + 1, _, _, _, _, by omega, .inr ⟨_, rfl⟩, rfl⟩
    · obtain rfl : j = n := by omega
      rcases hX with rfl | ⟨gx, rfl⟩
      all_goals
        (repeat (first | refine w_seq ?_ | refine w_block ?_ | refine w_regS (by simp (disch := omega) only [go_sem]; with_reducible rfl) ?_ | refine w_reg (by simp (disch := omega) only [go_sem]; with_reducible rfl) ?_ | refine w_skipS ?_ | refine w_skipB ?_ | refine w_exitS ?_ | refine w_exitB ?_ | refine w_exitN rfl ?_ | refine w_exitL ?_ | refine w_retS ?_ | refine w_retB ?_ | refine w_retL ?_ | refine w_condT (by simp (disch := omega) only [go_sem]; with_reducible rfl) (by with_reducible rfl) ?_ | refine w_condF (by simp (disch := omega) only [go_sem]; with_reducible rfl) (by with_reducible rfl) ?_ | fail))
        first | exact hQ _ _ [] _ (.inl rfl) | exact hQ _ _ [_] _ (.inr ⟨_, rfl⟩)
theorem rules_3 (n : Nat) (φ : Nat → Nat → Int) (d times : Int) (i k gd g1 g2 g : Nat) (p : Bool) (X : List Ent) (Q : PEx → St → Prop) (hn : n ≤ 7) (hi : i < n) (hk : k < n) (hX : X = [] ∨ ∃ gx, X = [⟨115, gx, false, []⟩]) (hs : ∀ i, i < n → ∀ j, j < n → sz (φ i j) ≤ 2) (ht : I64 times)
    (hQ : ∀ ρ g', (∀ t, t < n → ∀ s, s < n → ρ t s = if t = i then φ i s + φ k s * times else φ t s) → Wp tab .skip ⟨[(2, .int .i64 (i : Nat)), (3, .int .i64 (k : Nat)), (4, .int .i64 times), (11, .bool true), (12, Mx n n φ), (18, .optr ⟨19, gd, 0⟩ 0 0), (19, .int .i64 0), (20, .int .i64 0), (21, .own ⟨22, g1, 0⟩ 1 0 n), (22, .own ⟨23, g2, 0⟩ 1 0 n), (24, .int .i64 (n : Nat)), (127, .bool false)], ⟨19, gd, false, [⟨[zc d], true⟩]⟩ :: ⟨22, g1, false, ⟨chl 22 g1 n n (fun t => t), p⟩ :: RO n n ρ⟩ :: ⟨23, g2, false, [⟨VO n n φ, true⟩]⟩ :: X, [], g'⟩ Q) :
    Wp tab (.loop B_law07_LinRules_3) ⟨[(2, .int .i64 (i : Nat)), (3, .int .i64 (k : Nat)), (4, .int .i64 times), (11, .bool true), (12, Mx n n φ), (18, .optr ⟨19, gd, 0⟩ 0 0), (19, .int .i64 0), (20, .int .i64 0), (21, .own ⟨22, g1, 0⟩ 1 0 n), (22, .own ⟨23, g2, 0⟩ 1 0 n), (24, .int .i64 0)], ⟨19, gd, false, [⟨[zc d], true⟩]⟩ :: ⟨22, g1, false, ⟨chl 22 g1 n n (fun t => t), p⟩ :: RO n n φ⟩ :: ⟨23, g2, false, [⟨VO n n φ, true⟩]⟩ :: X, [], g⟩ (kB 2 Q) := by
  refine w_loop (fun m s => ∃ j ρ g', j + m = n ∧ (∀ t, t < n → ∀ s, s < n → ρ t s = if t = i ∧ s < j then φ i s + φ k s * times else φ t s) ∧ s = ⟨[(2, .int .i64 (i : Nat)), (3, .int .i64 (k : Nat)), (4, .int .i64 times), (11, .bool true), (12, Mx n n φ), (18, .optr ⟨19, gd, 0⟩ 0 0), (19, .int .i64 0), (20, .int .i64 0), (21, .own ⟨22, g1, 0⟩ 1 0 n), (22, .own ⟨23, g2, 0⟩ 1 0 n), (24, .int .i64 (j : Nat))], ⟨19, gd, false, [⟨[zc d], true⟩]⟩ :: ⟨22, g1, false, ⟨chl 22 g1 n n (fun t => t), p⟩ :: RO n n ρ⟩ :: ⟨23, g2, false, [⟨VO n n φ, true⟩]⟩ :: X, [], g'⟩) n ?_ ?_
  · exact ⟨0, φ, _, by omega, fun t ht s hs => by rw [if_neg (by omega)], rfl⟩
  · rintro m s ⟨j, ρ, g', h1, h2, rfl⟩
    by_cases hj : j < n
    · have s1 := hs i hi j hj
      have s2 := hs k hk j hj
      have s3 := sz_I64 ht
      have s4 := sz_mul (φ k j) times
      have t1 := ht.1
      have t2 := ht.2
      rcases hX with rfl | ⟨gx, rfl⟩
      all_goals
        (repeat (first | refine w_seq ?_ | refine w_block ?_ | refine w_regS (by simp (disch := omega) only [go_sem, chl_at, RO_at, List.getElem?_cons_succ, List.getElem?_range, rng_set, RO_set]; with_reducible rfl) ?_ | refine w_reg (by simp (disch := omega) only [go_sem, chl_at, RO_at, List.getElem?_cons_succ, List.getElem?_range, rng_set, RO_set]; with_reducible rfl) ?_ | refine w_skipS ?_ | refine w_skipB ?_ | refine w_exitS ?_ | refine w_exitB ?_ | refine w_exitN rfl ?_ | refine w_exitL ?_ | refine w_retS ?_ | refine w_retB ?_ | refine w_retL ?_ | refine w_condT (by simp (disch := omega) only [go_sem, chl_at, RO_at, List.getElem?_cons_succ, List.getElem?_range, rng_set, RO_set]; with_reducible rfl) (by with_reducible rfl) ?_ | refine w_condF (by simp (disch := omega) only [go_sem, chl_at, RO_at, List.getElem?_cons_succ, List.getElem?_range, rng_set, RO_set]; with_reducible rfl) (by with_reducible rfl) ?_ | fail))
        refine w_skipL ⟨m - 1, by omega, j + 1, _, _, by omega, fun t ht s hs => ?_, rfl⟩
        by_cases q1 : t = i
        · subst q1
          by_cases q2 : s = j
          · subst q2
            simp
          · rw [if_pos rfl, if_neg q2, h2 _ ht _ hs]
            by_cases q3 : s < j
            · rw [if_pos ⟨rfl, q3⟩, if_pos ⟨rfl, by omega⟩]
            · rw [if_neg (by omega), if_neg (by omega)]
        · rw [if_neg q1, h2 _ ht _ hs, if_neg (fun h => q1 h.1), if_neg (fun h => q1 h.1)]
    · obtain rfl : j = n := by omega
      rcases hX with rfl | ⟨gx, rfl⟩
      all_goals
        (repeat (first | refine w_seq ?_ | refine w_block ?_ | refine w_regS (by simp (disch := omega) only [go_sem]; with_reducible rfl) ?_ | refine w_reg (by simp (disch := omega) only [go_sem]; with_reducible rfl) ?_ | refine w_skipS ?_ | refine w_skipB ?_ | refine w_exitS ?_ | refine w_exitB ?_ | refine w_exitN rfl ?_ | refine w_exitL ?_ | refine w_retS ?_ | refine w_retB ?_ | refine w_retL ?_ | refine w_condT (by simp (disch := omega) only [go_sem]; with_reducible rfl) (by with_reducible rfl) ?_ | refine w_condF (by simp (disch := omega) only [go_sem]; with_reducible rfl) (by with_reducible rfl) ?_ | fail))
        exact hQ ρ _ fun t ht s hs => by
          rw [h2 t ht s hs]
          by_cases q1 : t = i
          · rw [if_pos ⟨q1, hs⟩, if_pos q1]
          · rw [if_neg (fun h => q1 h.1), if_neg q1]
end Go.Proofs.Ytbdknlejnacmgaa.Pi.W
end

section
/-
  LinRules on our machine.
-/
namespace Go.Proofs.Ytbdknlejnacmgaa.Pi.W
open Go Num
set_option linter.unusedVariables false
set_option linter.unusedSimpArgs false
set_option maxRecDepth 100000

section
attribute [local irreducible] B_law07_LinRules_1 B_law07_LinRules_3
theorem rules_rest (n : Nat) (φ : Nat → Nat → Int) (times : Int) (i k gd g : Nat) (hn : n ≤ 7) (hi : i < n) (hk : k < n) (hik : i ≠ k) (hs : ∀ i, i < n → ∀ j, j < n → sz (φ i j) ≤ 2) (ht : I64 times) :
    Wp tab T_law07_LinRules_6 ⟨[(2, .int .i64 (i : Nat)), (3, .int .i64 (k : Nat)), (4, .int .i64 times), (11, .bool true), (12, Mx n n φ), (18, .optr ⟨19, gd, 0⟩ 0 0), (19, .int .i64 0), (20, .int .i64 0), (92, .bool false)], [⟨19, gd, false, [⟨[zc (det n φ)], true⟩]⟩], [], g⟩ (kF [.tmp 10] false none ⟨[.bool true], [], none⟩) := by
  have hsd := sz_det n 2 φ (by omega) (by omega) (by omega) hs
  (repeat (first | refine w_seq ?_ | refine w_block ?_ | refine w_regS (by simp (disch := omega) only [go_sem]; with_reducible rfl) ?_ | refine w_reg (by simp (disch := omega) only [go_sem]; with_reducible rfl) ?_ | refine w_skipS ?_ | refine w_skipB ?_ | refine w_exitS ?_ | refine w_exitB ?_ | refine w_exitN rfl ?_ | refine w_exitL ?_ | refine w_retS ?_ | refine w_retB ?_ | refine w_retL ?_ | refine w_condT (by simp (disch := omega) only [go_sem]; with_reducible rfl) (by with_reducible rfl) ?_ | refine w_condF (by simp (disch := omega) only [go_sem]; with_reducible rfl) (by with_reducible rfl) ?_ | fail))
  refine rules_1 n φ (det n φ) i k times gd _ _ _ _ hn fun g1 g2 X g' hX => ?_
  (repeat (first | refine w_seq ?_ | refine w_block ?_ | refine w_regS (by simp (disch := omega) only [go_sem]; with_reducible rfl) ?_ | refine w_reg (by simp (disch := omega) only [go_sem]; with_reducible rfl) ?_ | refine w_skipS ?_ | refine w_skipB ?_ | refine w_exitS ?_ | refine w_exitB ?_ | refine w_exitN rfl ?_ | refine w_exitL ?_ | refine w_retS ?_ | refine w_retB ?_ | refine w_retL ?_ | refine w_condT (by simp (disch := omega) only [go_sem]; with_reducible rfl) (by with_reducible rfl) ?_ | refine w_condF (by simp (disch := omega) only [go_sem]; with_reducible rfl) (by with_reducible rfl) ?_ | fail))
  have e0 : hk1 (lfind X 115) [] [] = X := by rcases hX with rfl | ⟨gx, rfl⟩ <;> rfl
  rw [e0]
  refine rules_3 n φ (det n φ) times i k gd g1 g2 _ false X _ hn hi hk hX hs ht fun ρ g3 hρ => ?_
  have er : det n ρ = det n φ := by
    rw [← det_radd φ times hi hk hik]
    refine det_congr fun t ht s hs => ?_
    rw [hρ t ht s hs]; unfold radd
    split
    · rw [Int.mul_comm]
    · rfl
  have es : det n (fun t => if t = k then φ i else if t = i then φ k else φ t) = -det n φ := by
    rw [← det_swapM φ hi hk hik]
    refine det_congr fun t ht s hs => ?_
    unfold swapM
    by_cases q1 : t = k
    · subst q1; rw [if_pos rfl, if_neg (fun h => hik h.symm), if_pos rfl]
    · rw [if_neg q1]
      by_cases q2 : t = i
      · rw [if_pos q2, if_pos q2]
      · rw [if_neg q2, if_neg q2, if_neg q1]
  have d1 := det_lim n 8 ρ (by omega) (by omega) (by omega) fun t ht' s hs' => by
    have a1 := hs i hi s hs'
    have a2 := hs k hk s hs'
    have a3 := sz_I64 ht
    have a4 := sz_mul (φ k s) times
    have a5 := sz_add (φ i s) (φ k s * times)
    have a6 := hs t ht' s hs'
    rw [hρ t ht' s hs']
    split <;> omega
  have d2 := det_lim n 2 (fun t => if t = k then φ i else if t = i then φ k else φ t) (by omega) (by omega) (by omega) fun t ht s hs' => by
    by_cases q1 : t = k
    · simp only [if_pos q1]; exact hs i hi s hs'
    · by_cases q2 : t = i
      · simp only [if_neg q1, if_pos q2]; exact hs k hk s hs'
      · simp only [if_neg q1, if_neg q2]; exact hs t ht s hs'
  rw [er] at d1
  rw [es] at d2
  have hsn : sz (-det n φ) ≤ 20000 := by rw [sz_neg]; omega
  generalize det n φ = dt at *
  have e7 : ∀ X', fzll (fz0 (⟨19, gd, false, [⟨[zc dt], true⟩]⟩ :: ⟨22, g1, false, ⟨chl 22 g1 n n fun t => t, false⟩ :: RO n n ρ⟩ :: ⟨23, g2, false, [⟨VO n n (fun t => if t = k then φ i else if t = i then φ k else φ t), true⟩]⟩ :: X')) (chl 22 g1 n n fun t => t) = some (VO n n ρ, List.replicate n (22, g1)) :=
    fun X' => fzll_z 22 g1 n n rfl ρ _ false ⟨chl 22 g1 n n fun t => t, false⟩ (by simp [efind]) n (Nat.le_refl _)
  rcases hX with rfl | ⟨gx, rfl⟩
  all_goals
    (repeat (first | refine w_seq ?_ | refine w_block ?_ | refine w_regS (by simp (disch := omega) only [go_sem, VO_at, VO_set, VO_len, VO_take, VO_view, chl_len, chl_take, e7, all_tt, zin_rep, d1, d2, Int.sub_self, Int.sign_zero]; with_reducible rfl) ?_ | refine w_reg (by simp (disch := omega) only [go_sem, VO_at, VO_set, VO_len, VO_take, VO_view, chl_len, chl_take, e7, all_tt, zin_rep, d1, d2, Int.sub_self, Int.sign_zero]; with_reducible rfl) ?_ | refine w_skipS ?_ | refine w_skipB ?_ | refine w_exitS ?_ | refine w_exitB ?_ | refine w_exitN rfl ?_ | refine w_exitL ?_ | refine w_retS ?_ | refine w_retB ?_ | refine w_retL ?_ | refine w_condT (by simp (disch := omega) only [go_sem, VO_at, VO_set, VO_len, VO_take, VO_view, chl_len, chl_take, e7, all_tt, zin_rep, d1, d2, Int.sub_self, Int.sign_zero]; with_reducible rfl) (by with_reducible rfl) ?_ | refine w_condF (by simp (disch := omega) only [go_sem, VO_at, VO_set, VO_len, VO_take, VO_view, chl_len, chl_take, e7, all_tt, zin_rep, d1, d2, Int.sub_self, Int.sign_zero]; with_reducible rfl) (by with_reducible rfl) ?_ | fail))
    (first | refine w_fini ?_ | refine w_finiN ?_); simp (disch := omega) only [go_sem]
end

section
attribute [local irreducible] T_law07_LinRules_6
theorem linRules_lim (hA : lim tab F_law07_awake [] none = some ⟨[.bool true], [], none⟩) (zss yss : List (List Int)) (i k times : Int) (hl : zss.length ≤ 9223372036854775807) (hls : ∀ zs ∈ zss, zs.length ≤ 9223372036854775807) (hz : ∀ zs ∈ zss, ∀ z ∈ zs, I64 z)
    (hl' : yss.length ≤ 9223372036854775807) (hls' : ∀ zs ∈ yss, zs.length ≤ 9223372036854775807) (hz' : ∀ zs ∈ yss, ∀ z ∈ zs, I64 z) (hi : I64 i) (hk : I64 k) (ht : I64 times) :
    lim tab F_law07_LinRules [IR zss, IR yss, .int .i64 i, .int .i64 k, .int .i64 times] none = some ⟨[.bool true], [], none⟩ := by
  refine runs_w rfl rfl ?_
  by_cases hsq : Sq zss 7
  · have hr := read_yes zss 7 (by omega) hz hsq
    rw [show ((7 : Nat) : Int) = 7 from rfl] at hr
    have hn := hsq.1
    by_cases hsq' : Sq yss 7
    · have hr' := read_yes yss 7 (by omega) hz' hsq'
      rw [show ((7 : Nat) : Int) = 7 from rfl] at hr'
      have hn' := hsq'.1
      by_cases hnn : zss.length = yss.length
      · rw [← hnn] at hr' hn'
        generalize zss.length = n at *
        have ha : ∀ i, i < n → ∀ j, j < n → sz (ent zss i j) ≤ 2 := fun i _ j _ => sz_I64 (ent_I64 hz i j)
        have hb : ∀ i, i < n → ∀ j, j < n → sz (ent yss i j) ≤ 2 := fun i _ j _ => sz_I64 (ent_I64 hz' i j)
        generalize ent zss = φ at *
        generalize ent yss = ψ at *
        have d1 := det_lim n 2 φ (by omega) (by omega) (by omega) ha
        have d2 := det_lim n 2 ψ (by omega) (by omega) (by omega) hb
        have d3 := det_lim n 2 (fun i j => φ j i) (by omega) (by omega) (by omega) fun i hi j hj => ha j hj i hi
        have m1 := mulmat_lim n φ ψ 2 2 (by omega) (by omega) (by omega) (fun i k hi hk => ha i hi k hk) fun i k hi hk => hb i hi k hk
        have hmm : ∀ i, i < n → ∀ j, j < n → sz (mm n φ ψ i j) ≤ 20 := fun i hi j hj => by
          have q1 : sz (mm n φ ψ i j) ≤ 4 + n := sz_sumN (f := fun k => φ i k * ψ k j) fun k hk => by
            have q2 := sz_mul (φ i k) (ψ k j)
            have q3 := ha i hi k hk
            have q4 := hb k hk j hj
            omega
          omega
        have d4 := det_lim n 20 (mm n φ ψ) (by omega) (by omega) (by omega) hmm
        have t1 := turnedmat_lim n φ (by omega)
        rw [det_mm] at d4
        rw [show det n (fun i j => φ j i) = det n φ from det_tr n φ] at d3
        have s1 := sz_det n 2 φ (by omega) (by omega) (by omega) ha
        have s2 := sz_det n 2 ψ (by omega) (by omega) (by omega) hb
        have s3 := sz_mul (det n φ) (det n ψ)
        have i1 := hi.1
        have i2 := hi.2
        have k1 := hk.1
        have k2 := hk.2
        by_cases c1 : i < 0
        · generalize det n φ = dt at *
          generalize det n ψ = du at *
          (repeat (first | refine w_seq ?_ | refine w_block ?_ | refine w_regS (by simp (disch := omega) only [go_sem, hA, hr, hr', d1, d2, d3, d4, m1, t1, Int.sub_self, Int.sign_zero]; with_reducible rfl) ?_ | refine w_reg (by simp (disch := omega) only [go_sem, hA, hr, hr', d1, d2, d3, d4, m1, t1, Int.sub_self, Int.sign_zero]; with_reducible rfl) ?_ | refine w_skipS ?_ | refine w_skipB ?_ | refine w_exitS ?_ | refine w_exitB ?_ | refine w_exitN rfl ?_ | refine w_exitL ?_ | refine w_retS ?_ | refine w_retB ?_ | refine w_retL ?_ | refine w_condT (by simp (disch := omega) only [go_sem, hA, hr, hr', d1, d2, d3, d4, m1, t1, Int.sub_self, Int.sign_zero]; with_reducible rfl) (by with_reducible rfl) ?_ | refine w_condF (by simp (disch := omega) only [go_sem, hA, hr, hr', d1, d2, d3, d4, m1, t1, Int.sub_self, Int.sign_zero]; with_reducible rfl) (by with_reducible rfl) ?_ | fail))
          (first | refine w_fini ?_ | refine w_finiN ?_); simp (disch := omega) only [go_sem]
        · by_cases c2 : k < 0
          · generalize det n φ = dt at *
            generalize det n ψ = du at *
            (repeat (first | refine w_seq ?_ | refine w_block ?_ | refine w_regS (by simp (disch := omega) only [go_sem, hA, hr, hr', d1, d2, d3, d4, m1, t1, Int.sub_self, Int.sign_zero]; with_reducible rfl) ?_ | refine w_reg (by simp (disch := omega) only [go_sem, hA, hr, hr', d1, d2, d3, d4, m1, t1, Int.sub_self, Int.sign_zero]; with_reducible rfl) ?_ | refine w_skipS ?_ | refine w_skipB ?_ | refine w_exitS ?_ | refine w_exitB ?_ | refine w_exitN rfl ?_ | refine w_exitL ?_ | refine w_retS ?_ | refine w_retB ?_ | refine w_retL ?_ | refine w_condT (by simp (disch := omega) only [go_sem, hA, hr, hr', d1, d2, d3, d4, m1, t1, Int.sub_self, Int.sign_zero]; with_reducible rfl) (by with_reducible rfl) ?_ | refine w_condF (by simp (disch := omega) only [go_sem, hA, hr, hr', d1, d2, d3, d4, m1, t1, Int.sub_self, Int.sign_zero]; with_reducible rfl) (by with_reducible rfl) ?_ | fail))
            (first | refine w_fini ?_ | refine w_finiN ?_); simp (disch := omega) only [go_sem]
          · obtain ⟨a, rfl⟩ := Int.eq_ofNat_of_zero_le (by omega : 0 ≤ i)
            obtain ⟨b, rfl⟩ := Int.eq_ofNat_of_zero_le (by omega : 0 ≤ k)
            by_cases c3 : n ≤ a
            · generalize det n φ = dt at *
              generalize det n ψ = du at *
              (repeat (first | refine w_seq ?_ | refine w_block ?_ | refine w_regS (by simp (disch := omega) only [go_sem, hA, hr, hr', d1, d2, d3, d4, m1, t1, Int.sub_self, Int.sign_zero]; with_reducible rfl) ?_ | refine w_reg (by simp (disch := omega) only [go_sem, hA, hr, hr', d1, d2, d3, d4, m1, t1, Int.sub_self, Int.sign_zero]; with_reducible rfl) ?_ | refine w_skipS ?_ | refine w_skipB ?_ | refine w_exitS ?_ | refine w_exitB ?_ | refine w_exitN rfl ?_ | refine w_exitL ?_ | refine w_retS ?_ | refine w_retB ?_ | refine w_retL ?_ | refine w_condT (by simp (disch := omega) only [go_sem, hA, hr, hr', d1, d2, d3, d4, m1, t1, Int.sub_self, Int.sign_zero]; with_reducible rfl) (by with_reducible rfl) ?_ | refine w_condF (by simp (disch := omega) only [go_sem, hA, hr, hr', d1, d2, d3, d4, m1, t1, Int.sub_self, Int.sign_zero]; with_reducible rfl) (by with_reducible rfl) ?_ | fail))
              (first | refine w_fini ?_ | refine w_finiN ?_); simp (disch := omega) only [go_sem]
            · by_cases c4 : n ≤ b
              · generalize det n φ = dt at *
                generalize det n ψ = du at *
                (repeat (first | refine w_seq ?_ | refine w_block ?_ | refine w_regS (by simp (disch := omega) only [go_sem, hA, hr, hr', d1, d2, d3, d4, m1, t1, Int.sub_self, Int.sign_zero]; with_reducible rfl) ?_ | refine w_reg (by simp (disch := omega) only [go_sem, hA, hr, hr', d1, d2, d3, d4, m1, t1, Int.sub_self, Int.sign_zero]; with_reducible rfl) ?_ | refine w_skipS ?_ | refine w_skipB ?_ | refine w_exitS ?_ | refine w_exitB ?_ | refine w_exitN rfl ?_ | refine w_exitL ?_ | refine w_retS ?_ | refine w_retB ?_ | refine w_retL ?_ | refine w_condT (by simp (disch := omega) only [go_sem, hA, hr, hr', d1, d2, d3, d4, m1, t1, Int.sub_self, Int.sign_zero]; with_reducible rfl) (by with_reducible rfl) ?_ | refine w_condF (by simp (disch := omega) only [go_sem, hA, hr, hr', d1, d2, d3, d4, m1, t1, Int.sub_self, Int.sign_zero]; with_reducible rfl) (by with_reducible rfl) ?_ | fail))
                (first | refine w_fini ?_ | refine w_finiN ?_); simp (disch := omega) only [go_sem]
              · by_cases c5 : a = b
                · generalize det n φ = dt at *
                  generalize det n ψ = du at *
                  (repeat (first | refine w_seq ?_ | refine w_block ?_ | refine w_regS (by simp (disch := omega) only [go_sem, hA, hr, hr', d1, d2, d3, d4, m1, t1, Int.sub_self, Int.sign_zero]; with_reducible rfl) ?_ | refine w_reg (by simp (disch := omega) only [go_sem, hA, hr, hr', d1, d2, d3, d4, m1, t1, Int.sub_self, Int.sign_zero]; with_reducible rfl) ?_ | refine w_skipS ?_ | refine w_skipB ?_ | refine w_exitS ?_ | refine w_exitB ?_ | refine w_exitN rfl ?_ | refine w_exitL ?_ | refine w_retS ?_ | refine w_retB ?_ | refine w_retL ?_ | refine w_condT (by simp (disch := omega) only [go_sem, hA, hr, hr', d1, d2, d3, d4, m1, t1, Int.sub_self, Int.sign_zero]; with_reducible rfl) (by with_reducible rfl) ?_ | refine w_condF (by simp (disch := omega) only [go_sem, hA, hr, hr', d1, d2, d3, d4, m1, t1, Int.sub_self, Int.sign_zero]; with_reducible rfl) (by with_reducible rfl) ?_ | fail))
                  (first | refine w_fini ?_ | refine w_finiN ?_); simp (disch := omega) only [go_sem]
                · have rest := fun gd g => rules_rest n φ times a b gd g hn (by omega) (by omega) c5 ha ht
                  generalize det n φ = dt at *
                  generalize det n ψ = du at *
                  (repeat (first | refine w_seq ?_ | refine w_block ?_ | refine w_regS (by simp (disch := omega) only [go_sem, hA, hr, hr', d1, d2, d3, d4, m1, t1, Int.sub_self, Int.sign_zero]; with_reducible rfl) ?_ | refine w_reg (by simp (disch := omega) only [go_sem, hA, hr, hr', d1, d2, d3, d4, m1, t1, Int.sub_self, Int.sign_zero]; with_reducible rfl) ?_ | refine w_skipS ?_ | refine w_skipB ?_ | refine w_exitS ?_ | refine w_exitB ?_ | refine w_exitN rfl ?_ | refine w_exitL ?_ | refine w_retS ?_ | refine w_retB ?_ | refine w_retL ?_ | refine w_condT (by simp (disch := omega) only [go_sem, hA, hr, hr', d1, d2, d3, d4, m1, t1, Int.sub_self, Int.sign_zero]; with_reducible rfl) (by with_reducible rfl) ?_ | refine w_condF (by simp (disch := omega) only [go_sem, hA, hr, hr', d1, d2, d3, d4, m1, t1, Int.sub_self, Int.sign_zero]; with_reducible rfl) (by with_reducible rfl) ?_ | fail))
                  exact rest _ _
      · have hnn' : ((zss.length : Nat) : Int) ≠ ((yss.length : Nat) : Int) := by omega
        (repeat (first | refine w_seq ?_ | refine w_block ?_ | refine w_regS (by simp (disch := omega) only [go_sem, hA, hr, hr']; with_reducible rfl) ?_ | refine w_reg (by simp (disch := omega) only [go_sem, hA, hr, hr']; with_reducible rfl) ?_ | refine w_skipS ?_ | refine w_skipB ?_ | refine w_exitS ?_ | refine w_exitB ?_ | refine w_exitN rfl ?_ | refine w_exitL ?_ | refine w_retS ?_ | refine w_retB ?_ | refine w_retL ?_ | refine w_condT (by simp (disch := omega) only [go_sem, hA, hr, hr']; with_reducible rfl) (by with_reducible rfl) ?_ | refine w_condF (by simp (disch := omega) only [go_sem, hA, hr, hr']; with_reducible rfl) (by with_reducible rfl) ?_ | fail))
        (first | refine w_fini ?_ | refine w_finiN ?_); simp (disch := omega) only [go_sem]
    · have hr' := read_no yss 7 (by omega) hl' hls' hsq'
      rw [show ((7 : Nat) : Int) = 7 from rfl] at hr'
      (repeat (first | refine w_seq ?_ | refine w_block ?_ | refine w_regS (by simp (disch := omega) only [go_sem, hA, hr, hr']; with_reducible rfl) ?_ | refine w_reg (by simp (disch := omega) only [go_sem, hA, hr, hr']; with_reducible rfl) ?_ | refine w_skipS ?_ | refine w_skipB ?_ | refine w_exitS ?_ | refine w_exitB ?_ | refine w_exitN rfl ?_ | refine w_exitL ?_ | refine w_retS ?_ | refine w_retB ?_ | refine w_retL ?_ | refine w_condT (by simp (disch := omega) only [go_sem, hA, hr, hr']; with_reducible rfl) (by with_reducible rfl) ?_ | refine w_condF (by simp (disch := omega) only [go_sem, hA, hr, hr']; with_reducible rfl) (by with_reducible rfl) ?_ | fail))
      (first | refine w_fini ?_ | refine w_finiN ?_); simp (disch := omega) only [go_sem]
  · have hr := read_no zss 7 (by omega) hl hls hsq
    rw [show ((7 : Nat) : Int) = 7 from rfl] at hr
    by_cases hsq' : Sq yss 7
    · have hr' := read_yes yss 7 (by omega) hz' hsq'
      rw [show ((7 : Nat) : Int) = 7 from rfl] at hr'
      (repeat (first | refine w_seq ?_ | refine w_block ?_ | refine w_regS (by simp (disch := omega) only [go_sem, hA, hr, hr']; with_reducible rfl) ?_ | refine w_reg (by simp (disch := omega) only [go_sem, hA, hr, hr']; with_reducible rfl) ?_ | refine w_skipS ?_ | refine w_skipB ?_ | refine w_exitS ?_ | refine w_exitB ?_ | refine w_exitN rfl ?_ | refine w_exitL ?_ | refine w_retS ?_ | refine w_retB ?_ | refine w_retL ?_ | refine w_condT (by simp (disch := omega) only [go_sem, hA, hr, hr']; with_reducible rfl) (by with_reducible rfl) ?_ | refine w_condF (by simp (disch := omega) only [go_sem, hA, hr, hr']; with_reducible rfl) (by with_reducible rfl) ?_ | fail))
      (first | refine w_fini ?_ | refine w_finiN ?_); simp (disch := omega) only [go_sem]
    · have hr' := read_no yss 7 (by omega) hl' hls' hsq'
      rw [show ((7 : Nat) : Int) = 7 from rfl] at hr'
      (repeat (first | refine w_seq ?_ | refine w_block ?_ | refine w_regS (by simp (disch := omega) only [go_sem, hA, hr, hr']; with_reducible rfl) ?_ | refine w_reg (by simp (disch := omega) only [go_sem, hA, hr, hr']; with_reducible rfl) ?_ | refine w_skipS ?_ | refine w_skipB ?_ | refine w_exitS ?_ | refine w_exitB ?_ | refine w_exitN rfl ?_ | refine w_exitL ?_ | refine w_retS ?_ | refine w_retB ?_ | refine w_retL ?_ | refine w_condT (by simp (disch := omega) only [go_sem, hA, hr, hr']; with_reducible rfl) (by with_reducible rfl) ?_ | refine w_condF (by simp (disch := omega) only [go_sem, hA, hr, hr']; with_reducible rfl) (by with_reducible rfl) ?_ | fail))
      (first | refine w_fini ?_ | refine w_finiN ?_); simp (disch := omega) only [go_sem]
end
end Go.Proofs.Ytbdknlejnacmgaa.Pi.W
end
