import Derived.Test.YtbdknlejnacmgaaL
import Derived.Test.YtbdknlejnacmgaaNum

section
/-
  Package lin on our machine: rows and matrices as the machine holds them; list, made.
-/
namespace Go.Proofs.Ytbdknlejnacmgaa.Pi.W
open Go Num
set_option linter.unusedVariables false
set_option linter.unusedSimpArgs false
set_option maxRecDepth 100000

/-! ### Rows -/
theorem set_zc (l : List Int) (i : Nat) (v : Int) : (l.map zc).set i (zc v) = (l.set i v).map zc := List.map_set.symm
theorem zc_0 : [PV.bool false, PV.nil0] = zc 0 := by unfold zc; rw [show ql (Int.natAbs 0) = [] from ql_nil.2 rfl]; rfl
theorem rep_zc (n : Nat) (x : Int) : List.replicate n (zc x) = (List.replicate n x).map zc := by rw [List.map_replicate]
theorem fits_zc (l : List Int) : fits 2 (l.map zc) = true := fits_map _ _ _ fun _ => rfl
theorem pure_zc (l : List Int) : ((l.map zc).all fun x => x.all pu0) = true := pure_map _ _ zc_pu0
theorem flat_zc (l : List Int) : ((l.map zc).all fun x => x.all flat) = true := flat_map _ _ zc_flat
def Rw (n : Nat) (f : Nat → Int) : PV := sl zc false ((List.range n).map f)
theorem Rw_fold (n : Nat) (f : Nat → Int) : sl zc false ((List.range n).map f) = Rw n f := nrfl rfl
theorem Rw_congr {n : Nat} {f g : Nat → Int} (h : ∀ k, k < n → f k = g k) : Rw n f = Rw n g := by
  unfold Rw; congr 1; exact List.map_congr_left fun k hk => h k (by simpa using hk)
theorem lnv_Rw (n : Nat) (f : Nat → Int) : lnv false (Rw n f) = some n := by unfold Rw; rw [lnv_sl]; simp
theorem rng_at (n : Nat) (f : Nat → Int) {k : Nat} (h : k < n) : ((List.range n).map f)[k]? = some (f k) := by
  rw [List.getElem?_map, List.getElem?_range h]; rfl
theorem ixv_Rw (n : Nat) (f : Nat → Int) (k : Nat) : ixv 2 (Rw n f) k = req (decide (k < n)) (some (.vptr (zc (f k)))) := by
  unfold Rw; rw [ixv_sl]
  by_cases h : k < n
  · rw [rng_at n f h, decide_eq_true h]; rfl
  · rw [List.getElem?_eq_none (by simpa using h), decide_eq_false h]; rfl
theorem fzv_Rw (h : List Ent) (n : Nat) (f : Nat → Int) : fzv h (Rw n f) = some (Rw n f, []) := fzv_sl _ _ _ _
theorem fz2_Rw (h : List Ent) (n : Nat) (f : Nat → Int) : fz2 h (Rw n f) = some (Rw n f, []) := fz2_sl _ _ _ _
theorem fz1_Rw (h : List Ent) (n : Nat) (f : Nat → Int) : fz1 h (Rw n f) = some (Rw n f, []) := fz1_sl _ _ _ _
theorem flat_Rw (n : Nat) (f : Nat → Int) : flat (Rw n f) = true := flat_sl _ _ _
theorem pu0_Rw (n : Nat) (f : Nat → Int) : pu0 (Rw n f) = true := pu0_sl _ _ _
theorem pu00_Rw (n : Nat) (f : Nat → Int) : pu00 (Rw n f) = true := pu00_sl _ _ _
theorem cellsOf_Rw (n : Nat) (f : Nat → Int) : cellsOf (Rw n f) = [Rw n f] := cellsOf_sl _ _ _
theorem evSR_Rw (wl : Option Nat) (av : List Nat) (h : List Ent) (z : List (Nat × Nat)) (g : Nat) (nm : Nm) (i c n : Nat) (f : Nat → Int) : evSR wl av h z g (.optr nm i c) (Rw n f) = thn (evSt wl av h z 1 (.optr nm i c) (Rw n f)) fun e => some ⟨.any, [e], []⟩ := evSR_view _ _ _ _ _ _ _ _ _ (pu0_Rw n f)
theorem take_rng {α : Type} (n : Nat) (f : Nat → α) : List.take n ((List.range n).map f) = (List.range n).map f := List.take_of_length_le (by simp)

/-! ### Matrices -/
def c1 (v : PV) : List PV := [v]
def Mx (r c : Nat) (φ : Nat → Nat → Int) : PV := .view (((List.range r).map fun i => Rw c (φ i)).map c1)
theorem Mx_sl (r c : Nat) (φ : Nat → Nat → Int) : Mx r c φ = sl c1 false ((List.range r).map fun i => Rw c (φ i)) := nrfl rfl
theorem Mx_fold (r c : Nat) (φ : Nat → Nat → Int) : sl c1 false ((List.range r).map fun i => Rw c (φ i)) = Mx r c φ := nrfl rfl
theorem Mx_congr {r c : Nat} {φ ψ : Nat → Nat → Int} (h : ∀ i, i < r → ∀ j, j < c → φ i j = ψ i j) : Mx r c φ = Mx r c ψ := by
  unfold Mx; congr 2; exact List.map_congr_left fun k hk => Rw_congr (h k (by simpa using hk))
theorem lnv_Mx (r c : Nat) (φ : Nat → Nat → Int) : lnv false (Mx r c φ) = some r := by rw [Mx_sl, lnv_sl]; simp
theorem ixv_Mx (r c : Nat) (φ : Nat → Nat → Int) (k : Nat) : ixv 1 (Mx r c φ) k = req (decide (k < r)) (some (.vptr [Rw c (φ k)])) := by
  rw [Mx_sl, ixv_sl]
  by_cases h : k < r
  · rw [List.getElem?_map, List.getElem?_range h, decide_eq_true h]; rfl
  · rw [List.getElem?_eq_none (by simpa using h), decide_eq_false h]; rfl
theorem fzv_Mx (h : List Ent) (r c : Nat) (φ : Nat → Nat → Int) : fzv h (Mx r c φ) = some (Mx r c φ, []) := nrfl rfl
theorem fz2_Mx (h : List Ent) (r c : Nat) (φ : Nat → Nat → Int) : fz2 h (Mx r c φ) = some (Mx r c φ, []) := nrfl rfl
theorem fz1_Mx (h : List Ent) (r c : Nat) (φ : Nat → Nat → Int) : fz1 h (Mx r c φ) = some (Mx r c φ, []) := nrfl rfl
theorem flat_Mx (r c : Nat) (φ : Nat → Nat → Int) : flat (Mx r c φ) = true := nrfl rfl
theorem pu0_Mx (r c : Nat) (φ : Nat → Nat → Int) : pu0 (Mx r c φ) = true := nrfl rfl
theorem pu00_Mx (r c : Nat) (φ : Nat → Nat → Int) : pu00 (Mx r c φ) = true := nrfl rfl
theorem cellsOf_Mx (r c : Nat) (φ : Nat → Nat → Int) : cellsOf (Mx r c φ) = [Mx r c φ] := nrfl rfl
theorem len_c1 (v : PV) : (c1 v).length = 1 := nrfl rfl
theorem setAt_c1 (v w : PV) : setAt (c1 v) 0 [w] = [w] := nrfl rfl
theorem set_c1 (l : List PV) (i : Nat) (v : PV) : (l.map c1).set i [v] = (l.set i v).map c1 := List.map_set.symm
theorem rep_c1 (n : Nat) (v : PV) : List.replicate n [v] = (List.replicate n v).map c1 := by rw [List.map_replicate]; rfl
theorem pk_c1 (v : PV) : pk 1 false (List.take 1 (c1 v)) = some v := nrfl rfl

attribute [go_sem] zc_0 List.length_range set_zc rep_zc fits_zc pure_zc flat_zc Rw_fold lnv_Rw ixv_Rw fzv_Rw fz2_Rw fz1_Rw flat_Rw pu0_Rw pu00_Rw cellsOf_Rw evSR_Rw take_rng Mx_fold lnv_Mx ixv_Mx fzv_Mx fz2_Mx fz1_Mx flat_Mx pu0_Mx pu00_Mx cellsOf_Mx len_c1 setAt_c1 set_c1 pk_c1

/-! ### list -/
theorem list_lim (k : Nat) (cap : List PV) (φ : Nat → Int) (n : Nat) (hcap : ∀ h, fzl (fzv h) cap = some (cap, [])) (hc0 : cap.all pu00 = true) (hn : n ≤ 1048576)
    (hf : ∀ i, i < n → lim tab k (.int .i64 (i : Int) :: cap) none = some ⟨[Z (φ i)], [], none⟩) :
    lim tab F_lin_list_long_Int [.int .i64 (n : Int), .fn k cap] none = some ⟨[.own ⟨1, 0, 0⟩ 2 0 n], [⟨((List.range n).map φ).map zc, true⟩], none⟩ := by
  refine runs_w rfl rfl ?_
  (repeat (first | refine w_seq ?_ | refine w_block ?_ | refine w_regS (by simp (disch := omega) only [go_sem]; with_reducible rfl) ?_ | refine w_reg (by simp (disch := omega) only [go_sem]; with_reducible rfl) ?_ | refine w_skipS ?_ | refine w_skipB ?_ | refine w_exitS ?_ | refine w_exitB ?_ | refine w_exitN rfl ?_ | refine w_exitL ?_ | refine w_retS ?_ | refine w_retB ?_ | refine w_retL ?_ | refine w_condT (by simp (disch := omega) only [go_sem]; with_reducible rfl) (by with_reducible rfl) ?_ | refine w_condF (by simp (disch := omega) only [go_sem]; with_reducible rfl) (by with_reducible rfl) ?_ | fail))
  refine w_loop (fun m s => ∃ i g', i + m = n ∧ s = ⟨[(1, .fn k cap), (5, .own ⟨9, 2, 0⟩ 2 0 n), (10, .int .i64 (n : Nat)), (11, .int .i64 (i : Nat))], [⟨9, 2, false, [⟨((List.range i).map φ ++ List.replicate m 0).map zc, true⟩]⟩], [], g'⟩) n ?_ ?_
  · exact ⟨0, _, by omega, rfl⟩
  · rintro m s ⟨i, g', h1, rfl⟩
    cases m with
    | zero =>
      obtain rfl : i = n := by omega
      (repeat (first | refine w_seq ?_ | refine w_block ?_ | refine w_regS (by simp (disch := omega) only [go_sem, List.replicate_zero, List.append_nil]; with_reducible rfl) ?_ | refine w_reg (by simp (disch := omega) only [go_sem, List.replicate_zero, List.append_nil]; with_reducible rfl) ?_ | refine w_skipS ?_ | refine w_skipB ?_ | refine w_exitS ?_ | refine w_exitB ?_ | refine w_exitN rfl ?_ | refine w_exitL ?_ | refine w_retS ?_ | refine w_retB ?_ | refine w_retL ?_ | refine w_condT (by simp (disch := omega) only [go_sem, List.replicate_zero, List.append_nil]; with_reducible rfl) (by with_reducible rfl) ?_ | refine w_condF (by simp (disch := omega) only [go_sem, List.replicate_zero, List.append_nil]; with_reducible rfl) (by with_reducible rfl) ?_ | fail))
      (first | refine w_fini ?_ | refine w_finiN ?_); simp (disch := omega) only [go_sem, List.replicate_zero, List.append_nil, List.length_range]
    | succ m =>
      have hi := hf i (by omega)
      have hl : i = ((List.range i).map φ).length := by simp
      have e1 : ((List.range i).map φ ++ 0 :: List.replicate m 0)[i]? = some 0 := at_done _ _ _ _ hl
      have e2 : ((List.range i).map φ ++ 0 :: List.replicate m 0).set i (φ i) = (List.range (i + 1)).map φ ++ List.replicate m 0 := by
        rw [set_done _ _ _ _ _ hl, List.range_succ, List.map_append, List.append_assoc]; rfl
      rw [List.replicate_succ]
      (repeat (first | refine w_seq ?_ | refine w_block ?_ | refine w_regS (by simp (disch := omega) only [go_sem, hcap, hi, e1, e2]; with_reducible rfl) ?_ | refine w_reg (by simp (disch := omega) only [go_sem, hcap, hi, e1, e2]; with_reducible rfl) ?_ | refine w_skipS ?_ | refine w_skipB ?_ | refine w_exitS ?_ | refine w_exitB ?_ | refine w_exitN rfl ?_ | refine w_exitL ?_ | refine w_retS ?_ | refine w_retB ?_ | refine w_retL ?_ | refine w_condT (by simp (disch := omega) only [go_sem, hcap, hi, e1, e2]; with_reducible rfl) (by with_reducible rfl) ?_ | refine w_condF (by simp (disch := omega) only [go_sem, hcap, hi, e1, e2]; with_reducible rfl) (by with_reducible rfl) ?_ | fail))
      refine w_skipL ⟨m, by omega, i + 1, ?_, by omega, ?_⟩
      rotate_left
      · rw [List.range_succ]

theorem rep_nil (n : Nat) : List.replicate n [PV.nil0] = (List.replicate n PV.nil0).map c1 := by rw [List.map_replicate]; rfl
attribute [go_sem] rep_nil

/-- list of rows, handed back as views. -/
theorem listS_lim (k : Nat) (cap : List PV) (r c : Nat) (φ : Nat → Nat → Int) (hcap : ∀ h, fzl (fzv h) cap = some (cap, [])) (hc0 : cap.all pu00 = true) (hn : r ≤ 1048576)
    (hf : ∀ i, i < r → lim tab k (.int .i64 (i : Int) :: cap) none = some ⟨[Rw c (φ i)], [], none⟩) :
    lim tab F_lin_list_Slong_Int [.int .i64 (r : Int), .fn k cap] none = some ⟨[.own ⟨1, 0, 0⟩ 1 0 r], [⟨((List.range r).map fun i => Rw c (φ i)).map c1, true⟩], none⟩ := by
  refine runs_w rfl rfl ?_
  (repeat (first | refine w_seq ?_ | refine w_block ?_ | refine w_regS (by simp (disch := omega) only [go_sem]; with_reducible rfl) ?_ | refine w_reg (by simp (disch := omega) only [go_sem]; with_reducible rfl) ?_ | refine w_skipS ?_ | refine w_skipB ?_ | refine w_exitS ?_ | refine w_exitB ?_ | refine w_exitN rfl ?_ | refine w_exitL ?_ | refine w_retS ?_ | refine w_retB ?_ | refine w_retL ?_ | refine w_condT (by simp (disch := omega) only [go_sem]; with_reducible rfl) (by with_reducible rfl) ?_ | refine w_condF (by simp (disch := omega) only [go_sem]; with_reducible rfl) (by with_reducible rfl) ?_ | fail))
  refine w_loop (fun m s => ∃ i g', i + m = r ∧ s = ⟨[(1, .fn k cap), (5, .own ⟨9, 2, 0⟩ 1 0 r), (10, .int .i64 (r : Nat)), (11, .int .i64 (i : Nat))], [⟨9, 2, false, [⟨((List.range i).map (fun i => Rw c (φ i)) ++ List.replicate m PV.nil0).map c1, true⟩]⟩], [], g'⟩) r ?_ ?_
  · exact ⟨0, _, by omega, rfl⟩
  · rintro m s ⟨i, g', h1, rfl⟩
    cases m with
    | zero =>
      obtain rfl : i = r := by omega
      (repeat (first | refine w_seq ?_ | refine w_block ?_ | refine w_regS (by simp (disch := omega) only [go_sem, List.replicate_zero, List.append_nil]; with_reducible rfl) ?_ | refine w_reg (by simp (disch := omega) only [go_sem, List.replicate_zero, List.append_nil]; with_reducible rfl) ?_ | refine w_skipS ?_ | refine w_skipB ?_ | refine w_exitS ?_ | refine w_exitB ?_ | refine w_exitN rfl ?_ | refine w_exitL ?_ | refine w_retS ?_ | refine w_retB ?_ | refine w_retL ?_ | refine w_condT (by simp (disch := omega) only [go_sem, List.replicate_zero, List.append_nil]; with_reducible rfl) (by with_reducible rfl) ?_ | refine w_condF (by simp (disch := omega) only [go_sem, List.replicate_zero, List.append_nil]; with_reducible rfl) (by with_reducible rfl) ?_ | fail))
      (first | refine w_fini ?_ | refine w_finiN ?_); simp (disch := omega) only [go_sem, List.replicate_zero, List.append_nil, List.length_range]
    | succ m =>
      have hi := hf i (by omega)
      have hl : i = ((List.range i).map fun i => Rw c (φ i)).length := by simp
      have e1 : ((List.range i).map (fun i => Rw c (φ i)) ++ PV.nil0 :: List.replicate m PV.nil0)[i]? = some PV.nil0 := at_done _ _ _ _ hl
      have e2 : ((List.range i).map (fun i => Rw c (φ i)) ++ PV.nil0 :: List.replicate m PV.nil0).set i (Rw c (φ i)) = (List.range (i + 1)).map (fun i => Rw c (φ i)) ++ List.replicate m PV.nil0 := by
        rw [set_done _ _ _ _ _ hl, List.range_succ, List.map_append, List.append_assoc]; rfl
      rw [List.replicate_succ]
      (repeat (first | refine w_seq ?_ | refine w_block ?_ | refine w_regS (by simp (disch := omega) only [go_sem, hcap, hi, e1, e2]; with_reducible rfl) ?_ | refine w_reg (by simp (disch := omega) only [go_sem, hcap, hi, e1, e2]; with_reducible rfl) ?_ | refine w_skipS ?_ | refine w_skipB ?_ | refine w_exitS ?_ | refine w_exitB ?_ | refine w_exitN rfl ?_ | refine w_exitL ?_ | refine w_retS ?_ | refine w_retB ?_ | refine w_retL ?_ | refine w_condT (by simp (disch := omega) only [go_sem, hcap, hi, e1, e2]; with_reducible rfl) (by with_reducible rfl) ?_ | refine w_condF (by simp (disch := omega) only [go_sem, hcap, hi, e1, e2]; with_reducible rfl) (by with_reducible rfl) ?_ | fail))
      exact w_skipL ⟨m, by omega, i + 1, _, by omega, rfl⟩

/-! ### made -/
theorem made11_lim (k : Nat) (cap : List PV) (i j : Nat) (x : Int) (hcap : ∀ h, fzl (fzv h) cap = some (cap, [])) (hf : lim tab k (.int .i64 (i : Int) :: .int .i64 (j : Int) :: cap) none = some ⟨[Z x], [], none⟩) :
    lim tab F_lin_made_1_1 [.int .i64 (j : Int), .vptr [.fn k cap], .vptr [.int .i64 (i : Int)]] none = some ⟨[Z x], [], none⟩ := by
  refine runs_w rfl rfl ?_
  (repeat (first | refine w_seq ?_ | refine w_block ?_ | refine w_regS (by simp (disch := omega) only [go_sem, hcap, hf]; with_reducible rfl) ?_ | refine w_reg (by simp (disch := omega) only [go_sem, hcap, hf]; with_reducible rfl) ?_ | refine w_skipS ?_ | refine w_skipB ?_ | refine w_exitS ?_ | refine w_exitB ?_ | refine w_exitN rfl ?_ | refine w_exitL ?_ | refine w_retS ?_ | refine w_retB ?_ | refine w_retL ?_ | refine w_condT (by simp (disch := omega) only [go_sem, hcap, hf]; with_reducible rfl) (by with_reducible rfl) ?_ | refine w_condF (by simp (disch := omega) only [go_sem, hcap, hf]; with_reducible rfl) (by with_reducible rfl) ?_ | fail))
  (first | refine w_fini ?_ | refine w_finiN ?_); simp (disch := omega) only [go_sem]
theorem made1_lim (k : Nat) (cap : List PV) (n i : Nat) (f : Nat → Int) (hn : n ≤ 1048576) (hcap : ∀ h, fzl (fzv h) cap = some (cap, [])) (hc0 : cap.all pu00 = true)
    (hf : ∀ j, j < n → lim tab k (.int .i64 (i : Int) :: .int .i64 (j : Int) :: cap) none = some ⟨[Z (f j)], [], none⟩) :
    lim tab F_lin_made_1 [.int .i64 (i : Int), .vptr [.int .i64 (n : Int)], .vptr [.fn k cap]] none = some ⟨[Rw n f], [], none⟩ := by
  refine runs_w rfl rfl ?_
  have h1 := list_lim F_lin_made_1_1 [.vptr [.fn k cap], .vptr [.int .i64 (i : Int)]] f n (fun h => rfl) rfl hn fun j hj => made11_lim k cap i j _ hcap (hf j hj)
  (repeat (first | refine w_seq ?_ | refine w_block ?_ | refine w_regS (by simp (disch := omega) only [go_sem, h1]; with_reducible rfl) ?_ | refine w_reg (by simp (disch := omega) only [go_sem, h1]; with_reducible rfl) ?_ | refine w_skipS ?_ | refine w_skipB ?_ | refine w_exitS ?_ | refine w_exitB ?_ | refine w_exitN rfl ?_ | refine w_exitL ?_ | refine w_retS ?_ | refine w_retB ?_ | refine w_retL ?_ | refine w_condT (by simp (disch := omega) only [go_sem, h1]; with_reducible rfl) (by with_reducible rfl) ?_ | refine w_condF (by simp (disch := omega) only [go_sem, h1]; with_reducible rfl) (by with_reducible rfl) ?_ | fail))
  (first | refine w_fini ?_ | refine w_finiN ?_); simp (disch := omega) only [go_sem]
theorem mademat_lim (k : Nat) (cap : List PV) (n : Nat) (φ : Nat → Nat → Int) (hn : n ≤ 1048576) (hcap : ∀ h, fzl (fzv h) cap = some (cap, [])) (hc0 : cap.all pu00 = true)
    (hf : ∀ i j, i < n → j < n → lim tab k (.int .i64 (i : Int) :: .int .i64 (j : Int) :: cap) none = some ⟨[Z (φ i j)], [], none⟩) :
    lim tab F_lin_made [.int .i64 (n : Int), .fn k cap] none = some ⟨[Mx n n φ], [], none⟩ := by
  refine runs_w rfl rfl ?_
  have h1 := listS_lim F_lin_made_1 [.vptr [.int .i64 (n : Int)], .vptr [.fn k cap]] n n φ (fun h => rfl) rfl hn fun i hi => made1_lim k cap n i _ hn hcap hc0 fun j hj => hf i j hi hj
  (repeat (first | refine w_seq ?_ | refine w_block ?_ | refine w_regS (by simp (disch := omega) only [go_sem, h1, hc0]; with_reducible rfl) ?_ | refine w_reg (by simp (disch := omega) only [go_sem, h1, hc0]; with_reducible rfl) ?_ | refine w_skipS ?_ | refine w_skipB ?_ | refine w_exitS ?_ | refine w_exitB ?_ | refine w_exitN rfl ?_ | refine w_exitL ?_ | refine w_retS ?_ | refine w_retB ?_ | refine w_retL ?_ | refine w_condT (by simp (disch := omega) only [go_sem, h1, hc0]; with_reducible rfl) (by with_reducible rfl) ?_ | refine w_condF (by simp (disch := omega) only [go_sem, h1, hc0]; with_reducible rfl) (by with_reducible rfl) ?_ | fail))
  (first | refine w_fini ?_ | refine w_finiN ?_); simp (disch := omega) only [go_sem]

theorem zeros_lim (n : Nat) (hn : n ≤ 1048576) : lim tab F_lin_zeros [.int .i64 (n : Int)] none = some ⟨[.own ⟨1, 0, 0⟩ 2 0 n], [⟨(List.replicate n 0).map zc, true⟩], none⟩ := by
  refine runs_w rfl rfl ?_
  (repeat (first | refine w_seq ?_ | refine w_block ?_ | refine w_regS (by simp (disch := omega) only [go_sem]; with_reducible rfl) ?_ | refine w_reg (by simp (disch := omega) only [go_sem]; with_reducible rfl) ?_ | refine w_skipS ?_ | refine w_skipB ?_ | refine w_exitS ?_ | refine w_exitB ?_ | refine w_exitN rfl ?_ | refine w_exitL ?_ | refine w_retS ?_ | refine w_retB ?_ | refine w_retL ?_ | refine w_condT (by simp (disch := omega) only [go_sem]; with_reducible rfl) (by with_reducible rfl) ?_ | refine w_condF (by simp (disch := omega) only [go_sem]; with_reducible rfl) (by with_reducible rfl) ?_ | fail))
  (first | refine w_fini ?_ | refine w_finiN ?_); simp (disch := omega) only [go_sem]
theorem take_rep {α : Type} (n : Nat) (x : α) : List.take n (List.replicate n x) = List.replicate n x := List.take_of_length_le (by simp)
theorem rep_rng (n : Nat) : sl zc false (List.replicate n 0) = Rw n fun _ => 0 := by
  unfold Rw; congr 1
  exact (List.eq_replicate_iff.2 ⟨by simp, fun x hx => by obtain ⟨_, _, rfl⟩ := List.mem_map.1 hx; rfl⟩).symm
theorem turned_lim (x : Int) (b : Bool) (hx : sz x ≤ 1099511627776) : lim tab F_lin_turned [Z x, .bool b] none = some ⟨[Z (sg b x)], [], none⟩ := by
  refine runs_w rfl rfl ?_
  cases b
  · (repeat (first | refine w_seq ?_ | refine w_block ?_ | refine w_regS (by simp (disch := omega) only [go_sem]; with_reducible rfl) ?_ | refine w_reg (by simp (disch := omega) only [go_sem]; with_reducible rfl) ?_ | refine w_skipS ?_ | refine w_skipB ?_ | refine w_exitS ?_ | refine w_exitB ?_ | refine w_exitN rfl ?_ | refine w_exitL ?_ | refine w_retS ?_ | refine w_retB ?_ | refine w_retL ?_ | refine w_condT (by simp (disch := omega) only [go_sem]; with_reducible rfl) (by with_reducible rfl) ?_ | refine w_condF (by simp (disch := omega) only [go_sem]; with_reducible rfl) (by with_reducible rfl) ?_ | fail))
    (first | refine w_fini ?_ | refine w_finiN ?_); simp (disch := omega) only [go_sem]
    rfl
  · (repeat (first | refine w_seq ?_ | refine w_block ?_ | refine w_regS (by simp (disch := omega) only [go_sem]; with_reducible rfl) ?_ | refine w_reg (by simp (disch := omega) only [go_sem]; with_reducible rfl) ?_ | refine w_skipS ?_ | refine w_skipB ?_ | refine w_exitS ?_ | refine w_exitB ?_ | refine w_exitN rfl ?_ | refine w_exitL ?_ | refine w_retS ?_ | refine w_retB ?_ | refine w_retL ?_ | refine w_condT (by simp (disch := omega) only [go_sem]; with_reducible rfl) (by with_reducible rfl) ?_ | refine w_condF (by simp (disch := omega) only [go_sem]; with_reducible rfl) (by with_reducible rfl) ?_ | fail))
    (first | refine w_fini ?_ | refine w_finiN ?_); simp (disch := omega) only [go_sem]
    rfl
attribute [go_sem] take_rep zeros_lim turned_lim
end Go.Proofs.Ytbdknlejnacmgaa.Pi.W
end

section
/-
  Package lin on our machine: Of, sum, Apply, Mul, Turned, Quad.
-/
namespace Go.Proofs.Ytbdknlejnacmgaa.Pi.W
open Go Num
set_option linter.unusedVariables false
set_option linter.unusedSimpArgs false
set_option maxRecDepth 100000

/-! ### Rows of small numbers, as a law hands them in -/
def IR (zss : List (List Int)) : PV := sl c1 false (zss.map fun zs => sl i64c false zs)
theorem lnv_IR (zss : List (List Int)) : lnv false (IR zss) = some zss.length := by unfold IR; rw [lnv_sl, List.length_map]
theorem ixv_IR (zss : List (List Int)) (k : Nat) : ixv 1 (IR zss) k = thn (zss[k]?) fun zs => some (.vptr [sl i64c false zs]) := by
  unfold IR; rw [ixv_sl, List.getElem?_map]; cases zss[k]? <;> rfl
theorem fzv_IR (h : List Ent) (zss : List (List Int)) : fzv h (IR zss) = some (IR zss, []) := fzv_sl _ _ _ _
theorem flat_IR (zss : List (List Int)) : flat (IR zss) = true := flat_sl _ _ _
theorem pu0_IR (zss : List (List Int)) : pu0 (IR zss) = true := pu0_sl _ _ _
theorem pu00_IR (zss : List (List Int)) : pu00 (IR zss) = true := pu00_sl _ _ _
theorem cellsOf_IR (zss : List (List Int)) : cellsOf (IR zss) = [IR zss] := cellsOf_sl _ _ _
attribute [go_sem] lnv_IR ixv_IR fzv_IR flat_IR pu0_IR pu00_IR cellsOf_IR

/-- A place's number. -/
def ent (zss : List (List Int)) (i j : Nat) : Int := (zss.getD i []).getD j 0
/-- Small numbers. -/
def I64 (z : Int) : Prop := -9223372036854775808 ≤ z ∧ z ≤ 9223372036854775807
theorem ent_at {zss : List (List Int)} {i j : Nat} {zs : List Int} {z : Int} (h : zss[i]? = some zs) (k : zs[j]? = some z) : ent zss i j = z := by
  simp only [ent, List.getD_eq_getElem?_getD, h, k, Option.getD_some]

theorem of1_lim (zss : List (List Int)) (i j : Nat) (zs : List Int) (z : Int) (h : zss[i]? = some zs) (k : zs[j]? = some z) (hz : I64 z) :
    lim tab F_lin_Of_1 [.int .i64 (i : Int), .int .i64 (j : Int), .vptr [IR zss]] none = some ⟨[Z z], [], none⟩ := by
  obtain ⟨h1, h2⟩ := hz
  refine runs_w rfl rfl ?_
  (repeat (first | refine w_seq ?_ | refine w_block ?_ | refine w_regS (by simp (disch := omega) only [go_sem, h, k]; with_reducible rfl) ?_ | refine w_reg (by simp (disch := omega) only [go_sem, h, k]; with_reducible rfl) ?_ | refine w_skipS ?_ | refine w_skipB ?_ | refine w_exitS ?_ | refine w_exitB ?_ | refine w_exitN rfl ?_ | refine w_exitL ?_ | refine w_retS ?_ | refine w_retB ?_ | refine w_retL ?_ | refine w_condT (by simp (disch := omega) only [go_sem, h, k]; with_reducible rfl) (by with_reducible rfl) ?_ | refine w_condF (by simp (disch := omega) only [go_sem, h, k]; with_reducible rfl) (by with_reducible rfl) ?_ | fail))
  (first | refine w_fini ?_ | refine w_finiN ?_); simp (disch := omega) only [go_sem]

theorem of_long (zss : List (List Int)) (h : 12 < zss.length) (hl : zss.length ≤ 9223372036854775807) : lim tab F_lin_Of [IR zss] none = some ⟨[.view [], .int .i64 2], [], none⟩ := by
  refine runs_w rfl rfl ?_
  (repeat (first | refine w_seq ?_ | refine w_block ?_ | refine w_regS (by simp (disch := omega) only [go_sem]; with_reducible rfl) ?_ | refine w_reg (by simp (disch := omega) only [go_sem]; with_reducible rfl) ?_ | refine w_skipS ?_ | refine w_skipB ?_ | refine w_exitS ?_ | refine w_exitB ?_ | refine w_exitN rfl ?_ | refine w_exitL ?_ | refine w_retS ?_ | refine w_retB ?_ | refine w_retL ?_ | refine w_condT (by simp (disch := omega) only [go_sem]; with_reducible rfl) (by with_reducible rfl) ?_ | refine w_condF (by simp (disch := omega) only [go_sem]; with_reducible rfl) (by with_reducible rfl) ?_ | fail))
  (first | refine w_fini ?_ | refine w_finiN ?_); simp (disch := omega) only [go_sem, List.take_nil]

theorem of_loop (zss : List (List Int)) (n : Nat) (g : Nat) (Q : PEx → St → Prop) (hn : zss.length = n) (h12 : n ≤ 12)
    (bad : (∃ zs ∈ zss, zs.length ≠ n) → ∀ g', Wp tab .ret ⟨[(2, .own ⟨3, g', 0⟩ 1 0 0), (3, .int .i64 1)], [⟨3, g', false, [⟨[], true⟩]⟩], [], g' + 1⟩ Q) 
    (ok : (∀ zs ∈ zss, zs.length = n) → ∀ g', Wp tab .skip ⟨[(1, .optr ⟨2, 1, 0⟩ 0 0), (9, IR zss), (10, .int .i64 (n : Nat)), (11, .int .i64 (n : Nat)), (12, .bool false)], [⟨2, 1, false, [⟨[[IR zss]], true⟩]⟩], [], g'⟩ Q)
    (hl : ∀ zs ∈ zss, zs.length ≤ 9223372036854775807) :
    Wp tab (.loop B_lin_Of_2) ⟨[(1, .optr ⟨2, 1, 0⟩ 0 0), (9, IR zss), (10, .int .i64 (n : Nat)), (11, .int .i64 0)], [⟨2, 1, false, [⟨[[IR zss]], true⟩]⟩], [], g⟩ (kB 0 Q) := by
  refine w_loop (fun m s => ∃ i g', i + m = n ∧ (∀ j (h : j < zss.length), j < i → zss[j].length = n) ∧ s = ⟨[(1, .optr ⟨2, 1, 0⟩ 0 0), (9, IR zss), (10, .int .i64 (n : Nat)), (11, .int .i64 (i : Nat))], [⟨2, 1, false, [⟨[[IR zss]], true⟩]⟩], [], g'⟩) n ?_ ?_
  · exact ⟨0, _, by omega, fun j h1 h2 => by omega, rfl⟩
  · rintro m s ⟨i, g', h1, h2, rfl⟩
    by_cases hi : i < n
    · have hz : zss[i]? = some zss[i] := List.getElem?_eq_getElem (by omega)
      have hm : zss[i] ∈ zss := List.getElem_mem (by omega)
      have hlz := hl _ hm
      by_cases hb : zss[i].length = n
      · (repeat (first | refine w_seq ?_ | refine w_block ?_ | refine w_regS (by simp (disch := omega) only [go_sem, hz]; with_reducible rfl) ?_ | refine w_reg (by simp (disch := omega) only [go_sem, hz]; with_reducible rfl) ?_ | refine w_skipS ?_ | refine w_skipB ?_ | refine w_exitS ?_ | refine w_exitB ?_ | refine w_exitN rfl ?_ | refine w_exitL ?_ | refine w_retS ?_ | refine w_retB ?_ | refine w_retL ?_ | refine w_condT (by simp (disch := omega) only [go_sem, hz]; with_reducible rfl) (by with_reducible rfl) ?_ | refine w_condF (by simp (disch := omega) only [go_sem, hz]; with_reducible rfl) (by with_reducible rfl) ?_ | fail))
        refine w_skipL ⟨m - 1, by omega, i + 1, _, by omega, fun j p1 p2 => ?_, rfl⟩
        by_cases hj : j = i
        · subst hj; exact hb
        · exact h2 j p1 (by omega)
      · (repeat (first | refine w_seq ?_ | refine w_block ?_ | refine w_regS (by simp (disch := omega) only [go_sem, hz]; with_reducible rfl) ?_ | refine w_reg (by simp (disch := omega) only [go_sem, hz]; with_reducible rfl) ?_ | refine w_skipS ?_ | refine w_skipB ?_ | refine w_exitS ?_ | refine w_exitB ?_ | refine w_exitN rfl ?_ | refine w_exitL ?_ | refine w_retS ?_ | refine w_retB ?_ | refine w_retL ?_ | refine w_condT (by simp (disch := omega) only [go_sem, hz]; with_reducible rfl) (by with_reducible rfl) ?_ | refine w_condF (by simp (disch := omega) only [go_sem, hz]; with_reducible rfl) (by with_reducible rfl) ?_ | fail))
        exact bad ⟨_, hm, hb⟩ _
    · obtain rfl : i = n := by omega
      (repeat (first | refine w_seq ?_ | refine w_block ?_ | refine w_regS (by simp (disch := omega) only [go_sem]; with_reducible rfl) ?_ | refine w_reg (by simp (disch := omega) only [go_sem]; with_reducible rfl) ?_ | refine w_skipS ?_ | refine w_skipB ?_ | refine w_exitS ?_ | refine w_exitB ?_ | refine w_exitN rfl ?_ | refine w_exitL ?_ | refine w_retS ?_ | refine w_retB ?_ | refine w_retL ?_ | refine w_condT (by simp (disch := omega) only [go_sem]; with_reducible rfl) (by with_reducible rfl) ?_ | refine w_condF (by simp (disch := omega) only [go_sem]; with_reducible rfl) (by with_reducible rfl) ?_ | fail))
      exact ok (fun zs hz => by obtain ⟨j, hj, rfl⟩ := List.getElem_of_mem hz; exact h2 j hj (by omega)) _

section
attribute [local irreducible] B_lin_Of_2
theorem of_arg (zss : List (List Int)) (h12 : zss.length ≤ 12) (hb : ∃ zs ∈ zss, zs.length ≠ zss.length) (hl : ∀ zs ∈ zss, zs.length ≤ 9223372036854775807) : lim tab F_lin_Of [IR zss] none = some ⟨[.view [], .int .i64 1], [], none⟩ := by
  refine runs_w rfl rfl ?_
  (repeat (first | refine w_seq ?_ | refine w_block ?_ | refine w_regS (by simp (disch := omega) only [go_sem]; with_reducible rfl) ?_ | refine w_reg (by simp (disch := omega) only [go_sem]; with_reducible rfl) ?_ | refine w_skipS ?_ | refine w_skipB ?_ | refine w_exitS ?_ | refine w_exitB ?_ | refine w_exitN rfl ?_ | refine w_exitL ?_ | refine w_retS ?_ | refine w_retB ?_ | refine w_retL ?_ | refine w_condT (by simp (disch := omega) only [go_sem]; with_reducible rfl) (by with_reducible rfl) ?_ | refine w_condF (by simp (disch := omega) only [go_sem]; with_reducible rfl) (by with_reducible rfl) ?_ | fail))
  refine of_loop zss zss.length _ _ rfl h12 (fun _ g' => ?_) (fun h => ?_) hl
  · (repeat (first | refine w_seq ?_ | refine w_block ?_ | refine w_regS (by simp (disch := omega) only [go_sem]; with_reducible rfl) ?_ | refine w_reg (by simp (disch := omega) only [go_sem]; with_reducible rfl) ?_ | refine w_skipS ?_ | refine w_skipB ?_ | refine w_exitS ?_ | refine w_exitB ?_ | refine w_exitN rfl ?_ | refine w_exitL ?_ | refine w_retS ?_ | refine w_retB ?_ | refine w_retL ?_ | refine w_condT (by simp (disch := omega) only [go_sem]; with_reducible rfl) (by with_reducible rfl) ?_ | refine w_condF (by simp (disch := omega) only [go_sem]; with_reducible rfl) (by with_reducible rfl) ?_ | fail))
    (first | refine w_fini ?_ | refine w_finiN ?_); simp (disch := omega) only [go_sem, List.take_nil]
  · obtain ⟨zs, h1, h2⟩ := hb
    exact absurd (h zs h1) h2
theorem of_ok (zss : List (List Int)) (n : Nat) (hn : zss.length = n) (h12 : n ≤ 12) (hb : ∀ zs ∈ zss, zs.length = n) (hz : ∀ zs ∈ zss, ∀ z ∈ zs, I64 z) : lim tab F_lin_Of [IR zss] none = some ⟨[Mx n n (ent zss), .int .i64 0], [], none⟩ := by
  refine runs_w rfl rfl ?_
  have h1 := mademat_lim F_lin_Of_1 [.vptr [IR zss]] n (ent zss) (by omega) (fun h => rfl) rfl fun i j hi hj => by
    have p1 : zss[i]? = some zss[i] := List.getElem?_eq_getElem (by omega)
    have p2 := hb _ (List.getElem_mem (l := zss) (n := i) (by omega))
    have p3 : zss[i][j]? = some zss[i][j] := List.getElem?_eq_getElem (by omega)
    rw [ent_at p1 p3]
    exact of1_lim zss i j _ _ p1 p3 (hz _ (List.getElem_mem _) _ (List.getElem_mem _))
  (repeat (first | refine w_seq ?_ | refine w_block ?_ | refine w_regS (by simp (disch := omega) only [go_sem]; with_reducible rfl) ?_ | refine w_reg (by simp (disch := omega) only [go_sem]; with_reducible rfl) ?_ | refine w_skipS ?_ | refine w_skipB ?_ | refine w_exitS ?_ | refine w_exitB ?_ | refine w_exitN rfl ?_ | refine w_exitL ?_ | refine w_retS ?_ | refine w_retB ?_ | refine w_retL ?_ | refine w_condT (by simp (disch := omega) only [go_sem]; with_reducible rfl) (by with_reducible rfl) ?_ | refine w_condF (by simp (disch := omega) only [go_sem]; with_reducible rfl) (by with_reducible rfl) ?_ | fail))
  rw [hn]
  refine of_loop zss n _ _ hn h12 (fun ⟨zs, h1, h2⟩ => absurd (hb zs h1) h2) (fun _ g' => ?_) (fun zs h => by have := hb zs h; omega)
  (repeat (first | refine w_seq ?_ | refine w_block ?_ | refine w_regS (by simp (disch := omega) only [go_sem, h1, hn]; with_reducible rfl) ?_ | refine w_reg (by simp (disch := omega) only [go_sem, h1, hn]; with_reducible rfl) ?_ | refine w_skipS ?_ | refine w_skipB ?_ | refine w_exitS ?_ | refine w_exitB ?_ | refine w_exitN rfl ?_ | refine w_exitL ?_ | refine w_retS ?_ | refine w_retB ?_ | refine w_retL ?_ | refine w_condT (by simp (disch := omega) only [go_sem, h1, hn]; with_reducible rfl) (by with_reducible rfl) ?_ | refine w_condF (by simp (disch := omega) only [go_sem, h1, hn]; with_reducible rfl) (by with_reducible rfl) ?_ | fail))
  (first | refine w_fini ?_ | refine w_finiN ?_); simp (disch := omega) only [go_sem]
end

/-! ### sum -/
theorem sz_0 : sz 0 = 0 := by unfold sz; rw [show ql (Int.natAbs 0) = [] from ql_nil.2 rfl]; rfl
theorem sz_sumN {f : Nat → Int} {S : Nat} : ∀ {n : Nat}, (∀ i, i < n → sz (f i) ≤ S) → sz (sumN n f) ≤ S + n
  | 0, _ => by simp only [sumN, sz_0]; omega
  | n + 1, h => by
    have h1 := sz_sumN (n := n) fun i hi => h i (by omega)
    have h2 := h n (by omega)
    have h3 := sz_add (sumN n f) (f n)
    simp only [sumN]; omega
theorem sum_lim (k : Nat) (cap : List PV) (n : Nat) (a b : Nat → Int) (S T : Nat) (hS : S ≤ 274877906944) (hT : T ≤ 274877906944) (hn : n ≤ 1048576) (hcap : ∀ h, fzl (fzv h) cap = some (cap, []))
    (hf : ∀ i, i < n → lim tab k (.int .i64 (i : Int) :: cap) none = some ⟨[Z (a i), Z (b i)], [], none⟩) (ha : ∀ i, i < n → sz (a i) ≤ S) (hb : ∀ i, i < n → sz (b i) ≤ T) :
    lim tab F_lin_sum [.int .i64 (n : Int), .fn k cap] none = some ⟨[Z (sumN n fun i => a i * b i)], [], none⟩ := by
  refine runs_w rfl rfl ?_
  (repeat (first | refine w_seq ?_ | refine w_block ?_ | refine w_regS (by simp (disch := omega) only [go_sem]; with_reducible rfl) ?_ | refine w_reg (by simp (disch := omega) only [go_sem]; with_reducible rfl) ?_ | refine w_skipS ?_ | refine w_skipB ?_ | refine w_exitS ?_ | refine w_exitB ?_ | refine w_exitN rfl ?_ | refine w_exitL ?_ | refine w_retS ?_ | refine w_retB ?_ | refine w_retL ?_ | refine w_condT (by simp (disch := omega) only [go_sem]; with_reducible rfl) (by with_reducible rfl) ?_ | refine w_condF (by simp (disch := omega) only [go_sem]; with_reducible rfl) (by with_reducible rfl) ?_ | fail))
  refine w_loop (fun m s => ∃ i g', i + m = n ∧ s = ⟨[(1, .fn k cap), (4, .optr ⟨5, 1, 0⟩ 0 0), (5, .optr ⟨6, 2, 0⟩ 0 0), (9, .int .i64 (n : Nat)), (10, .int .i64 (i : Nat))], [⟨5, 1, false, [⟨[zc 0], true⟩]⟩, ⟨6, 2, false, [⟨[zc (sumN i fun i => a i * b i)], true⟩]⟩], [], g'⟩) n ?_ ?_
  · exact ⟨0, _, by omega, rfl⟩
  · rintro m s ⟨i, g', h1, rfl⟩
    have hz := sz_sumN (f := fun i => a i * b i) (S := S + T) (n := i) fun j hj => Nat.le_trans (sz_mul _ _) (by have := ha j (by omega); have := hb j (by omega); omega)
    by_cases hi : i < n
    · have hfi := hf i hi
      have h2 := ha i hi
      have h3 := hb i hi
      have h4 := sz_mul (a i) (b i)
      (repeat (first | refine w_seq ?_ | refine w_block ?_ | refine w_regS (by simp (disch := omega) only [go_sem, hcap, hfi]; with_reducible rfl) ?_ | refine w_reg (by simp (disch := omega) only [go_sem, hcap, hfi]; with_reducible rfl) ?_ | refine w_skipS ?_ | refine w_skipB ?_ | refine w_exitS ?_ | refine w_exitB ?_ | refine w_exitN rfl ?_ | refine w_exitL ?_ | refine w_retS ?_ | refine w_retB ?_ | refine w_retL ?_ | refine w_condT (by simp (disch := omega) only [go_sem, hcap, hfi]; with_reducible rfl) (by with_reducible rfl) ?_ | refine w_condF (by simp (disch := omega) only [go_sem, hcap, hfi]; with_reducible rfl) (by with_reducible rfl) ?_ | fail))
      exact w_skipL ⟨m - 1, by omega, i + 1, _, by omega, rfl⟩
    · obtain rfl : i = n := by omega
      (repeat (first | refine w_seq ?_ | refine w_block ?_ | refine w_regS (by simp (disch := omega) only [go_sem]; with_reducible rfl) ?_ | refine w_reg (by simp (disch := omega) only [go_sem]; with_reducible rfl) ?_ | refine w_skipS ?_ | refine w_skipB ?_ | refine w_exitS ?_ | refine w_exitB ?_ | refine w_exitN rfl ?_ | refine w_exitL ?_ | refine w_retS ?_ | refine w_retB ?_ | refine w_retL ?_ | refine w_condT (by simp (disch := omega) only [go_sem]; with_reducible rfl) (by with_reducible rfl) ?_ | refine w_condF (by simp (disch := omega) only [go_sem]; with_reducible rfl) (by with_reducible rfl) ?_ | fail))
      (first | refine w_fini ?_ | refine w_finiN ?_); simp (disch := omega) only [go_sem]
end Go.Proofs.Ytbdknlejnacmgaa.Pi.W
end

section
/-
  Package lin on our machine: Apply, Mul, Turned, Quad.
-/
namespace Go.Proofs.Ytbdknlejnacmgaa.Pi.W
open Go Num
set_option linter.unusedVariables false
set_option linter.unusedSimpArgs false
set_option maxRecDepth 100000

theorem apply11_lim (n i k : Nat) (φ : Nat → Nat → Int) (x : Nat → Int) (hi : i < n) (hk : k < n) :
    lim tab F_lin_Mat_Apply_1_1 [.int .i64 (k : Int), .vptr [Mx n n φ], .vptr [.int .i64 (i : Int)], .vptr [Rw n x]] none = some ⟨[Z (φ i k), Z (x k)], [], none⟩ := by
  refine runs_w rfl rfl ?_
  (repeat (first | refine w_seq ?_ | refine w_block ?_ | refine w_regS (by simp (disch := omega) only [go_sem]; with_reducible rfl) ?_ | refine w_reg (by simp (disch := omega) only [go_sem]; with_reducible rfl) ?_ | refine w_skipS ?_ | refine w_skipB ?_ | refine w_exitS ?_ | refine w_exitB ?_ | refine w_exitN rfl ?_ | refine w_exitL ?_ | refine w_retS ?_ | refine w_retB ?_ | refine w_retL ?_ | refine w_condT (by simp (disch := omega) only [go_sem]; with_reducible rfl) (by with_reducible rfl) ?_ | refine w_condF (by simp (disch := omega) only [go_sem]; with_reducible rfl) (by with_reducible rfl) ?_ | fail))
  (first | refine w_fini ?_ | refine w_finiN ?_); simp (disch := omega) only [go_sem]
theorem apply1_lim (n i : Nat) (φ : Nat → Nat → Int) (x : Nat → Int) (S T : Nat) (hS : S ≤ 274877906944) (hT : T ≤ 274877906944) (hn : n ≤ 1048576) (hi : i < n) (ha : ∀ k, k < n → sz (φ i k) ≤ S) (hb : ∀ k, k < n → sz (x k) ≤ T) :
    lim tab F_lin_Mat_Apply_1 [.int .i64 (i : Int), .vptr [Mx n n φ], .vptr [Rw n x]] none = some ⟨[Z (sumN n fun k => φ i k * x k)], [], none⟩ := by
  refine runs_w rfl rfl ?_
  have h1 := sum_lim F_lin_Mat_Apply_1_1 [.vptr [Mx n n φ], .vptr [.int .i64 (i : Int)], .vptr [Rw n x]] n (φ i) x S T hS hT hn (fun h => rfl) (fun k hk => apply11_lim n i k φ x hi hk) ha hb
  (repeat (first | refine w_seq ?_ | refine w_block ?_ | refine w_regS (by simp (disch := omega) only [go_sem, h1]; with_reducible rfl) ?_ | refine w_reg (by simp (disch := omega) only [go_sem, h1]; with_reducible rfl) ?_ | refine w_skipS ?_ | refine w_skipB ?_ | refine w_exitS ?_ | refine w_exitB ?_ | refine w_exitN rfl ?_ | refine w_exitL ?_ | refine w_retS ?_ | refine w_retB ?_ | refine w_retL ?_ | refine w_condT (by simp (disch := omega) only [go_sem, h1]; with_reducible rfl) (by with_reducible rfl) ?_ | refine w_condF (by simp (disch := omega) only [go_sem, h1]; with_reducible rfl) (by with_reducible rfl) ?_ | fail))
  (first | refine w_fini ?_ | refine w_finiN ?_); simp (disch := omega) only [go_sem]
/-- The product with a list. -/
def mv (n : Nat) (φ : Nat → Nat → Int) (x : Nat → Int) (i : Nat) : Int := sumN n fun k => φ i k * x k
theorem apply_lim (n : Nat) (φ : Nat → Nat → Int) (x : Nat → Int) (S T : Nat) (hS : S ≤ 274877906944) (hT : T ≤ 274877906944) (hn : n ≤ 1048576) (ha : ∀ i k, i < n → k < n → sz (φ i k) ≤ S) (hb : ∀ k, k < n → sz (x k) ≤ T) :
    lim tab F_lin_Mat_Apply [Mx n n φ, Rw n x] none = some ⟨[Rw n (mv n φ x)], [], none⟩ := by
  refine runs_w rfl rfl ?_
  have h1 := list_lim F_lin_Mat_Apply_1 [.vptr [Mx n n φ], .vptr [Rw n x]] (mv n φ x) n (fun h => rfl) rfl hn fun i hi => apply1_lim n i φ x S T hS hT hn hi (fun k hk => ha i k hi hk) hb
  (repeat (first | refine w_seq ?_ | refine w_block ?_ | refine w_regS (by simp (disch := omega) only [go_sem, h1]; with_reducible rfl) ?_ | refine w_reg (by simp (disch := omega) only [go_sem, h1]; with_reducible rfl) ?_ | refine w_skipS ?_ | refine w_skipB ?_ | refine w_exitS ?_ | refine w_exitB ?_ | refine w_exitN rfl ?_ | refine w_exitL ?_ | refine w_retS ?_ | refine w_retB ?_ | refine w_retL ?_ | refine w_condT (by simp (disch := omega) only [go_sem, h1]; with_reducible rfl) (by with_reducible rfl) ?_ | refine w_condF (by simp (disch := omega) only [go_sem, h1]; with_reducible rfl) (by with_reducible rfl) ?_ | fail))
  (first | refine w_fini ?_ | refine w_finiN ?_); simp (disch := omega) only [go_sem]

theorem mul11_lim (n i j k : Nat) (φ ψ : Nat → Nat → Int) (hi : i < n) (hj : j < n) (hk : k < n) :
    lim tab F_lin_Mat_Mul_1_1 [.int .i64 (k : Int), .vptr [Mx n n φ], .vptr [.int .i64 (i : Int)], .vptr [Mx n n ψ], .vptr [.int .i64 (j : Int)]] none = some ⟨[Z (φ i k), Z (ψ k j)], [], none⟩ := by
  refine runs_w rfl rfl ?_
  (repeat (first | refine w_seq ?_ | refine w_block ?_ | refine w_regS (by simp (disch := omega) only [go_sem]; with_reducible rfl) ?_ | refine w_reg (by simp (disch := omega) only [go_sem]; with_reducible rfl) ?_ | refine w_skipS ?_ | refine w_skipB ?_ | refine w_exitS ?_ | refine w_exitB ?_ | refine w_exitN rfl ?_ | refine w_exitL ?_ | refine w_retS ?_ | refine w_retB ?_ | refine w_retL ?_ | refine w_condT (by simp (disch := omega) only [go_sem]; with_reducible rfl) (by with_reducible rfl) ?_ | refine w_condF (by simp (disch := omega) only [go_sem]; with_reducible rfl) (by with_reducible rfl) ?_ | fail))
  (first | refine w_fini ?_ | refine w_finiN ?_); simp (disch := omega) only [go_sem]
theorem mul1_lim (n i j : Nat) (φ ψ : Nat → Nat → Int) (S T : Nat) (hS : S ≤ 274877906944) (hT : T ≤ 274877906944) (hn : n ≤ 1048576) (hi : i < n) (hj : j < n) (ha : ∀ i k, i < n → k < n → sz (φ i k) ≤ S) (hb : ∀ i k, i < n → k < n → sz (ψ i k) ≤ T) :
    lim tab F_lin_Mat_Mul_1 [.int .i64 (i : Int), .int .i64 (j : Int), .vptr [Mx n n φ], .vptr [Mx n n ψ]] none = some ⟨[Z (mm n φ ψ i j)], [], none⟩ := by
  refine runs_w rfl rfl ?_
  have h1 := sum_lim F_lin_Mat_Mul_1_1 [.vptr [Mx n n φ], .vptr [.int .i64 (i : Int)], .vptr [Mx n n ψ], .vptr [.int .i64 (j : Int)]] n (φ i) (fun k => ψ k j) S T hS hT hn (fun h => rfl) (fun k hk => mul11_lim n i j k φ ψ hi hj hk) (fun k hk => ha i k hi hk) (fun k hk => hb k j hk hj)
  (repeat (first | refine w_seq ?_ | refine w_block ?_ | refine w_regS (by simp (disch := omega) only [go_sem, h1]; with_reducible rfl) ?_ | refine w_reg (by simp (disch := omega) only [go_sem, h1]; with_reducible rfl) ?_ | refine w_skipS ?_ | refine w_skipB ?_ | refine w_exitS ?_ | refine w_exitB ?_ | refine w_exitN rfl ?_ | refine w_exitL ?_ | refine w_retS ?_ | refine w_retB ?_ | refine w_retL ?_ | refine w_condT (by simp (disch := omega) only [go_sem, h1]; with_reducible rfl) (by with_reducible rfl) ?_ | refine w_condF (by simp (disch := omega) only [go_sem, h1]; with_reducible rfl) (by with_reducible rfl) ?_ | fail))
  (first | refine w_fini ?_ | refine w_finiN ?_); simp (disch := omega) only [go_sem]
  rfl
theorem mulmat_lim (n : Nat) (φ ψ : Nat → Nat → Int) (S T : Nat) (hS : S ≤ 274877906944) (hT : T ≤ 274877906944) (hn : n ≤ 1048576) (ha : ∀ i k, i < n → k < n → sz (φ i k) ≤ S) (hb : ∀ i k, i < n → k < n → sz (ψ i k) ≤ T) :
    lim tab F_lin_Mat_Mul [Mx n n φ, Mx n n ψ] none = some ⟨[Mx n n (mm n φ ψ)], [], none⟩ := by
  refine runs_w rfl rfl ?_
  have h1 := mademat_lim F_lin_Mat_Mul_1 [.vptr [Mx n n φ], .vptr [Mx n n ψ]] n (mm n φ ψ) hn (fun h => rfl) rfl fun i j hi hj => mul1_lim n i j φ ψ S T hS hT hn hi hj ha hb
  (repeat (first | refine w_seq ?_ | refine w_block ?_ | refine w_regS (by simp (disch := omega) only [go_sem, h1]; with_reducible rfl) ?_ | refine w_reg (by simp (disch := omega) only [go_sem, h1]; with_reducible rfl) ?_ | refine w_skipS ?_ | refine w_skipB ?_ | refine w_exitS ?_ | refine w_exitB ?_ | refine w_exitN rfl ?_ | refine w_exitL ?_ | refine w_retS ?_ | refine w_retB ?_ | refine w_retL ?_ | refine w_condT (by simp (disch := omega) only [go_sem, h1]; with_reducible rfl) (by with_reducible rfl) ?_ | refine w_condF (by simp (disch := omega) only [go_sem, h1]; with_reducible rfl) (by with_reducible rfl) ?_ | fail))
  (first | refine w_fini ?_ | refine w_finiN ?_); simp (disch := omega) only [go_sem]

theorem turned1_lim (n i j : Nat) (φ : Nat → Nat → Int) (hi : i < n) (hj : j < n) : lim tab F_lin_Mat_Turned_1 [.int .i64 (i : Int), .int .i64 (j : Int), .vptr [Mx n n φ]] none = some ⟨[Z (φ j i)], [], none⟩ := by
  refine runs_w rfl rfl ?_
  (repeat (first | refine w_seq ?_ | refine w_block ?_ | refine w_regS (by simp (disch := omega) only [go_sem]; with_reducible rfl) ?_ | refine w_reg (by simp (disch := omega) only [go_sem]; with_reducible rfl) ?_ | refine w_skipS ?_ | refine w_skipB ?_ | refine w_exitS ?_ | refine w_exitB ?_ | refine w_exitN rfl ?_ | refine w_exitL ?_ | refine w_retS ?_ | refine w_retB ?_ | refine w_retL ?_ | refine w_condT (by simp (disch := omega) only [go_sem]; with_reducible rfl) (by with_reducible rfl) ?_ | refine w_condF (by simp (disch := omega) only [go_sem]; with_reducible rfl) (by with_reducible rfl) ?_ | fail))
  (first | refine w_fini ?_ | refine w_finiN ?_); simp (disch := omega) only [go_sem]
theorem turnedmat_lim (n : Nat) (φ : Nat → Nat → Int) (hn : n ≤ 1048576) : lim tab F_lin_Mat_Turned [Mx n n φ] none = some ⟨[Mx n n fun i j => φ j i], [], none⟩ := by
  refine runs_w rfl rfl ?_
  have h1 := mademat_lim F_lin_Mat_Turned_1 [.vptr [Mx n n φ]] n (fun i j => φ j i) hn (fun h => rfl) rfl fun i j hi hj => turned1_lim n i j φ hi hj
  (repeat (first | refine w_seq ?_ | refine w_block ?_ | refine w_regS (by simp (disch := omega) only [go_sem, h1]; with_reducible rfl) ?_ | refine w_reg (by simp (disch := omega) only [go_sem, h1]; with_reducible rfl) ?_ | refine w_skipS ?_ | refine w_skipB ?_ | refine w_exitS ?_ | refine w_exitB ?_ | refine w_exitN rfl ?_ | refine w_exitL ?_ | refine w_retS ?_ | refine w_retB ?_ | refine w_retL ?_ | refine w_condT (by simp (disch := omega) only [go_sem, h1]; with_reducible rfl) (by with_reducible rfl) ?_ | refine w_condF (by simp (disch := omega) only [go_sem, h1]; with_reducible rfl) (by with_reducible rfl) ?_ | fail))
  (first | refine w_fini ?_ | refine w_finiN ?_); simp (disch := omega) only [go_sem]

theorem quad1_lim (n k : Nat) (x y : Nat → Int) (hk : k < n) : lim tab F_lin_Mat_Quad_1 [.int .i64 (k : Int), .vptr [Rw n x], .vptr [Rw n y]] none = some ⟨[Z (x k), Z (y k)], [], none⟩ := by
  refine runs_w rfl rfl ?_
  (repeat (first | refine w_seq ?_ | refine w_block ?_ | refine w_regS (by simp (disch := omega) only [go_sem]; with_reducible rfl) ?_ | refine w_reg (by simp (disch := omega) only [go_sem]; with_reducible rfl) ?_ | refine w_skipS ?_ | refine w_skipB ?_ | refine w_exitS ?_ | refine w_exitB ?_ | refine w_exitN rfl ?_ | refine w_exitL ?_ | refine w_retS ?_ | refine w_retB ?_ | refine w_retL ?_ | refine w_condT (by simp (disch := omega) only [go_sem]; with_reducible rfl) (by with_reducible rfl) ?_ | refine w_condF (by simp (disch := omega) only [go_sem]; with_reducible rfl) (by with_reducible rfl) ?_ | fail))
  (first | refine w_fini ?_ | refine w_finiN ?_); simp (disch := omega) only [go_sem]
/-- The quadratic form. -/
def qf (n : Nat) (φ : Nat → Nat → Int) (x : Nat → Int) : Int := sumN n fun k => x k * mv n φ x k
theorem sz_mv {n : Nat} {φ : Nat → Nat → Int} {x : Nat → Int} {S T : Nat} (ha : ∀ i k, i < n → k < n → sz (φ i k) ≤ S) (hb : ∀ k, k < n → sz (x k) ≤ T) {i : Nat} (hi : i < n) : sz (mv n φ x i) ≤ S + T + n :=
  sz_sumN fun k hk => Nat.le_trans (sz_mul _ _) (by have := ha i k hi hk; have := hb k hk; omega)
theorem quadmat_lim (n : Nat) (φ : Nat → Nat → Int) (x : Nat → Int) (S T : Nat) (hS : S ≤ 68719476736) (hT : T ≤ 68719476736) (hn : n ≤ 1048576) (ha : ∀ i k, i < n → k < n → sz (φ i k) ≤ S) (hb : ∀ k, k < n → sz (x k) ≤ T) :
    lim tab F_lin_Mat_Quad [Mx n n φ, Rw n x] none = some ⟨[Z (qf n φ x)], [], none⟩ := by
  refine runs_w rfl rfl ?_
  have h0 := apply_lim n φ x S T (by omega) (by omega) hn ha hb
  have h1 := sum_lim F_lin_Mat_Quad_1 [.vptr [Rw n x], .vptr [Rw n (mv n φ x)]] n x (mv n φ x) T (S + T + n) (by omega) (by omega) hn (fun h => rfl) (fun k hk => quad1_lim n k x _ hk) hb (fun k hk => sz_mv ha hb hk)
  (repeat (first | refine w_seq ?_ | refine w_block ?_ | refine w_regS (by simp (disch := omega) only [go_sem, h0, h1]; with_reducible rfl) ?_ | refine w_reg (by simp (disch := omega) only [go_sem, h0, h1]; with_reducible rfl) ?_ | refine w_skipS ?_ | refine w_skipB ?_ | refine w_exitS ?_ | refine w_exitB ?_ | refine w_exitN rfl ?_ | refine w_exitL ?_ | refine w_retS ?_ | refine w_retB ?_ | refine w_retL ?_ | refine w_condT (by simp (disch := omega) only [go_sem, h0, h1]; with_reducible rfl) (by with_reducible rfl) ?_ | refine w_condF (by simp (disch := omega) only [go_sem, h0, h1]; with_reducible rfl) (by with_reducible rfl) ?_ | fail))
  (first | refine w_fini ?_ | refine w_finiN ?_); simp (disch := omega) only [go_sem]
  rfl
end Go.Proofs.Ytbdknlejnacmgaa.Pi.W
end

section
/-
  Package lin on our machine: swept. Rows of their own.
-/
namespace Go.Proofs.Ytbdknlejnacmgaa.Pi.W
open Go Num
set_option linter.unusedVariables false
set_option linter.unusedSimpArgs false
set_option maxRecDepth 100000

theorem rng_set {α : Type} (n : Nat) (F : Nat → α) (k : Nat) (v : α) : ((List.range n).map F).set k v = (List.range n).map fun t => if t = k then v else F t := by
  apply List.ext_getElem?
  intro i
  rw [List.getElem?_set, List.getElem?_map]
  by_cases hi : i < n
  · rw [List.getElem?_range hi]
    by_cases hk : k = i
    · subst hk; simp [hi]
    · simp [hk, hi]
      intro h; exact absurd h.symm hk
  · have h1 : (List.range n)[i]? = none := List.getElem?_eq_none (by simpa using hi)
    have h2 : (if k = i then if k < (List.map F (List.range n)).length then some v else none else Option.map F (List.range n)[i]?) = none := by
      by_cases hk : k = i
      · rw [if_pos hk, if_neg (by simp; omega)]
      · rw [if_neg hk, h1]; rfl
    rw [h2]
    exact (List.getElem?_eq_none (by simpa using hi)).symm

/-- A row of its own; rows of their own; what names them. -/
def ro (c : Nat) (f : Nat → Int) : Obj := ⟨((List.range c).map f).map zc, true⟩
def RO (r c : Nat) (ρ : Nat → Nat → Int) : List Obj := (List.range r).map fun t => ro c (ρ t)
def chl (l g c r : Nat) (π : Nat → Nat) : List (List PV) := (List.range r).map fun k => [.own ⟨l, g, π k + 1⟩ 2 0 c]
theorem ro_eq (c : Nat) (f : Nat → Int) : ro c f = ⟨((List.range c).map f).map zc, true⟩ := nrfl rfl
theorem RO_len (r c : Nat) (ρ : Nat → Nat → Int) : (RO r c ρ).length = r := by simp [RO]
theorem chl_len (l g c r : Nat) (π : Nat → Nat) : (chl l g c r π).length = r := by simp [chl]
theorem RO_at (r c : Nat) (ρ : Nat → Nat → Int) {k : Nat} (h : k < r) : (RO r c ρ)[k]? = some ⟨((List.range c).map (ρ k)).map zc, true⟩ := by
  unfold RO; rw [List.getElem?_map, List.getElem?_range h]; rfl
theorem RO_set (r c : Nat) (ρ : Nat → Nat → Int) (k : Nat) (f : Nat → Int) : (RO r c ρ).set k ⟨((List.range c).map f).map zc, true⟩ = RO r c fun t => if t = k then f else ρ t := by
  unfold RO; rw [rng_set]
  congr 1; funext t
  by_cases h : t = k
  · simp only [h, if_true]; rfl
  · simp only [if_neg h]
theorem chl_at (l g c r : Nat) (π : Nat → Nat) {k : Nat} (h : k < r) : (chl l g c r π)[k]? = some [.own ⟨l, g, π k + 1⟩ 2 0 c] := by
  unfold chl; rw [List.getElem?_map, List.getElem?_range h]; rfl
theorem chl_set (l g c r : Nat) (π : Nat → Nat) (k j : Nat) : (chl l g c r π).set k [.own ⟨l, g, j + 1⟩ 2 0 c] = chl l g c r fun t => if t = k then j else π t := by
  unfold chl; rw [rng_set]
  congr 1; funext t
  by_cases h : t = k
  · simp only [h, if_true]
  · simp only [if_neg h]
theorem chl_ren (l g c r l' g' : Nat) (π : Nat → Nat) : (chl l g c r π).map (fun x => x.map (ren l g l' g')) = chl l' g' c r π := by
  unfold chl; rw [List.map_map]
  congr 1; funext k
  simp [ren]
theorem RO_ren (r c : Nat) (ρ : Nat → Nat → Int) (l g l' g' : Nat) : (RO r c ρ).map (renO l g l' g') = RO r c ρ := by
  unfold RO; rw [List.map_map]; rfl
theorem RO_pure (r c : Nat) (ρ : Nat → Nat → Int) (q : Obj → Bool) : ((RO r c ρ).all fun o => o.pure || q o) = true := by
  unfold RO; simp [List.all_map, List.all_eq_true]; intro k _; exact .inl rfl

theorem listS_own (k : Nat) (cap : List PV) (r c : Nat) (φ : Nat → Nat → Int) (hcap : ∀ h, fzl (fzv h) cap = some (cap, [])) (hc0 : cap.all pu00 = true) (hn : r ≤ 1048576)
    (hf : ∀ i, i < r → lim tab k (.int .i64 (i : Int) :: cap) none = some ⟨[.own ⟨1, 0, 0⟩ 2 0 c], [⟨((List.range c).map (φ i)).map zc, true⟩], none⟩) :
    lim tab F_lin_list_Slong_Int [.int .i64 (r : Int), .fn k cap] none = some ⟨[.own ⟨1, 0, 0⟩ 1 0 r], ⟨chl 1 0 c r fun t => t, decide (r = 0)⟩ :: RO r c φ, none⟩ := by
  refine runs_w rfl rfl ?_
  (repeat (first | refine w_seq ?_ | refine w_block ?_ | refine w_regS (by simp (disch := omega) only [go_sem]; with_reducible rfl) ?_ | refine w_reg (by simp (disch := omega) only [go_sem]; with_reducible rfl) ?_ | refine w_skipS ?_ | refine w_skipB ?_ | refine w_exitS ?_ | refine w_exitB ?_ | refine w_exitN rfl ?_ | refine w_exitL ?_ | refine w_retS ?_ | refine w_retB ?_ | refine w_retL ?_ | refine w_condT (by simp (disch := omega) only [go_sem]; with_reducible rfl) (by with_reducible rfl) ?_ | refine w_condF (by simp (disch := omega) only [go_sem]; with_reducible rfl) (by with_reducible rfl) ?_ | fail))
  refine w_loop (fun m s => ∃ i X g', i + m = r ∧ (X = [] ∨ ∃ gx, X = [⟨19, gx, false, []⟩]) ∧ s = ⟨[(1, .fn k cap), (5, .own ⟨9, 2, 0⟩ 1 0 r), (10, .int .i64 (r : Nat)), (11, .int .i64 (i : Nat))], ⟨9, 2, false, ⟨chl 9 2 c i (fun t => t) ++ (List.replicate m PV.nil0).map c1, decide (i = 0)⟩ :: RO i c φ⟩ :: X, [], g'⟩) r ?_ ?_
  · exact ⟨0, [], _, by omega, .inl rfl, rfl⟩
  · rintro m s ⟨i, X, g', h1, hX, rfl⟩
    cases m with
    | zero =>
      obtain rfl : i = r := by omega
      have q1 : osok 9 2 i ⟨9, 2, false, ⟨chl 9 2 c i (fun t => t), decide (i = 0)⟩ :: RO i c φ⟩ = true := by
        unfold osok
        simp only [List.getElem?_cons_zero, Option.map_some, Option.getD_some, List.all_cons, RO_pure, Bool.and_true, chl_len, beq_self_eq_true, Bool.true_and]
        rw [Bool.or_eq_true]
        exact .inr (by simp [chl, List.all_map, List.all_eq_true, inGroup])
      have q2 : renO 9 2 1 0 ⟨chl 9 2 c i (fun t => t), decide (i = 0)⟩ = ⟨chl 1 0 c i (fun t => t), decide (i = 0)⟩ := by
        unfold renO
        by_cases h0 : i = 0
        · subst h0; rfl
        · rw [show decide (i = 0) = false from decide_eq_false h0]
          simp only [cond_false, chl_ren]
      rcases hX with rfl | ⟨gx, rfl⟩
      all_goals
        (repeat (first | refine w_seq ?_ | refine w_block ?_ | refine w_regS (by simp (disch := omega) only [go_sem, List.replicate_zero, List.append_nil, List.map_nil]; with_reducible rfl) ?_ | refine w_reg (by simp (disch := omega) only [go_sem, List.replicate_zero, List.append_nil, List.map_nil]; with_reducible rfl) ?_ | refine w_skipS ?_ | refine w_skipB ?_ | refine w_exitS ?_ | refine w_exitB ?_ | refine w_exitN rfl ?_ | refine w_exitL ?_ | refine w_retS ?_ | refine w_retB ?_ | refine w_retL ?_ | refine w_condT (by simp (disch := omega) only [go_sem, List.replicate_zero, List.append_nil, List.map_nil]; with_reducible rfl) (by with_reducible rfl) ?_ | refine w_condF (by simp (disch := omega) only [go_sem, List.replicate_zero, List.append_nil, List.map_nil]; with_reducible rfl) (by with_reducible rfl) ?_ | fail))
        (first | refine w_fini ?_ | refine w_finiN ?_); simp (disch := omega) only [go_sem, List.replicate_zero, List.append_nil, q1, q2, RO_ren]
    | succ m =>
      have hi := hf i (by omega)
      have hl : i = (chl 9 2 c i fun t => t).length := by rw [chl_len]
      have e1 : (chl 9 2 c i (fun t => t) ++ c1 .nil0 :: (List.replicate m PV.nil0).map c1)[i]? = some (c1 .nil0) := at_done _ _ _ _ hl
      have e2 : (chl 9 2 c i (fun t => t) ++ c1 .nil0 :: (List.replicate m PV.nil0).map c1).set i [.own ⟨9, 2, i + 1⟩ 2 0 c] = chl 9 2 c (i + 1) (fun t => t) ++ (List.replicate m PV.nil0).map c1 := by
        rw [set_done _ _ _ _ _ hl]
        unfold chl
        rw [List.range_succ, List.map_append, List.append_assoc]; rfl
      have e3 : RO i c φ ++ [⟨((List.range c).map (φ i)).map zc, true⟩] = RO (i + 1) c φ := by
        unfold RO; rw [List.range_succ, List.map_append]; rfl
      have e4 := evSR_row (l := 9) (m := 19) (hlm := rfl)
      have e5 : false = decide (i + 1 = 0) := rfl
      rw [List.replicate_succ, List.map_cons]
      rcases hX with rfl | ⟨gx, rfl⟩
      all_goals
        (repeat (first | refine w_seq ?_ | refine w_block ?_ | refine w_regS (by simp (disch := omega) only [go_sem, hcap, hi, e1, e2, e3, e4, RO_len]; with_reducible rfl) ?_ | refine w_reg (by simp (disch := omega) only [go_sem, hcap, hi, e1, e2, e3, e4, RO_len]; with_reducible rfl) ?_ | refine w_skipS ?_ | refine w_skipB ?_ | refine w_exitS ?_ | refine w_exitB ?_ | refine w_exitN rfl ?_ | refine w_exitL ?_ | refine w_retS ?_ | refine w_retB ?_ | refine w_retL ?_ | refine w_condT (by simp (disch := omega) only [go_sem, hcap, hi, e1, e2, e3, e4, RO_len]; with_reducible rfl) (by with_reducible rfl) ?_ | refine w_condF (by simp (disch := omega) only [go_sem, hcap, hi, e1, e2, e3, e4, RO_len]; with_reducible rfl) (by with_reducible rfl) ?_ | fail))
        exact w_skipL ⟨m, by omega, i + 1, _, _, by omega, .inr ⟨_, rfl⟩, rfl⟩
end Go.Proofs.Ytbdknlejnacmgaa.Pi.W
end

section
/-
  Package lin on our machine: swept.
-/
namespace Go.Proofs.Ytbdknlejnacmgaa.Pi.W
open Go Num
set_option linter.unusedVariables false
set_option linter.unusedSimpArgs false
set_option maxRecDepth 100000

/-- A matrix with a list behind. -/
def aug (n : Nat) (φ : Nat → Nat → Int) (b : Nat → Int) (i j : Nat) : Int := if j < n then φ i j else b i

theorem swept11_lim (n i j : Nat) (φ : Nat → Nat → Int) (b : Nat → Int) (hi : i < n) :
    lim tab F_lin_Mat_swept_1_1 [.int .i64 (j : Int), .vptr [.int .i64 (n : Int)], .vptr [Mx n n φ], .vptr [.int .i64 (i : Int)], .vptr [Rw n b]] none = some ⟨[Z (aug n φ b i j)], [], none⟩ := by
  refine runs_w rfl rfl ?_
  unfold aug
  by_cases hj : j < n
  · rw [if_pos hj]
    (repeat (first | refine w_seq ?_ | refine w_block ?_ | refine w_regS (by simp (disch := omega) only [go_sem]; with_reducible rfl) ?_ | refine w_reg (by simp (disch := omega) only [go_sem]; with_reducible rfl) ?_ | refine w_skipS ?_ | refine w_skipB ?_ | refine w_exitS ?_ | refine w_exitB ?_ | refine w_exitN rfl ?_ | refine w_exitL ?_ | refine w_retS ?_ | refine w_retB ?_ | refine w_retL ?_ | refine w_condT (by simp (disch := omega) only [go_sem]; with_reducible rfl) (by with_reducible rfl) ?_ | refine w_condF (by simp (disch := omega) only [go_sem]; with_reducible rfl) (by with_reducible rfl) ?_ | fail))
    (first | refine w_fini ?_ | refine w_finiN ?_); simp (disch := omega) only [go_sem]
  · rw [if_neg hj]
    (repeat (first | refine w_seq ?_ | refine w_block ?_ | refine w_regS (by simp (disch := omega) only [go_sem]; with_reducible rfl) ?_ | refine w_reg (by simp (disch := omega) only [go_sem]; with_reducible rfl) ?_ | refine w_skipS ?_ | refine w_skipB ?_ | refine w_exitS ?_ | refine w_exitB ?_ | refine w_exitN rfl ?_ | refine w_exitL ?_ | refine w_retS ?_ | refine w_retB ?_ | refine w_retL ?_ | refine w_condT (by simp (disch := omega) only [go_sem]; with_reducible rfl) (by with_reducible rfl) ?_ | refine w_condF (by simp (disch := omega) only [go_sem]; with_reducible rfl) (by with_reducible rfl) ?_ | fail))
    (first | refine w_fini ?_ | refine w_finiN ?_); simp (disch := omega) only [go_sem]
theorem swept1_lim (n i : Nat) (φ : Nat → Nat → Int) (b : Nat → Int) (hi : i < n) (hn : n ≤ 1048575) :
    lim tab F_lin_Mat_swept_1 [.int .i64 (i : Int), .vptr [.int .i64 (n : Int)], .vptr [Mx n n φ], .vptr [Rw n b]] none = some ⟨[.own ⟨1, 0, 0⟩ 2 0 (n + 1)], [⟨((List.range (n + 1)).map (aug n φ b i)).map zc, true⟩], none⟩ := by
  refine runs_w rfl rfl ?_
  have h1 := list_lim F_lin_Mat_swept_1_1 [.vptr [.int .i64 (n : Int)], .vptr [Mx n n φ], .vptr [.int .i64 (i : Int)], .vptr [Rw n b]] (aug n φ b i) (n + 1) (fun h => rfl) rfl (by omega) fun j hj => swept11_lim n i j φ b hi
  (repeat (first | refine w_seq ?_ | refine w_block ?_ | refine w_regS (by simp (disch := omega) only [go_sem, h1]; with_reducible rfl) ?_ | refine w_reg (by simp (disch := omega) only [go_sem, h1]; with_reducible rfl) ?_ | refine w_skipS ?_ | refine w_skipB ?_ | refine w_exitS ?_ | refine w_exitB ?_ | refine w_exitN rfl ?_ | refine w_exitL ?_ | refine w_retS ?_ | refine w_retB ?_ | refine w_retL ?_ | refine w_condT (by simp (disch := omega) only [go_sem, h1]; with_reducible rfl) (by with_reducible rfl) ?_ | refine w_condF (by simp (disch := omega) only [go_sem, h1]; with_reducible rfl) (by with_reducible rfl) ?_ | fail))
  (first | refine w_fini ?_ | refine w_finiN ?_); simp (disch := omega) only [go_sem, List.length_range]

/-- Which object holds which row. -/
def PiOk (n : Nat) (π : Nat → Nat) : Prop := (∀ i, i < n → π i < n) ∧ ∀ i j, i < n → j < n → π i = π j → i = j

theorem sz_fdiv (x y : Int) (hy : y ≠ 0) : sz (x.fdiv y) ≤ sz x := by
  have h : (x.fdiv y).natAbs ≤ x.natAbs := Int.natAbs_fdiv_le_natAbs x y
  exact dig_len_mono (by omega) h

theorem renO_chl (l g c r l' g' : Nat) (π : Nat → Nat) : renO l g l' g' ⟨chl l g c r π, false⟩ = ⟨chl l' g' c r π, false⟩ := by
  simp only [renO, cond_false, chl_ren]

/-- A row is swept. -/
theorem swept_j (n k i S : Nat) (π : Nat → Nat) (ρ0 : Nat → Nat → Int) (piv f last : Int) (odd : Bool) (gp gf g : Nat) (Q : PEx → St → Prop) (hn : n ≤ 12) (hi : i < n) (hk : k < n) (hik : i ≠ k) (hπ : PiOk n π) (hS : S ≤ 137438953472)
    (h0i : ∀ s, s < n + 1 → sz (ρ0 (π i) s) ≤ S) (h0k : ∀ s, s < n + 1 → sz (ρ0 (π k) s) ≤ S) (hp : sz piv ≤ S) (hf : sz f ≤ S) (hl0 : last ≠ 0) (hl : sz last ≤ S)
    (hQ : ∀ ρ g', (∀ t, t < n → ∀ s, s < n + 1 → ρ t s = if t = π i then (piv * ρ0 (π i) s - f * ρ0 (π k) s).fdiv last else ρ0 t s) →
      Wp tab .skip ⟨[(4, .own ⟨20, 3, 0⟩ 1 0 n), (5, .bool odd), (7, .optr ⟨8, 2, 0⟩ 0 0), (8, .optr ⟨9, 4, 0⟩ 0 0), (9, .int .i64 (k : Nat)), (11, .optr ⟨12, gp, 0⟩ 0 0), (12, .int .i64 (i : Nat)), (13, .optr ⟨14, gf, 0⟩ 0 0), (21, .int .i64 (n : Nat)), (22, .int .i64 (k : Nat)), (71, .int .i64 (n : Nat)), (72, .int .i64 (i : Nat)), (89, .int .i64 ((n + 1 : Nat) : Int)), (90, .int .i64 ((n + 1 : Nat) : Int)), (91, .bool false)], [⟨8, 2, true, [⟨[[.int .i64 (n : Nat)]], true⟩]⟩, ⟨9, 4, false, [⟨[zc last], true⟩]⟩, ⟨12, gp, false, [⟨[zc piv], true⟩]⟩, ⟨14, gf, false, [⟨[zc f], true⟩]⟩, ⟨20, 3, false, ⟨chl 20 3 (n + 1) n π, false⟩ :: RO n (n + 1) ρ⟩], [], g'⟩ Q) :
    Wp tab (.loop B_lin_Mat_swept_3) ⟨[(4, .own ⟨20, 3, 0⟩ 1 0 n), (5, .bool odd), (7, .optr ⟨8, 2, 0⟩ 0 0), (8, .optr ⟨9, 4, 0⟩ 0 0), (9, .int .i64 (k : Nat)), (11, .optr ⟨12, gp, 0⟩ 0 0), (12, .int .i64 (i : Nat)), (13, .optr ⟨14, gf, 0⟩ 0 0), (21, .int .i64 (n : Nat)), (22, .int .i64 (k : Nat)), (71, .int .i64 (n : Nat)), (72, .int .i64 (i : Nat)), (89, .int .i64 ((n + 1 : Nat) : Int)), (90, .int .i64 0)], [⟨8, 2, true, [⟨[[.int .i64 (n : Nat)]], true⟩]⟩, ⟨9, 4, false, [⟨[zc last], true⟩]⟩, ⟨12, gp, false, [⟨[zc piv], true⟩]⟩, ⟨14, gf, false, [⟨[zc f], true⟩]⟩, ⟨20, 3, false, ⟨chl 20 3 (n + 1) n π, false⟩ :: RO n (n + 1) ρ0⟩], [], g⟩ (kB 6 Q) := by
  have pi := hπ.1 i hi
  have pk := hπ.1 k hk
  have pik : π k ≠ π i := fun h => hik (hπ.2 i k hi hk h.symm)
  refine w_loop (fun m s => ∃ j ρ g', j + m = n + 1 ∧ (∀ t, t < n → ∀ s, s < n + 1 → ρ t s = if t = π i ∧ s < j then (piv * ρ0 (π i) s - f * ρ0 (π k) s).fdiv last else ρ0 t s) ∧ s = ⟨[(4, .own ⟨20, 3, 0⟩ 1 0 n), (5, .bool odd), (7, .optr ⟨8, 2, 0⟩ 0 0), (8, .optr ⟨9, 4, 0⟩ 0 0), (9, .int .i64 (k : Nat)), (11, .optr ⟨12, gp, 0⟩ 0 0), (12, .int .i64 (i : Nat)), (13, .optr ⟨14, gf, 0⟩ 0 0), (21, .int .i64 (n : Nat)), (22, .int .i64 (k : Nat)), (71, .int .i64 (n : Nat)), (72, .int .i64 (i : Nat)), (89, .int .i64 ((n + 1 : Nat) : Int)), (90, .int .i64 (j : Nat))], [⟨8, 2, true, [⟨[[.int .i64 (n : Nat)]], true⟩]⟩, ⟨9, 4, false, [⟨[zc last], true⟩]⟩, ⟨12, gp, false, [⟨[zc piv], true⟩]⟩, ⟨14, gf, false, [⟨[zc f], true⟩]⟩, ⟨20, 3, false, ⟨chl 20 3 (n + 1) n π, false⟩ :: RO n (n + 1) ρ⟩], [], g'⟩) (n + 1) ?_ ?_
  · exact ⟨0, ρ0, _, by omega, fun t ht s hs => by simp, rfl⟩
  · rintro m s ⟨j, ρ, g', h1, h2, rfl⟩
    by_cases hj : j < n + 1
    · have e1 : ρ (π i) j = ρ0 (π i) j := by rw [h2 _ pi _ hj, if_neg (by omega)]
      have e2 : ρ (π k) j = ρ0 (π k) j := by rw [h2 _ pk _ hj, if_neg (by omega)]
      have s1 := h0i _ hj
      have s2 := h0k _ hj
      have s3 := sz_mul piv (ρ0 (π i) j)
      have s4 := sz_mul f (ρ0 (π k) j)
      have s5 := sz_sub (piv * ρ0 (π i) j) (f * ρ0 (π k) j)
      (repeat (first | refine w_seq ?_ | refine w_block ?_ | refine w_regS (by simp (disch := omega) only [go_sem, chl_at, RO_at, List.getElem?_cons_succ, List.getElem?_range, e1, e2, hl0, rng_set, RO_set]; with_reducible rfl) ?_ | refine w_reg (by simp (disch := omega) only [go_sem, chl_at, RO_at, List.getElem?_cons_succ, List.getElem?_range, e1, e2, hl0, rng_set, RO_set]; with_reducible rfl) ?_ | refine w_skipS ?_ | refine w_skipB ?_ | refine w_exitS ?_ | refine w_exitB ?_ | refine w_exitN rfl ?_ | refine w_exitL ?_ | refine w_retS ?_ | refine w_retB ?_ | refine w_retL ?_ | refine w_condT (by simp (disch := omega) only [go_sem, chl_at, RO_at, List.getElem?_cons_succ, List.getElem?_range, e1, e2, hl0, rng_set, RO_set]; with_reducible rfl) (by with_reducible rfl) ?_ | refine w_condF (by simp (disch := omega) only [go_sem, chl_at, RO_at, List.getElem?_cons_succ, List.getElem?_range, e1, e2, hl0, rng_set, RO_set]; with_reducible rfl) (by with_reducible rfl) ?_ | fail))
      refine w_skipL ⟨m - 1, by omega, j + 1, _, _, by omega, fun t ht s hs => ?_, rfl⟩
      by_cases q1 : t = π i
      · subst q1
        by_cases q2 : s = j
        · subst q2
          simp
        · rw [if_pos rfl, if_neg q2, h2 _ pi _ hs]
          by_cases q3 : s < j
          · rw [if_pos ⟨rfl, q3⟩, if_pos ⟨rfl, by omega⟩]
          · rw [if_neg (by omega), if_neg (by omega)]
      · rw [if_neg q1, h2 _ ht _ hs, if_neg (fun h => q1 h.1), if_neg (fun h => q1 h.1)]
    · obtain rfl : j = n + 1 := by omega
      (repeat (first | refine w_seq ?_ | refine w_block ?_ | refine w_regS (by simp (disch := omega) only [go_sem]; with_reducible rfl) ?_ | refine w_reg (by simp (disch := omega) only [go_sem]; with_reducible rfl) ?_ | refine w_skipS ?_ | refine w_skipB ?_ | refine w_exitS ?_ | refine w_exitB ?_ | refine w_exitN rfl ?_ | refine w_exitL ?_ | refine w_retS ?_ | refine w_retB ?_ | refine w_retL ?_ | refine w_condT (by simp (disch := omega) only [go_sem]; with_reducible rfl) (by with_reducible rfl) ?_ | refine w_condF (by simp (disch := omega) only [go_sem]; with_reducible rfl) (by with_reducible rfl) ?_ | fail))
      exact hQ ρ _ fun t ht s hs => by
        rw [h2 t ht s hs]
        by_cases q1 : t = π i
        · rw [if_pos ⟨q1, hs⟩, if_pos q1]
        · rw [if_neg (fun h => q1 h.1), if_neg q1]

section
attribute [local irreducible] B_lin_Mat_swept_3
/-- All rows but one are swept. -/
theorem swept_i (n k S : Nat) (π : Nat → Nat) (ρ0 : Nat → Nat → Int) (piv last : Int) (odd : Bool) (gp g : Nat) (Q : PEx → St → Prop) (hn : n ≤ 12) (hk : k < n) (hπ : PiOk n π) (hS : S ≤ 137438953472)
    (h0 : ∀ i, i < n → ∀ s, s < n + 1 → sz (ρ0 (π i) s) ≤ S) (hp : sz piv ≤ S) (hl0 : last ≠ 0) (hl : sz last ≤ S)
    (hQ : ∀ ρ g', (∀ i, i < n → ∀ s, s < n + 1 → ρ (π i) s = if i = k then ρ0 (π k) s else (piv * ρ0 (π i) s - ρ0 (π i) k * ρ0 (π k) s).fdiv last) →
      Wp tab .skip ⟨[(4, .own ⟨20, 3, 0⟩ 1 0 n), (5, .bool odd), (7, .optr ⟨8, 2, 0⟩ 0 0), (8, .optr ⟨9, 4, 0⟩ 0 0), (9, .int .i64 (k : Nat)), (11, .optr ⟨12, gp, 0⟩ 0 0), (21, .int .i64 (n : Nat)), (22, .int .i64 (k : Nat)), (71, .int .i64 (n : Nat)), (72, .int .i64 (n : Nat)), (73, .bool false)], [⟨8, 2, true, [⟨[[.int .i64 (n : Nat)]], true⟩]⟩, ⟨9, 4, false, [⟨[zc last], true⟩]⟩, ⟨12, gp, false, [⟨[zc piv], true⟩]⟩, ⟨20, 3, false, ⟨chl 20 3 (n + 1) n π, false⟩ :: RO n (n + 1) ρ⟩], [], g'⟩ Q) :
    Wp tab (.loop B_lin_Mat_swept_7) ⟨[(4, .own ⟨20, 3, 0⟩ 1 0 n), (5, .bool odd), (7, .optr ⟨8, 2, 0⟩ 0 0), (8, .optr ⟨9, 4, 0⟩ 0 0), (9, .int .i64 (k : Nat)), (11, .optr ⟨12, gp, 0⟩ 0 0), (21, .int .i64 (n : Nat)), (22, .int .i64 (k : Nat)), (71, .int .i64 (n : Nat)), (72, .int .i64 0)], [⟨8, 2, true, [⟨[[.int .i64 (n : Nat)]], true⟩]⟩, ⟨9, 4, false, [⟨[zc last], true⟩]⟩, ⟨12, gp, false, [⟨[zc piv], true⟩]⟩, ⟨20, 3, false, ⟨chl 20 3 (n + 1) n π, false⟩ :: RO n (n + 1) ρ0⟩], [], g⟩ (kB 4 Q) := by
  refine w_loop (fun m s => ∃ i ρ g', i + m = n ∧ (∀ i', i' < n → ∀ s, s < n + 1 → ρ (π i') s = if i' < i ∧ i' ≠ k then (piv * ρ0 (π i') s - ρ0 (π i') k * ρ0 (π k) s).fdiv last else ρ0 (π i') s) ∧ s = ⟨[(4, .own ⟨20, 3, 0⟩ 1 0 n), (5, .bool odd), (7, .optr ⟨8, 2, 0⟩ 0 0), (8, .optr ⟨9, 4, 0⟩ 0 0), (9, .int .i64 (k : Nat)), (11, .optr ⟨12, gp, 0⟩ 0 0), (21, .int .i64 (n : Nat)), (22, .int .i64 (k : Nat)), (71, .int .i64 (n : Nat)), (72, .int .i64 (i : Nat))], [⟨8, 2, true, [⟨[[.int .i64 (n : Nat)]], true⟩]⟩, ⟨9, 4, false, [⟨[zc last], true⟩]⟩, ⟨12, gp, false, [⟨[zc piv], true⟩]⟩, ⟨20, 3, false, ⟨chl 20 3 (n + 1) n π, false⟩ :: RO n (n + 1) ρ⟩], [], g'⟩) n ?_ ?_
  · exact ⟨0, ρ0, _, by omega, fun t ht s hs => by simp, rfl⟩
  · rintro m s ⟨i, ρ, g', h1, h2, rfl⟩
    by_cases hi : i < n
    · have pi := hπ.1 i hi
      have pk := hπ.1 k hk
      by_cases hik : i = k
      · (repeat (first | refine w_seq ?_ | refine w_block ?_ | refine w_regS (by simp (disch := omega) only [go_sem]; with_reducible rfl) ?_ | refine w_reg (by simp (disch := omega) only [go_sem]; with_reducible rfl) ?_ | refine w_skipS ?_ | refine w_skipB ?_ | refine w_exitS ?_ | refine w_exitB ?_ | refine w_exitN rfl ?_ | refine w_exitL ?_ | refine w_retS ?_ | refine w_retB ?_ | refine w_retL ?_ | refine w_condT (by simp (disch := omega) only [go_sem]; with_reducible rfl) (by with_reducible rfl) ?_ | refine w_condF (by simp (disch := omega) only [go_sem]; with_reducible rfl) (by with_reducible rfl) ?_ | fail))
        refine w_skipL ⟨m - 1, by omega, i + 1, ρ, _, by omega, fun i' hi' s hs => ?_, rfl⟩
        rw [h2 _ hi' _ hs]
        by_cases q1 : i' < i ∧ i' ≠ k
        · rw [if_pos q1, if_pos ⟨by omega, q1.2⟩]
        · rw [if_neg q1, if_neg (by omega)]
      · have e1 : ∀ s, s < n + 1 → ρ (π i) s = ρ0 (π i) s := fun s hs => by rw [h2 _ hi _ hs, if_neg (by omega)]
        have e2 : ∀ s, s < n + 1 → ρ (π k) s = ρ0 (π k) s := fun s hs => by rw [h2 _ hk _ hs, if_neg (by omega)]
        have e3 := e1 k (by omega)
        (repeat (first | refine w_seq ?_ | refine w_block ?_ | refine w_regS (by simp (disch := omega) only [go_sem, chl_at, RO_at, List.getElem?_cons_succ, List.getElem?_range, e3]; with_reducible rfl) ?_ | refine w_reg (by simp (disch := omega) only [go_sem, chl_at, RO_at, List.getElem?_cons_succ, List.getElem?_range, e3]; with_reducible rfl) ?_ | refine w_skipS ?_ | refine w_skipB ?_ | refine w_exitS ?_ | refine w_exitB ?_ | refine w_exitN rfl ?_ | refine w_exitL ?_ | refine w_retS ?_ | refine w_retB ?_ | refine w_retL ?_ | refine w_condT (by simp (disch := omega) only [go_sem, chl_at, RO_at, List.getElem?_cons_succ, List.getElem?_range, e3]; with_reducible rfl) (by with_reducible rfl) ?_ | refine w_condF (by simp (disch := omega) only [go_sem, chl_at, RO_at, List.getElem?_cons_succ, List.getElem?_range, e3]; with_reducible rfl) (by with_reducible rfl) ?_ | fail))
        refine swept_j n k i S π ρ piv (ρ0 (π i) k) last odd gp _ _ _ hn hi hk hik hπ hS (fun s hs => by rw [e1 s hs]; exact h0 i hi s hs) (fun s hs => by rw [e2 s hs]; exact h0 k hk s hs) hp (h0 i hi k (by omega)) hl0 hl fun ρ' g2 h3 => ?_
        (repeat (first | refine w_seq ?_ | refine w_block ?_ | refine w_regS (by simp (disch := omega) only [go_sem]; with_reducible rfl) ?_ | refine w_reg (by simp (disch := omega) only [go_sem]; with_reducible rfl) ?_ | refine w_skipS ?_ | refine w_skipB ?_ | refine w_exitS ?_ | refine w_exitB ?_ | refine w_exitN rfl ?_ | refine w_exitL ?_ | refine w_retS ?_ | refine w_retB ?_ | refine w_retL ?_ | refine w_condT (by simp (disch := omega) only [go_sem]; with_reducible rfl) (by with_reducible rfl) ?_ | refine w_condF (by simp (disch := omega) only [go_sem]; with_reducible rfl) (by with_reducible rfl) ?_ | fail))
        refine w_skipL ⟨m - 1, by omega, i + 1, ρ', _, by omega, fun i' hi' s hs => ?_, rfl⟩
        rw [h3 _ (hπ.1 i' hi') s hs, h2 _ hi' _ hs]
        by_cases q1 : i' = i
        · subst q1
          rw [if_pos rfl, if_pos ⟨by omega, hik⟩, e1 s hs, e2 s hs]
        · rw [if_neg (fun h => q1 (hπ.2 _ _ hi' hi h))]
          by_cases q2 : i' < i ∧ i' ≠ k
          · rw [if_pos q2, if_pos ⟨by omega, q2.2⟩]
          · rw [if_neg q2, if_neg (by omega)]
    · obtain rfl : i = n := by omega
      (repeat (first | refine w_seq ?_ | refine w_block ?_ | refine w_regS (by simp (disch := omega) only [go_sem]; with_reducible rfl) ?_ | refine w_reg (by simp (disch := omega) only [go_sem]; with_reducible rfl) ?_ | refine w_skipS ?_ | refine w_skipB ?_ | refine w_exitS ?_ | refine w_exitB ?_ | refine w_exitN rfl ?_ | refine w_exitL ?_ | refine w_retS ?_ | refine w_retB ?_ | refine w_retL ?_ | refine w_condT (by simp (disch := omega) only [go_sem]; with_reducible rfl) (by with_reducible rfl) ?_ | refine w_condF (by simp (disch := omega) only [go_sem]; with_reducible rfl) (by with_reducible rfl) ?_ | fail))
      exact hQ ρ _ fun i' hi' s hs => by
        rw [h2 i' hi' s hs]
        by_cases q1 : i' = k
        · subst q1; rw [if_neg (by omega), if_pos rfl]
        · rw [if_pos ⟨hi', q1⟩, if_neg q1]
end

/-- A row is looked for. -/
theorem swept_search (n k S : Nat) (π : Nat → Nat) (ρ : Nat → Nat → Int) (last : Int) (odd : Bool) (g : Nat) (Q : PEx → St → Prop) (hn : n ≤ 12) (hk : k < n) (hπ : PiOk n π)
    (hQ : ∀ p g', k ≤ p → p ≤ n → (∀ q, k ≤ q → q < p → ρ (π q) k = 0) → (p < n → ρ (π p) k ≠ 0) → Wp tab .skip ⟨[(4, .own ⟨20, 3, 0⟩ 1 0 n), (5, .bool odd), (7, .optr ⟨8, 2, 0⟩ 0 0), (8, .optr ⟨9, 4, 0⟩ 0 0), (9, .int .i64 (k : Nat)), (10, .int .i64 (p : Nat)), (21, .int .i64 (n : Nat)), (22, .int .i64 (k : Nat)), (39, .bool false)], [⟨8, 2, true, [⟨[[.int .i64 (n : Nat)]], true⟩]⟩, ⟨9, 4, false, [⟨[zc last], true⟩]⟩, ⟨20, 3, false, ⟨chl 20 3 (n + 1) n π, false⟩ :: RO n (n + 1) ρ⟩], [], g'⟩ Q) :
    Wp tab (.loop B_lin_Mat_swept_1) ⟨[(4, .own ⟨20, 3, 0⟩ 1 0 n), (5, .bool odd), (7, .optr ⟨8, 2, 0⟩ 0 0), (8, .optr ⟨9, 4, 0⟩ 0 0), (9, .int .i64 (k : Nat)), (10, .int .i64 (k : Nat)), (21, .int .i64 (n : Nat)), (22, .int .i64 (k : Nat))], [⟨8, 2, true, [⟨[[.int .i64 (n : Nat)]], true⟩]⟩, ⟨9, 4, false, [⟨[zc last], true⟩]⟩, ⟨20, 3, false, ⟨chl 20 3 (n + 1) n π, false⟩ :: RO n (n + 1) ρ⟩], [], g⟩ (kB 2 Q) := by
  refine w_loop (fun m s => ∃ p g', p + m = n ∧ k ≤ p ∧ (∀ q, k ≤ q → q < p → ρ (π q) k = 0) ∧ s = ⟨[(4, .own ⟨20, 3, 0⟩ 1 0 n), (5, .bool odd), (7, .optr ⟨8, 2, 0⟩ 0 0), (8, .optr ⟨9, 4, 0⟩ 0 0), (9, .int .i64 (k : Nat)), (10, .int .i64 (p : Nat)), (21, .int .i64 (n : Nat)), (22, .int .i64 (k : Nat))], [⟨8, 2, true, [⟨[[.int .i64 (n : Nat)]], true⟩]⟩, ⟨9, 4, false, [⟨[zc last], true⟩]⟩, ⟨20, 3, false, ⟨chl 20 3 (n + 1) n π, false⟩ :: RO n (n + 1) ρ⟩], [], g'⟩) (n - k) ?_ ?_
  · exact ⟨k, _, by omega, Nat.le_refl _, fun q h1 h2 => by omega, rfl⟩
  · rintro m s ⟨p, g', h1, h2, h3, rfl⟩
    by_cases hp : p < n
    · have pp := hπ.1 p hp
      by_cases h0 : ρ (π p) k = 0
      · (repeat (first | refine w_seq ?_ | refine w_block ?_ | refine w_regS (by simp (disch := omega) only [go_sem, chl_at, RO_at, List.getElem?_cons_succ, List.getElem?_range, h0, Int.sign_zero]; with_reducible rfl) ?_ | refine w_reg (by simp (disch := omega) only [go_sem, chl_at, RO_at, List.getElem?_cons_succ, List.getElem?_range, h0, Int.sign_zero]; with_reducible rfl) ?_ | refine w_skipS ?_ | refine w_skipB ?_ | refine w_exitS ?_ | refine w_exitB ?_ | refine w_exitN rfl ?_ | refine w_exitL ?_ | refine w_retS ?_ | refine w_retB ?_ | refine w_retL ?_ | refine w_condT (by simp (disch := omega) only [go_sem, chl_at, RO_at, List.getElem?_cons_succ, List.getElem?_range, h0, Int.sign_zero]; with_reducible rfl) (by with_reducible rfl) ?_ | refine w_condF (by simp (disch := omega) only [go_sem, chl_at, RO_at, List.getElem?_cons_succ, List.getElem?_range, h0, Int.sign_zero]; with_reducible rfl) (by with_reducible rfl) ?_ | fail))
        refine w_skipL ⟨m - 1, by omega, p + 1, _, by omega, by omega, fun q q1 q2 => ?_, rfl⟩
        by_cases q3 : q = p
        · subst q3; exact h0
        · exact h3 q q1 (by omega)
      · have h4 : (ρ (π p) k).sign ≠ 0 := fun h => h0 (Int.sign_eq_zero_iff_zero.1 h)
        (repeat (first | refine w_seq ?_ | refine w_block ?_ | refine w_regS (by simp (disch := omega) only [go_sem, chl_at, RO_at, List.getElem?_cons_succ, List.getElem?_range]; with_reducible rfl) ?_ | refine w_reg (by simp (disch := omega) only [go_sem, chl_at, RO_at, List.getElem?_cons_succ, List.getElem?_range]; with_reducible rfl) ?_ | refine w_skipS ?_ | refine w_skipB ?_ | refine w_exitS ?_ | refine w_exitB ?_ | refine w_exitN rfl ?_ | refine w_exitL ?_ | refine w_retS ?_ | refine w_retB ?_ | refine w_retL ?_ | refine w_condT (by simp (disch := omega) only [go_sem, chl_at, RO_at, List.getElem?_cons_succ, List.getElem?_range]; with_reducible rfl) (by with_reducible rfl) ?_ | refine w_condF (by simp (disch := omega) only [go_sem, chl_at, RO_at, List.getElem?_cons_succ, List.getElem?_range]; with_reducible rfl) (by with_reducible rfl) ?_ | fail))
        exact hQ p _ h2 (by omega) h3 fun _ => h0
    · obtain rfl : p = n := by omega
      (repeat (first | refine w_seq ?_ | refine w_block ?_ | refine w_regS (by simp (disch := omega) only [go_sem]; with_reducible rfl) ?_ | refine w_reg (by simp (disch := omega) only [go_sem]; with_reducible rfl) ?_ | refine w_skipS ?_ | refine w_skipB ?_ | refine w_exitS ?_ | refine w_exitB ?_ | refine w_exitN rfl ?_ | refine w_exitL ?_ | refine w_retS ?_ | refine w_retB ?_ | refine w_retL ?_ | refine w_condT (by simp (disch := omega) only [go_sem]; with_reducible rfl) (by with_reducible rfl) ?_ | refine w_condF (by simp (disch := omega) only [go_sem]; with_reducible rfl) (by with_reducible rfl) ?_ | fail))
      exact hQ p _ h2 (by omega) h3 fun h => absurd h (by omega)

theorem SW_size {n : Nat} {M0 : Nat → Nat → Int} {S : Nat} (h0 : ∀ i, i < n → ∀ j, j < n + 1 → sz (M0 i j) ≤ S) (hS : 1 ≤ S) {k : Nat} {M : Nat → Nat → Int} {odd : Bool} {last : Int} (h : SW n M0 k M odd last) :
    (∀ i, i < n → ∀ j, j < n + 1 → sz (M i j) ≤ (S + 1) * 2 ^ k - 1) ∧ sz last ≤ (S + 1) * 2 ^ k - 1 := by
  induction h with
  | init => exact ⟨fun i hi j hj => by have := h0 i hi j hj; omega, by have := sz_i64 (x := 1) (by omega) (by omega); have : sz 1 ≤ 1 := sz_lt (by decide); omega⟩
  | @step k M odd last p h1 h2 h3 h4 h5 h6 ih =>
    obtain ⟨ih1, ih2⟩ := ih
    have sw : ∀ i, i < n → ∀ j, j < n + 1 → sz (swapM p k M i j) ≤ (S + 1) * 2 ^ k - 1 := by
      intro i hi j hj
      unfold swapM
      split
      · exact ih1 k h2 j hj
      · split
        · exact ih1 p h4 j hj
        · exact ih1 i hi j hj
    have hpos : 0 < (S + 1) * 2 ^ k := Nat.mul_pos (by omega) (Nat.pow_pos (by omega))
    have e : (S + 1) * 2 ^ (k + 1) = 2 * ((S + 1) * 2 ^ k) := by rw [Nat.pow_succ]; ac_rfl
    rw [e]
    refine ⟨fun i hi j hj => ?_, by have := sw k h2 k (by omega); omega⟩
    unfold stepM
    split
    · have := sw k h2 j hj; omega
    · have l0 := SW.last_ne h1
      have s0 := sz_fdiv (swapM p k M k k * swapM p k M i j - swapM p k M i k * swapM p k M k j) last l0
      have s1 := sz_sub (swapM p k M k k * swapM p k M i j) (swapM p k M i k * swapM p k M k j)
      have s2 := sz_mul (swapM p k M k k) (swapM p k M i j)
      have s3 := sz_mul (swapM p k M i k) (swapM p k M k j)
      have := sw k h2 k (by omega)
      have := sw i hi j hj
      have := sw i hi k (by omega)
      have := sw k h2 j hj
      omega
end Go.Proofs.Ytbdknlejnacmgaa.Pi.W
end

section
/-
  Package lin on our machine: swept, the whole.
-/
namespace Go.Proofs.Ytbdknlejnacmgaa.Pi.W
open Go Num
set_option linter.unusedVariables false
set_option linter.unusedSimpArgs false
set_option maxRecDepth 100000

/-- Rows of their own are handed back as views. -/
theorem fzll_rows (n c : Nat) (π : Nat → Nat) (ρ : Nat → Nat → Int) (h : List Ent) (fz : Bool) (pa : Obj) (hh : efind h 20 3 = some ⟨20, 3, fz, pa :: RO n c ρ⟩) : ∀ (m : Nat), (∀ i, i < m → π i < n) → 
    ∃ zs, fzll (fz0 h) ((List.range m).map fun k => [.own ⟨20, 3, π k + 1⟩ 2 0 c]) = some (((List.range m).map fun i => Rw c (ρ (π i))).map c1, zs) := by
  have one : ∀ k, π k < n → fzl (fz0 h) [.own ⟨20, 3, π k + 1⟩ 2 0 c] = some ([Rw c (ρ (π k))], [(20, 3)]) := by
    intro k hk
    have e1 : fz0 h (.own ⟨20, 3, π k + 1⟩ 2 0 c) = some (Rw c (ρ (π k)), [(20, 3)]) := by
      simp only [fz0, pu0, cond_false, rel0, hobj, hh, Option.bind_some, List.getElem?_cons_succ, RO_at n c ρ hk]
      simp only [show ((20 : Nat) == 0) = false from rfl, cond_false, Option.bind_some, Bool.true_and, Nat.zero_add, List.length_map, List.length_range, Nat.le_refl, decide_true, cond_true, List.drop_zero]
      rw [← List.map_take, take_rng]
      rfl
    simp only [fzl, e1, Option.bind_some]
    rfl
  have app : ∀ (l : List (List PV)) (x : List PV) a za b zb, fzll (fz0 h) l = some (a, za) → fzl (fz0 h) x = some (b, zb) → fzll (fz0 h) (l ++ [x]) = some (a ++ [b], za ++ zb) := by
    intro l x
    induction l with
    | nil =>
      intro a za b zb h1 h2
      cases h1
      simp only [List.nil_append, fzll, h2, Option.bind_some, List.append_nil]
    | cons y l ih =>
      intro a za b zb h1 h2
      simp only [fzll] at h1
      obtain ⟨p, h3, h4⟩ := Option.bind_eq_some_iff.1 h1
      obtain ⟨q, h5, h6⟩ := Option.bind_eq_some_iff.1 h4
      cases h6
      simp only [List.cons_append, fzll, h3, Option.bind_some, ih _ _ _ _ h5 h2, List.append_assoc]
  intro m
  induction m with
  | zero => intro _; exact ⟨[], rfl⟩
  | succ m ih =>
    intro hm
    obtain ⟨zs, e⟩ := ih fun i hi => hm i (by omega)
    refine ⟨zs ++ [(20, 3)], ?_⟩
    rw [List.range_succ, List.map_append, List.map_append, List.map_append]
    exact app _ _ _ _ _ _ e (one m (hm m (by omega)))

/-- What swept does. -/
def SweptOk (n : Nat) (M0 : Nat → Nat → Int) (r : Ret) : Prop :=
  (∃ M odd last, SW n M0 n M odd last ∧ r = ⟨[Mx n (n + 1) M, .bool odd, .bool true], [], none⟩) ∨
  (∃ k M odd last, SW n M0 k M odd last ∧ k < n ∧ (∀ q, k ≤ q → q < n → M q k = 0) ∧ r = ⟨[.view [], .bool false, .bool false], [], none⟩)

section
attribute [local irreducible] B_lin_Mat_swept_7 B_lin_Mat_swept_1
theorem swept_loop (n S : Nat) (M0 : Nat → Nat → Int) (hn : n ≤ 12) (h0 : n ≠ 0) (hS : S ≤ 33554430) (h1S : 1 ≤ S) (hsz : ∀ i, i < n → ∀ j, j < n + 1 → sz (M0 i j) ≤ S) (g : Nat) :
    Wp tab (.loop B_lin_Mat_swept_14) ⟨[(4, .own ⟨20, 3, 0⟩ 1 0 n), (5, .bool false), (7, .optr ⟨8, 2, 0⟩ 0 0), (8, .optr ⟨9, 4, 0⟩ 0 0), (21, .int .i64 (n : Nat)), (22, .int .i64 0)], [⟨8, 2, true, [⟨[[.int .i64 (n : Nat)]], true⟩]⟩, ⟨9, 4, false, [⟨[zc 1], true⟩]⟩, ⟨20, 3, false, ⟨chl 20 3 (n + 1) n (fun t => t), false⟩ :: RO n (n + 1) M0⟩], [], g⟩ (kB 0 (kS tab T_lin_Mat_swept_15 (kE [.tmp 4, .tmp 5, .tmp 6] false none (SweptOk n M0)))) := by
  refine w_loop (fun m s => ∃ k π ρ M odd last g', k + m = n ∧ PiOk n π ∧ SW n M0 k M odd last ∧ (∀ i, i < n → ∀ j, j < n + 1 → ρ (π i) j = M i j) ∧ s = ⟨[(4, .own ⟨20, 3, 0⟩ 1 0 n), (5, .bool odd), (7, .optr ⟨8, 2, 0⟩ 0 0), (8, .optr ⟨9, 4, 0⟩ 0 0), (21, .int .i64 (n : Nat)), (22, .int .i64 (k : Nat))], [⟨8, 2, true, [⟨[[.int .i64 (n : Nat)]], true⟩]⟩, ⟨9, 4, false, [⟨[zc last], true⟩]⟩, ⟨20, 3, false, ⟨chl 20 3 (n + 1) n π, false⟩ :: RO n (n + 1) ρ⟩], [], g'⟩) n ?_ ?_
  · exact ⟨0, fun t => t, M0, M0, false, 1, _, by omega, ⟨fun i hi => hi, fun i j _ _ h => h⟩, .init, fun i _ j _ => rfl, rfl⟩
  · rintro m s ⟨k, π, ρ, M, odd, last, g', h1, hπ, hsw, hρ, rfl⟩
    have hl0 := hsw.last_ne
    obtain ⟨hz1, hz2⟩ := SW_size hsz h1S hsw
    have hpow : (S + 1) * 2 ^ k ≤ (S + 1) * 4096 := Nat.mul_le_mul_left _ (Nat.pow_le_pow_right (n := 2) (j := 12) (by omega) (by omega))
    have hB : (S + 1) * 2 ^ k - 1 ≤ 137438953472 := by omega
    generalize (S + 1) * 2 ^ k - 1 = SS at *
    by_cases hk : k < n
    · (repeat (first | refine w_seq ?_ | refine w_block ?_ | refine w_regS (by simp (disch := omega) only [go_sem]; with_reducible rfl) ?_ | refine w_reg (by simp (disch := omega) only [go_sem]; with_reducible rfl) ?_ | refine w_skipS ?_ | refine w_skipB ?_ | refine w_exitS ?_ | refine w_exitB ?_ | refine w_exitN rfl ?_ | refine w_exitL ?_ | refine w_retS ?_ | refine w_retB ?_ | refine w_retL ?_ | refine w_condT (by simp (disch := omega) only [go_sem]; with_reducible rfl) (by with_reducible rfl) ?_ | refine w_condF (by simp (disch := omega) only [go_sem]; with_reducible rfl) (by with_reducible rfl) ?_ | fail))
      refine swept_search n k SS π ρ last odd _ _ hn hk hπ fun p g2 q1 q2 q3 q4 => ?_
      have q3' : ∀ q, k ≤ q → q < p → M q k = 0 := fun q a b => by rw [← hρ q (by omega) k (by omega)]; exact q3 q a b
      by_cases hp : p = n
      · subst hp
        (repeat (first | refine w_seq ?_ | refine w_block ?_ | refine w_regS (by simp (disch := omega) only [go_sem]; with_reducible rfl) ?_ | refine w_reg (by simp (disch := omega) only [go_sem]; with_reducible rfl) ?_ | refine w_skipS ?_ | refine w_skipB ?_ | refine w_exitS ?_ | refine w_exitB ?_ | refine w_exitN rfl ?_ | refine w_exitL ?_ | refine w_retS ?_ | refine w_retB ?_ | refine w_retL ?_ | refine w_condT (by simp (disch := omega) only [go_sem]; with_reducible rfl) (by with_reducible rfl) ?_ | refine w_condF (by simp (disch := omega) only [go_sem]; with_reducible rfl) (by with_reducible rfl) ?_ | fail))
        refine w_exi (by simp (disch := omega) only [go_sem, List.take_nil]; with_reducible rfl) ?_
        exact .inr ⟨k, M, odd, last, hsw, hk, q3', rfl⟩
      · have q4' : M p k ≠ 0 := by rw [← hρ p (by omega) k (by omega)]; exact q4 (by omega)
        have hsw' := SW.step p hsw hk q1 (by omega) q3' q4'
        by_cases hpk : p = k
        · subst hpk
          have hsM : swapM p p M = M := by funext i j; unfold swapM; split <;> simp_all
          rw [hsM, if_pos rfl] at hsw'
          have pk := hπ.1 p hk
          have e1 := hρ p hk p (by omega)
          (repeat (first | refine w_seq ?_ | refine w_block ?_ | refine w_regS (by simp (disch := omega) only [go_sem, chl_at, RO_at, List.getElem?_cons_succ, List.getElem?_range, e1]; with_reducible rfl) ?_ | refine w_reg (by simp (disch := omega) only [go_sem, chl_at, RO_at, List.getElem?_cons_succ, List.getElem?_range, e1]; with_reducible rfl) ?_ | refine w_skipS ?_ | refine w_skipB ?_ | refine w_exitS ?_ | refine w_exitB ?_ | refine w_exitN rfl ?_ | refine w_exitL ?_ | refine w_retS ?_ | refine w_retB ?_ | refine w_retL ?_ | refine w_condT (by simp (disch := omega) only [go_sem, chl_at, RO_at, List.getElem?_cons_succ, List.getElem?_range, e1]; with_reducible rfl) (by with_reducible rfl) ?_ | refine w_condF (by simp (disch := omega) only [go_sem, chl_at, RO_at, List.getElem?_cons_succ, List.getElem?_range, e1]; with_reducible rfl) (by with_reducible rfl) ?_ | fail))
          refine swept_i n p SS π ρ (M p p) last odd _ _ _ hn hk hπ hB (fun i hi j hj => by rw [hρ i hi j hj]; exact hz1 i hi j hj) (hz1 p hk p (by omega)) hl0 hz2 fun ρ' g3 h3 => ?_
          (repeat (first | refine w_seq ?_ | refine w_block ?_ | refine w_regS (by simp (disch := omega) only [go_sem]; with_reducible rfl) ?_ | refine w_reg (by simp (disch := omega) only [go_sem]; with_reducible rfl) ?_ | refine w_skipS ?_ | refine w_skipB ?_ | refine w_exitS ?_ | refine w_exitB ?_ | refine w_exitN rfl ?_ | refine w_exitL ?_ | refine w_retS ?_ | refine w_retB ?_ | refine w_retL ?_ | refine w_condT (by simp (disch := omega) only [go_sem]; with_reducible rfl) (by with_reducible rfl) ?_ | refine w_condF (by simp (disch := omega) only [go_sem]; with_reducible rfl) (by with_reducible rfl) ?_ | fail))
          refine w_skipL ⟨m - 1, by omega, p + 1, π, ρ', _, odd, M p p, _, by omega, hπ, hsw', fun i hi j hj => ?_, rfl⟩
          rw [h3 i hi j hj]
          unfold stepM
          rw [hρ p hk j hj, hρ i hi j hj, hρ i hi p (by omega)]
        · rw [if_neg hpk] at hsw'
          have pk := hπ.1 k hk
          have pp := hπ.1 p (by omega)
          have hπ' : PiOk n fun t => if t = k then π p else if t = p then π k else π t := by
            refine ⟨fun i hi => ?_, fun i j hi hj h => ?_⟩
            · dsimp only; split
              · exact pp
              · split
                · exact pk
                · exact hπ.1 i hi
            · dsimp only at h
              have key : ∀ t, (if t = k then π p else if t = p then π k else π t) = π (if t = k then p else if t = p then k else t) := by
                intro t
                split
                · rfl
                · split <;> rfl
              rw [key, key] at h
              have := hπ.2 _ _ (by split <;> first | omega | (split <;> omega)) (by split <;> first | omega | (split <;> omega)) h
              by_cases i1 : i = k <;> by_cases i2 : i = p <;> by_cases j1 : j = k <;> by_cases j2 : j = p <;> simp only [i1, i2, j1, j2, if_true, if_false] at this ⊢ <;> first | omega | (split at this <;> omega)
          have hρ' : ∀ i, i < n → ∀ j, j < n + 1 → ρ ((fun t => if t = k then π p else if t = p then π k else π t) i) j = swapM p k M i j := by
            intro i hi j hj
            dsimp only; unfold swapM
            by_cases i1 : i = k
            · rw [if_pos i1, if_neg (by omega), if_pos i1]; exact hρ p (by omega) j hj
            · rw [if_neg i1]
              by_cases i2 : i = p
              · rw [if_pos i2, if_pos i2]; exact hρ k hk j hj
              · rw [if_neg i2, if_neg i2, if_neg i1]; exact hρ i hi j hj
          have hzs : ∀ i, i < n → ∀ j, j < n + 1 → sz (swapM p k M i j) ≤ SS := by
            intro i hi j hj
            unfold swapM
            split
            · exact hz1 k hk j hj
            · split
              · exact hz1 p (by omega) j hj
              · exact hz1 i hi j hj
          have ckk : (fun t => if t = k then π p else if t = p then π k else π t) k < n := hπ'.1 k hk
          have e1 := hρ' k hk k (by omega)
          generalize hπe : (fun t => if t = k then π p else if t = p then π k else π t) = π' at *
          have hc1 : ∀ l, chl 20 3 l n (fun t => if t = k then π p else if t = p then π k else π t) = chl 20 3 l n π' := fun l => by rw [hπe]
          have hpk' : ¬ ((p : Nat) : Int) = (k : Nat) := by omega
          (repeat (first | refine w_seq ?_ | refine w_block ?_ | refine w_regS (by simp (disch := omega) only [go_sem, chl_at, chl_set, hc1, RO_at, List.getElem?_cons_succ, List.getElem?_range, e1]; with_reducible rfl) ?_ | refine w_reg (by simp (disch := omega) only [go_sem, chl_at, chl_set, hc1, RO_at, List.getElem?_cons_succ, List.getElem?_range, e1]; with_reducible rfl) ?_ | refine w_skipS ?_ | refine w_skipB ?_ | refine w_exitS ?_ | refine w_exitB ?_ | refine w_exitN rfl ?_ | refine w_exitL ?_ | refine w_retS ?_ | refine w_retB ?_ | refine w_retL ?_ | refine w_condT (by simp (disch := omega) only [go_sem, chl_at, chl_set, hc1, RO_at, List.getElem?_cons_succ, List.getElem?_range, e1]; with_reducible rfl) (by with_reducible rfl) ?_ | refine w_condF (by simp (disch := omega) only [go_sem, chl_at, chl_set, hc1, RO_at, List.getElem?_cons_succ, List.getElem?_range, e1]; with_reducible rfl) (by with_reducible rfl) ?_ | fail))
          refine swept_i n k SS π' ρ (swapM p k M k k) last (!odd) _ _ _ hn hk hπ' hB (fun i hi j hj => by rw [hρ' i hi j hj]; exact hzs i hi j hj) (hzs k hk k (by omega)) hl0 hz2 fun ρ' g3 h3 => ?_
          (repeat (first | refine w_seq ?_ | refine w_block ?_ | refine w_regS (by simp (disch := omega) only [go_sem]; with_reducible rfl) ?_ | refine w_reg (by simp (disch := omega) only [go_sem]; with_reducible rfl) ?_ | refine w_skipS ?_ | refine w_skipB ?_ | refine w_exitS ?_ | refine w_exitB ?_ | refine w_exitN rfl ?_ | refine w_exitL ?_ | refine w_retS ?_ | refine w_retB ?_ | refine w_retL ?_ | refine w_condT (by simp (disch := omega) only [go_sem]; with_reducible rfl) (by with_reducible rfl) ?_ | refine w_condF (by simp (disch := omega) only [go_sem]; with_reducible rfl) (by with_reducible rfl) ?_ | fail))
          refine w_skipL ⟨m - 1, by omega, k + 1, π', ρ', _, !odd, swapM p k M k k, _, by omega, hπ', hsw', fun i hi j hj => ?_, rfl⟩
          rw [h3 i hi j hj]
          unfold stepM
          rw [hρ' k hk j hj, hρ' i hi j hj, hρ' i hi k (by omega)]
    · obtain rfl : k = n := by omega
      obtain ⟨zs, e1⟩ := fzll_rows k (k + 1) π ρ [⟨20, 3, false, ⟨chl 20 3 (k + 1) k π, false⟩ :: RO k (k + 1) ρ⟩] false ⟨chl 20 3 (k + 1) k π, false⟩ rfl k hπ.1
      have e2 : (chl 20 3 (k + 1) k π).take k = chl 20 3 (k + 1) k π := List.take_of_length_le (by rw [chl_len]; omega)
      have e3 : fzll (fz0 [⟨20, 3, false, ⟨chl 20 3 (k + 1) k π, false⟩ :: RO k (k + 1) ρ⟩]) (chl 20 3 (k + 1) k π) = _ := e1
      (repeat (first | refine w_seq ?_ | refine w_block ?_ | refine w_regS (by simp (disch := omega) only [go_sem]; with_reducible rfl) ?_ | refine w_reg (by simp (disch := omega) only [go_sem]; with_reducible rfl) ?_ | refine w_skipS ?_ | refine w_skipB ?_ | refine w_exitS ?_ | refine w_exitB ?_ | refine w_exitN rfl ?_ | refine w_exitL ?_ | refine w_retS ?_ | refine w_retB ?_ | refine w_retL ?_ | refine w_condT (by simp (disch := omega) only [go_sem]; with_reducible rfl) (by with_reducible rfl) ?_ | refine w_condF (by simp (disch := omega) only [go_sem]; with_reducible rfl) (by with_reducible rfl) ?_ | fail))
      refine w_exi (by simp (disch := omega) only [go_sem, e2, e3, chl_len]; with_reducible rfl) ?_
      exact .inl ⟨M, odd, last, hsw, by rw [show Mx k (k + 1) M = Mx k (k + 1) fun i j => ρ (π i) j from Mx_congr fun i hi j hj => (hρ i hi j hj).symm]⟩
end

section
attribute [local irreducible] T_lin_Mat_swept_13
theorem swept_ex (n S : Nat) (φ : Nat → Nat → Int) (b : Nat → Int) (hn : n ≤ 12) (hS : S ≤ 33554430) (h1S : 1 ≤ S) (ha : ∀ i, i < n → ∀ j, j < n → sz (φ i j) ≤ S) (hb : ∀ i, i < n → sz (b i) ≤ S) :
    ∃ r, lim tab F_lin_Mat_swept [Mx n n φ, Rw n b] none = some r ∧ SweptOk n (aug n φ b) r := by
  refine runs_ex rfl rfl ?_
  have h1 := listS_own F_lin_Mat_swept_1 [.vptr [.int .i64 (n : Int)], .vptr [Mx n n φ], .vptr [Rw n b]] n (n + 1) (aug n φ b) (fun h => rfl) rfl (by omega) fun i hi => swept1_lim n i φ b hi (by omega)
  have hsz : ∀ i, i < n → ∀ j, j < n + 1 → sz (aug n φ b i j) ≤ S := by
    intro i hi j hj
    unfold aug
    split
    · exact ha i hi j (by omega)
    · exact hb i hi
  by_cases h0 : n = 0
  · subst h0
    have e0 : renO 1 0 20 3 ⟨chl 1 0 (0 + 1) 0 fun t => t, true⟩ = ⟨[], true⟩ := rfl
    have e1 : RO 0 (0 + 1) (aug 0 φ b) = [] := rfl
    simp only [Int.natCast_zero, decide_true] at h1
    (repeat (first | refine w_seq ?_ | refine w_block ?_ | refine w_regS (by simp (disch := omega) only [go_sem, h1, RO_ren, e0, e1, Int.natCast_zero]; with_reducible rfl) ?_ | refine w_reg (by simp (disch := omega) only [go_sem, h1, RO_ren, e0, e1, Int.natCast_zero]; with_reducible rfl) ?_ | refine w_skipS ?_ | refine w_skipB ?_ | refine w_exitS ?_ | refine w_exitB ?_ | refine w_exitN rfl ?_ | refine w_exitL ?_ | refine w_retS ?_ | refine w_retB ?_ | refine w_retL ?_ | refine w_condT (by simp (disch := omega) only [go_sem, h1, RO_ren, e0, e1, Int.natCast_zero]; with_reducible rfl) (by with_reducible rfl) ?_ | refine w_condF (by simp (disch := omega) only [go_sem, h1, RO_ren, e0, e1, Int.natCast_zero]; with_reducible rfl) (by with_reducible rfl) ?_ | fail))
    refine w_loop (fun m s => s = _) 0 rfl ?_
    rintro m s rfl
    (repeat (first | refine w_seq ?_ | refine w_block ?_ | refine w_regS (by simp (disch := omega) only [go_sem]; with_reducible rfl) ?_ | refine w_reg (by simp (disch := omega) only [go_sem]; with_reducible rfl) ?_ | refine w_skipS ?_ | refine w_skipB ?_ | refine w_exitS ?_ | refine w_exitB ?_ | refine w_exitN rfl ?_ | refine w_exitL ?_ | refine w_retS ?_ | refine w_retB ?_ | refine w_retL ?_ | refine w_condT (by simp (disch := omega) only [go_sem]; with_reducible rfl) (by with_reducible rfl) ?_ | refine w_condF (by simp (disch := omega) only [go_sem]; with_reducible rfl) (by with_reducible rfl) ?_ | fail))
    refine w_exi (by simp (disch := omega) only [go_sem, List.take_nil, List.drop_nil]; with_reducible rfl) ?_
    exact .inl ⟨_, _, _, .init, rfl⟩
  · (repeat (first | refine w_seq ?_ | refine w_block ?_ | refine w_regS (by simp (disch := omega) only [go_sem, h1, RO_ren, renO_chl]; with_reducible rfl) ?_ | refine w_reg (by simp (disch := omega) only [go_sem, h1, RO_ren, renO_chl]; with_reducible rfl) ?_ | refine w_skipS ?_ | refine w_skipB ?_ | refine w_exitS ?_ | refine w_exitB ?_ | refine w_exitN rfl ?_ | refine w_exitL ?_ | refine w_retS ?_ | refine w_retB ?_ | refine w_retL ?_ | refine w_condT (by simp (disch := omega) only [go_sem, h1, RO_ren, renO_chl]; with_reducible rfl) (by with_reducible rfl) ?_ | refine w_condF (by simp (disch := omega) only [go_sem, h1, RO_ren, renO_chl]; with_reducible rfl) (by with_reducible rfl) ?_ | fail))
    exact swept_loop n S _ hn h0 hS h1S hsz _
end
end Go.Proofs.Ytbdknlejnacmgaa.Pi.W
end

section
/-
  Package lin on our machine: Det, Solve, Definite.
-/
namespace Go.Proofs.Ytbdknlejnacmgaa.Pi.W
open Go Num
set_option linter.unusedVariables false
set_option linter.unusedSimpArgs false
set_option maxRecDepth 100000

/-- The determinant does not hang on what stands behind. -/
theorem det_aug (n : Nat) (φ : Nat → Nat → Int) (b : Nat → Int) : det n (aug n φ b) = det n φ := det_congr fun i hi j hj => if_pos hj

theorem det_lim (n S : Nat) (φ : Nat → Nat → Int) (hn : n ≤ 12) (hS : S ≤ 33554430) (h1S : 1 ≤ S) (ha : ∀ i, i < n → ∀ j, j < n → sz (φ i j) ≤ S) :
    lim tab F_lin_Mat_Det [Mx n n φ] none = some ⟨[Z (det n φ)], [], none⟩ := by
  obtain ⟨r, h1, h2⟩ := swept_ex n S φ (fun _ => 0) hn hS h1S ha fun i hi => by rw [sz_0]; omega
  rcases h2 with ⟨M, odd, d, hsw, rfl⟩ | ⟨k, M, odd, d, hsw, hk, hz, rfl⟩
  · have hd := hsw.det
    rw [det_aug] at hd
    have hsz := SW_size (S := S) (fun i hi j hj => by unfold aug; split; exact ha i hi j (by omega); rw [sz_0]; omega) h1S hsw
    have hpow : (S + 1) * 2 ^ n ≤ (S + 1) * 4096 := Nat.mul_le_mul_left _ (Nat.pow_le_pow_right (n := 2) (j := 12) (by omega) (by omega))
    by_cases h0 : n = 0
    · subst h0
      have z0 := zeros_lim 0 (by omega)
      rw [show ((0 : Nat) : Int) = 0 from rfl] at z0
      refine runs_w rfl rfl ?_
      have v0 : PV.view [] = Rw 0 fun _ => 0 := rfl
      (repeat (first | refine w_seq ?_ | refine w_block ?_ | refine w_regS (by simp (disch := omega) only [go_sem, h1, rep_rng, z0, v0, Int.natCast_zero, List.replicate_zero, List.map_nil]; with_reducible rfl) ?_ | refine w_reg (by simp (disch := omega) only [go_sem, h1, rep_rng, z0, v0, Int.natCast_zero, List.replicate_zero, List.map_nil]; with_reducible rfl) ?_ | refine w_skipS ?_ | refine w_skipB ?_ | refine w_exitS ?_ | refine w_exitB ?_ | refine w_exitN rfl ?_ | refine w_exitL ?_ | refine w_retS ?_ | refine w_retB ?_ | refine w_retL ?_ | refine w_condT (by simp (disch := omega) only [go_sem, h1, rep_rng, z0, v0, Int.natCast_zero, List.replicate_zero, List.map_nil]; with_reducible rfl) (by with_reducible rfl) ?_ | refine w_condF (by simp (disch := omega) only [go_sem, h1, rep_rng, z0, v0, Int.natCast_zero, List.replicate_zero, List.map_nil]; with_reducible rfl) (by with_reducible rfl) ?_ | fail))
      (first | refine w_fini ?_ | refine w_finiN ?_); simp (disch := omega) only [go_sem]
      rfl
    · have e1 : IntKind.i64.wrap ((n : Int) - 1) = ((n - 1 : Nat) : Int) := by rw [wrap_i64] <;> omega
      have e2 : M (n - 1) (n - 1) = d := by rw [hsw.diag (n - 1) (by omega) (n - 1) (by omega), if_pos rfl]
      have e3 : sg odd d = det n φ := hd
      have e4 : sz d ≤ 1099511627776 := by omega
      refine runs_w rfl rfl ?_
      (repeat (first | refine w_seq ?_ | refine w_block ?_ | refine w_regS (by simp (disch := omega) only [go_sem, h1, rep_rng, e1, e2, e3]; with_reducible rfl) ?_ | refine w_reg (by simp (disch := omega) only [go_sem, h1, rep_rng, e1, e2, e3]; with_reducible rfl) ?_ | refine w_skipS ?_ | refine w_skipB ?_ | refine w_exitS ?_ | refine w_exitB ?_ | refine w_exitN rfl ?_ | refine w_exitL ?_ | refine w_retS ?_ | refine w_retB ?_ | refine w_retL ?_ | refine w_condT (by simp (disch := omega) only [go_sem, h1, rep_rng, e1, e2, e3]; with_reducible rfl) (by with_reducible rfl) ?_ | refine w_condF (by simp (disch := omega) only [go_sem, h1, rep_rng, e1, e2, e3]; with_reducible rfl) (by with_reducible rfl) ?_ | fail))
      (first | refine w_fini ?_ | refine w_finiN ?_); simp (disch := omega) only [go_sem]
  · have hd := hsw.det0 hk hz
    rw [det_aug] at hd
    rw [hd]
    refine runs_w rfl rfl ?_
    (repeat (first | refine w_seq ?_ | refine w_block ?_ | refine w_regS (by simp (disch := omega) only [go_sem, h1, rep_rng]; with_reducible rfl) ?_ | refine w_reg (by simp (disch := omega) only [go_sem, h1, rep_rng]; with_reducible rfl) ?_ | refine w_skipS ?_ | refine w_skipB ?_ | refine w_exitS ?_ | refine w_exitB ?_ | refine w_exitN rfl ?_ | refine w_exitL ?_ | refine w_retS ?_ | refine w_retB ?_ | refine w_retL ?_ | refine w_condT (by simp (disch := omega) only [go_sem, h1, rep_rng]; with_reducible rfl) (by with_reducible rfl) ?_ | refine w_condF (by simp (disch := omega) only [go_sem, h1, rep_rng]; with_reducible rfl) (by with_reducible rfl) ?_ | fail))
    (first | refine w_fini ?_ | refine w_finiN ?_); simp (disch := omega) only [go_sem]

theorem sz_det (n S : Nat) (φ : Nat → Nat → Int) (hn : n ≤ 12) (hS : S ≤ 33554430) (h1S : 1 ≤ S) (ha : ∀ i, i < n → ∀ j, j < n → sz (φ i j) ≤ S) : sz (det n φ) ≤ (S + 1) * 4096 := by
  obtain ⟨r, h1, h2⟩ := swept_ex n S φ (fun _ => 0) hn hS h1S ha fun i hi => by rw [sz_0]; omega
  rcases h2 with ⟨M, odd, d, hsw, rfl⟩ | ⟨k, M, odd, d, hsw, hk, hz, rfl⟩
  · have hd := hsw.det
    rw [det_aug] at hd
    have hsz := (SW_size (S := S) (fun i hi j hj => by unfold aug; split; exact ha i hi j (by omega); rw [sz_0]; omega) h1S hsw).2
    have hpow : (S + 1) * 2 ^ n ≤ (S + 1) * 4096 := Nat.mul_le_mul_left _ (Nat.pow_le_pow_right (n := 2) (j := 12) (by omega) (by omega))
    rw [← hd]
    split
    · rw [sz_neg]; omega
    · omega
  · have hd := hsw.det0 hk hz
    rw [det_aug] at hd
    rw [hd, sz_0]; omega

/-- One number of a solution. -/
theorem solve1_lim (n i : Nat) (M : Nat → Nat → Int) (odd : Bool) (φ : Nat → Nat → Int) (hi : i < n) (hs : sz (M i n) ≤ 1099511627776) :
    lim tab F_lin_Mat_Solve_1 [.int .i64 (i : Int), .vptr [Mx n (n + 1) M], .vptr [Mx n n φ], .vptr [.bool odd]] none = some ⟨[Z (sg odd (M i n))], [], none⟩ := by
  refine runs_w rfl rfl ?_
  (repeat (first | refine w_seq ?_ | refine w_block ?_ | refine w_regS (by simp (disch := omega) only [go_sem]; with_reducible rfl) ?_ | refine w_reg (by simp (disch := omega) only [go_sem]; with_reducible rfl) ?_ | refine w_skipS ?_ | refine w_skipB ?_ | refine w_exitS ?_ | refine w_exitB ?_ | refine w_exitN rfl ?_ | refine w_exitL ?_ | refine w_retS ?_ | refine w_retB ?_ | refine w_retL ?_ | refine w_condT (by simp (disch := omega) only [go_sem]; with_reducible rfl) (by with_reducible rfl) ?_ | refine w_condF (by simp (disch := omega) only [go_sem]; with_reducible rfl) (by with_reducible rfl) ?_ | fail))
  (first | refine w_fini ?_ | refine w_finiN ?_); simp (disch := omega) only [go_sem]
theorem solve_ok (n S : Nat) (φ : Nat → Nat → Int) (b : Nat → Int) (hn : n ≤ 12) (hS : S ≤ 33554430) (h1S : 1 ≤ S) (ha : ∀ i, i < n → ∀ j, j < n → sz (φ i j) ≤ S) (hb : ∀ i, i < n → sz (b i) ≤ S) (hd : det n φ ≠ 0) :
    ∃ x, lim tab F_lin_Mat_Solve [Mx n n φ, Rw n b] none = some ⟨[Rw n x, Z (det n φ), .int .i64 0], [], none⟩ ∧ (∀ i, i < n → mv n φ x i = b i * det n φ) ∧ ∀ i, i < n → sz (x i) ≤ (S + 1) * 4096 := by
  obtain ⟨r, h1, h2⟩ := swept_ex n S φ b hn hS h1S ha hb
  rcases h2 with ⟨M, odd, d, hsw, rfl⟩ | ⟨k, M, odd, d, hsw, hk, hz, rfl⟩
  · have hdd := hsw.det
    rw [det_aug] at hdd
    have hsz := SW_size (S := S) (fun i hi j hj => by unfold aug; split; exact ha i hi j (by omega); exact hb i hi) h1S hsw
    have hpow : (S + 1) * 2 ^ n ≤ (S + 1) * 4096 := Nat.mul_le_mul_left _ (Nat.pow_le_pow_right (n := 2) (j := 12) (by omega) (by omega))
    have hsi : ∀ i, i < n → sz (M i n) ≤ (S + 1) * 4096 := fun i hi => by have := hsz.1 i hi n (by omega); omega
    have h3 := list_lim F_lin_Mat_Solve_1 [.vptr [Mx n (n + 1) M], .vptr [Mx n n φ], .vptr [.bool odd]] (fun i => sg odd (M i n)) n (fun h => rfl) rfl (by omega) fun i hi => solve1_lim n i M odd φ hi (by have := hsi i hi; omega)
    have h4 := det_lim n S φ hn hS h1S ha
    refine ⟨fun i => sg odd (M i n), runs_w rfl rfl ?_, fun i hi => ?_, fun i hi => ?_⟩
    · (repeat (first | refine w_seq ?_ | refine w_block ?_ | refine w_regS (by simp (disch := omega) only [go_sem, h1, h3, h4]; with_reducible rfl) ?_ | refine w_reg (by simp (disch := omega) only [go_sem, h1, h3, h4]; with_reducible rfl) ?_ | refine w_skipS ?_ | refine w_skipB ?_ | refine w_exitS ?_ | refine w_exitB ?_ | refine w_exitN rfl ?_ | refine w_exitL ?_ | refine w_retS ?_ | refine w_retB ?_ | refine w_retL ?_ | refine w_condT (by simp (disch := omega) only [go_sem, h1, h3, h4]; with_reducible rfl) (by with_reducible rfl) ?_ | refine w_condF (by simp (disch := omega) only [go_sem, h1, h3, h4]; with_reducible rfl) (by with_reducible rfl) ?_ | fail))
      (first | refine w_fini ?_ | refine w_finiN ?_); simp (disch := omega) only [go_sem]
    · have h5 := hsw.solves i hi n
      have e1 : aug n φ b i n = b i := if_neg (by omega)
      rw [e1, sumN_congr (g := fun l => φ i l * M l n) fun l hl => by rw [show aug n φ b i l = φ i l from if_pos hl]] at h5
      unfold mv
      rw [← hdd]
      cases odd
      · simp only [sg, Bool.false_eq_true, if_false] at *
        rw [h5, Int.mul_comm]
      · simp only [sg, if_true] at *
        rw [sumN_congr (g := fun k => -(φ i k * M k n)) fun k _ => Int.mul_neg _ _, sumN_neg, h5, Int.mul_neg, Int.mul_comm]
    · have := hsi i hi
      cases odd
      · exact this
      · show sz (-M i n) ≤ _
        rw [sz_neg]; exact this
  · have := hsw.det0 hk hz
    rw [det_aug] at this
    exact absurd this hd
theorem solve_zero (n S : Nat) (φ : Nat → Nat → Int) (b : Nat → Int) (hn : n ≤ 12) (hS : S ≤ 33554430) (h1S : 1 ≤ S) (ha : ∀ i, i < n → ∀ j, j < n → sz (φ i j) ≤ S) (hb : ∀ i, i < n → sz (b i) ≤ S) (hd : det n φ = 0) :
    lim tab F_lin_Mat_Solve [Mx n n φ, Rw n b] none = some ⟨[.view [], Z 0, .int .i64 11], [], none⟩ := by
  obtain ⟨r, h1, h2⟩ := swept_ex n S φ b hn hS h1S ha hb
  rcases h2 with ⟨M, odd, d, hsw, rfl⟩ | ⟨k, M, odd, d, hsw, hk, hz, rfl⟩
  · have hdd := hsw.det
    rw [det_aug, hd] at hdd
    have := hsw.last_ne
    cases odd <;> simp at hdd <;> omega
  · refine runs_w rfl rfl ?_
    (repeat (first | refine w_seq ?_ | refine w_block ?_ | refine w_regS (by simp (disch := omega) only [go_sem, h1]; with_reducible rfl) ?_ | refine w_reg (by simp (disch := omega) only [go_sem, h1]; with_reducible rfl) ?_ | refine w_skipS ?_ | refine w_skipB ?_ | refine w_exitS ?_ | refine w_exitB ?_ | refine w_exitN rfl ?_ | refine w_exitL ?_ | refine w_retS ?_ | refine w_retB ?_ | refine w_retL ?_ | refine w_condT (by simp (disch := omega) only [go_sem, h1]; with_reducible rfl) (by with_reducible rfl) ?_ | refine w_condF (by simp (disch := omega) only [go_sem, h1]; with_reducible rfl) (by with_reducible rfl) ?_ | fail))
    (first | refine w_fini ?_ | refine w_finiN ?_); simp (disch := omega) only [go_sem, List.take_nil]
end Go.Proofs.Ytbdknlejnacmgaa.Pi.W
end
