/-
  A symmetric matrix's form is above 0 for each list that is not 0 alone if and only if its leading minors are above 0.
-/
import Derived.Test.YtbdknlejnacmgaaNum
namespace Go.Proofs.Ytbdknlejnacmgaa.Num
set_option linter.unusedVariables false
set_option linter.unusedSimpArgs false

theorem first_or (M : Mat) (k : Nat) : ∀ m, (∀ q, k ≤ q → q < k + m → M q k = 0) ∨ ∃ p, k ≤ p ∧ p < k + m ∧ (∀ q, k ≤ q → q < p → M q k = 0) ∧ M p k ≠ 0
  | 0 => .inl fun q h1 h2 => by omega
  | m + 1 => by
    rcases first_or M k m with h | ⟨p, h1, h2, h3, h4⟩
    · by_cases hz : M (k + m) k = 0
      · refine .inl fun q h1 h2 => ?_
        by_cases e : q = k + m
        · subst e; exact hz
        · exact h q h1 (by omega)
      · exact .inr ⟨k + m, by omega, by omega, fun q h1 h2 => h q h1 (by omega), hz⟩
    · exact .inr ⟨p, h1, by omega, h3, h4⟩

theorem sw_all {n : Nat} {M0 : Mat} (hd : det n M0 ≠ 0) : ∀ k, k ≤ n → ∃ M odd d, SW n M0 k M odd d
  | 0, _ => ⟨_, _, _, .init⟩
  | k + 1, hk => by
    obtain ⟨M, odd, d, h⟩ := sw_all hd k (by omega)
    rcases first_or M k (n - k) with hz | ⟨p, h1, h2, h3, h4⟩
    · exact absurd (h.det0 (by omega) fun q q1 q2 => hz q q1 (by omega)) hd
    · exact ⟨_, _, _, .step p h (by omega) h1 (by omega) h3 h4⟩

/-- Equations with a determinant that is not 0 are solved, times a number above 0. -/
theorem solves {n : Nat} (A : Mat) (c : Nat → Int) (hd : det n A ≠ 0) : ∃ (D : Int) (z : Nat → Int), 0 < D ∧ ∀ i, i < n → sumN n (fun l => A i l * z l) = D * c i := by
  have hd' : det n (fun i j => if j < n then A i j else c i) ≠ 0 := by
    rw [det_congr (B := A) fun i hi j hj => if_pos hj]; exact hd
  obtain ⟨M, odd, d, h⟩ := sw_all hd' n (Nat.le_refl _)
  have hs : ∀ i, i < n → sumN n (fun l => A i l * M l n) = d * c i := fun i hi => by
    have := h.solves i hi n
    rw [if_neg (Nat.lt_irrefl n)] at this
    rw [← this]
    exact sumN_congr fun l hl => by rw [if_pos hl]
  have h0 := h.last_ne
  by_cases hp : 0 < d
  · exact ⟨d, fun l => M l n, hp, hs⟩
  · refine ⟨-d, fun l => -M l n, by omega, fun i hi => ?_⟩
    rw [sumN_congr (g := fun l => -(A i l * M l n)) fun l _ => by rw [Int.mul_neg], sumN_neg, hs i hi, Int.neg_mul]

def form (n : Nat) (A : Mat) (x : Nat → Int) : Int := sumN n fun k => x k * sumN n fun l => A k l * x l

/-- The determinant of a matrix with a row and a column more. -/
theorem det_border {n : Nat} (A : Mat) (D : Int) (z : Nat → Int) (hz : ∀ i, i < n → sumN n (fun l => A i l * z l) = D * A i n) :
    D * det (n + 1) A = (D * A n n - sumN n fun l => A n l * z l) * det n A := by
  have h1 := (det_alt (n + 1)).addcols (cset A n fun i => D * A i n) (c := n) (by omega) (fun t => -z t) n (by omega)
  rw [(det_alt (n + 1)).scale A n D (by omega), cset_cset] at h1
  rw [← h1]
  have h2 : ∀ i, ((cset A n fun i => D * A i n) i n + sumN n fun t => if t = n then 0 else -z t * (cset A n fun i => D * A i n) i t) = D * A i n - sumN n fun l => A i l * z l := fun i => by
    rw [cset_at, sumN_congr (g := fun t => -(A i t * z t)) fun t ht => by
      rw [if_neg (by omega), cset_ne _ _ _ (by omega), Int.neg_mul, Int.mul_comm], sumN_neg]
    omega
  rw [det_block]
  · rw [cset_at, h2]
    congr 1
    exact det_congr fun i hi j hj => cset_ne _ _ _ (by omega)
  · intro i hi
    rw [cset_at, h2, hz i hi]; omega

theorem form_succ (n : Nat) (A : Mat) (x : Nat → Int) (hs : ∀ i, i < n → A n i = A i n) : form (n + 1) A x = form n A x + 2 * (x n * sumN n fun l => A l n * x l) + A n n * (x n * x n) := by
  have e1 : (sumN n fun l => A n l * x l) = sumN n fun l => A l n * x l := sumN_congr fun l hl => by rw [hs l hl]
  have e2 : (sumN n fun k => x k * (sumN n (fun l => A k l * x l) + A k n * x n)) = form n A x + x n * sumN n fun l => A l n * x l := by
    unfold form
    rw [sumN_congr (g := fun k => x k * sumN n (fun l => A k l * x l) + x n * (A k n * x k)) fun k _ => by
      rw [Int.mul_add]; congr 1; ac_rfl, sumN_add, sumN_mul]
  show (sumN n fun k => x k * (sumN n (fun l => A k l * x l) + A k n * x n)) + x n * (sumN n (fun l => A n l * x l) + A n n * x n) = _
  rw [e2, e1, Int.mul_add]
  have : x n * (A n n * x n) = A n n * (x n * x n) := by ac_rfl
  omega

theorem form_two (n : Nat) (A : Mat) (x y : Nat → Int) (a b : Int) (hs : ∀ i, i < n → ∀ j, j < n → A i j = A j i) :
    form n A (fun i => a * x i + b * y i) = a * a * form n A x + 2 * (a * b * sumN n fun k => x k * sumN n fun l => A k l * y l) + b * b * form n A y := by
  have lin : ∀ k, (sumN n fun l => A k l * (a * x l + b * y l)) = a * (sumN n fun l => A k l * x l) + b * sumN n fun l => A k l * y l := fun k => by
    rw [← sumN_mul, ← sumN_mul, ← sumN_add]
    exact sumN_congr fun l _ => by rw [Int.mul_add]; congr 1 <;> ac_rfl
  have sym : (sumN n fun k => y k * sumN n fun l => A k l * x l) = sumN n fun k => x k * sumN n fun l => A k l * y l := by
    rw [sumN_congr (g := fun k => sumN n fun l => x l * (A k l * y k)) fun k _ => by
      rw [← sumN_mul]; exact sumN_congr fun l _ => by ac_rfl]
    rw [sumN_swap]
    refine sumN_congr fun k hk => ?_
    rw [← sumN_mul]
    exact sumN_congr fun l hl => by rw [hs l hl k hk]
  unfold form
  rw [sumN_congr (g := fun k => (a * a * (x k * sumN n fun l => A k l * x l) + a * b * (x k * sumN n fun l => A k l * y l)) + (a * b * (y k * sumN n fun l => A k l * x l) + b * b * (y k * sumN n fun l => A k l * y l))) fun k _ => by
    rw [lin]
    generalize (sumN n fun l => A k l * x l) = u
    generalize (sumN n fun l => A k l * y l) = v
    rw [Int.add_mul, Int.mul_add, Int.mul_add]
    congr 1 <;> congr 1 <;> ac_rfl]
  rw [sumN_add, sumN_add, sumN_add, sumN_mul, sumN_mul, sumN_mul, sumN_mul, sym]
  omega

/-- The form of one number more. -/
theorem form_border {n : Nat} (A : Mat) (D : Int) (z x : Nat → Int) (hs : ∀ i, i < n + 1 → ∀ j, j < n + 1 → A i j = A j i) (hz : ∀ i, i < n → sumN n (fun l => A i l * z l) = D * A i n) :
    D * D * form (n + 1) A x = form n A (fun i => D * x i + x n * z i) + D * (x n * x n) * (D * A n n - sumN n fun l => A n l * z l) := by
  rw [form_succ n A x fun i hi => hs n (by omega) i (by omega), form_two n A x z D (x n) fun i hi j hj => hs i (by omega) j (by omega)]
  have e1 : (sumN n fun k => x k * sumN n fun l => A k l * z l) = D * sumN n fun l => A l n * x l := by
    rw [← sumN_mul]
    exact sumN_congr fun k hk => by rw [hz k hk]; ac_rfl
  have e2 : form n A z = D * sumN n fun l => A n l * z l := by
    unfold form
    rw [← sumN_mul]
    exact sumN_congr fun k hk => by rw [hz k hk, hs n (by omega) k (by omega)]; ac_rfl
  rw [e1, e2]
  generalize (sumN n fun l => A l n * x l) = u
  generalize (sumN n fun l => A n l * z l) = v
  generalize form n A x = f
  generalize A n n = e
  generalize x n = t
  have q1 : D * D * (f + 2 * (t * u) + e * (t * t)) = D * D * f + 2 * (D * D * (t * u)) + D * D * (e * (t * t)) := by
    rw [Int.mul_add, Int.mul_add]; congr 2; rw [Int.mul_left_comm]
  have q2 : D * (t * t) * (D * e - v) = D * D * (e * (t * t)) - t * t * (D * v) := by
    rw [Int.mul_sub]; congr 1 <;> ac_rfl
  have q3 : D * t * (D * u) = D * D * (t * u) := by ac_rfl
  rw [q1, q2, q3]
  omega

def Above (n : Nat) (A : Mat) : Prop := ∀ x : Nat → Int, (∃ i, i < n ∧ x i ≠ 0) → 0 < form n A x
theorem form_zero (n : Nat) (A : Mat) (x : Nat → Int) (h : ∀ i, i < n → x i = 0) : form n A x = 0 := sumN_zero fun i hi => by rw [h i hi, Int.zero_mul]
theorem Above.nn {n : Nat} {A : Mat} (h : Above n A) (x : Nat → Int) : 0 ≤ form n A x := by
  by_cases hx : ∃ i, i < n ∧ x i ≠ 0
  · exact Int.le_of_lt (h x hx)
  · rw [form_zero n A x fun i hi => Classical.byContradiction fun h => hx ⟨i, hi, h⟩]
    exact Int.le_refl _

/-- From the minors to the form. -/
theorem above_of_minors : ∀ {n : Nat} {A : Mat}, (∀ i, i < n → ∀ j, j < n → A i j = A j i) → (∀ k, k ≤ n → 0 < det k A) → Above n A
  | 0, A, _, _ => fun x ⟨i, hi, _⟩ => absurd hi (by omega)
  | n + 1, A, hs, hm => by
    have ih : Above n A := above_of_minors (fun i hi j hj => hs i (by omega) j (by omega)) fun k hk => hm k (by omega)
    have d0 := hm n (by omega)
    have d1 := hm (n + 1) (by omega)
    obtain ⟨D, z, hD, hz⟩ := solves (n := n) A (fun i => A i n) (by omega)
    have hb := det_border A D z hz
    intro x ⟨i, hi, hx⟩
    have hf := form_border A D z x hs hz
    have hE : 0 < D * A n n - sumN n fun l => A n l * z l := by
      refine Int.pos_of_mul_pos_left ?_ d0
      rw [← hb]; exact Int.mul_pos hD d1
    generalize (D * A n n - sumN n fun l => A n l * z l) = E at *
    have hpos : 0 < D * D * form (n + 1) A x := by
      rw [hf]
      by_cases ht : x n = 0
      · have : 0 < form n A fun i => D * x i + x n * z i := ih _ ⟨i, by
          by_cases e : i = n
          · subst e; exact absurd ht hx
          · omega, by
          rw [ht, Int.zero_mul, Int.add_zero]
          exact Int.mul_ne_zero (by omega) hx⟩
        rw [ht] at this
        rw [ht, Int.mul_zero, Int.mul_zero, Int.zero_mul]
        omega
      · have h1 := ih.nn fun i => D * x i + x n * z i
        have h2 : 0 < x n * x n := by
          rcases Int.lt_or_gt_of_ne ht with h | h
          · exact Int.mul_pos_of_neg_of_neg h h
          · exact Int.mul_pos h h
        have h3 := Int.mul_pos (Int.mul_pos hD h2) hE
        omega
    exact Int.pos_of_mul_pos_right hpos (Int.mul_pos hD hD)

/-- From the form to the minors. -/
theorem minors_of_above : ∀ {n : Nat} {A : Mat}, (∀ i, i < n → ∀ j, j < n → A i j = A j i) → Above n A → ∀ k, k ≤ n → 0 < det k A
  | 0, A, _, _, k, hk => by
    obtain rfl : k = 0 := by omega
    show (0 : Int) < 1; decide
  | n + 1, A, hs, h, k, hk => by
    have sub : Above n A := fun x ⟨i, hi, hx⟩ => by
      have := h (fun j => if j = n then 0 else x j) ⟨i, by omega, by rw [if_neg (by omega)]; exact hx⟩
      rw [form_succ n A _ fun i hi => hs n (by omega) i (by omega), if_pos rfl, Int.zero_mul, Int.mul_zero, Int.zero_mul, Int.mul_zero, Int.add_zero, Int.add_zero] at this
      have e : form n A (fun j => if j = n then 0 else x j) = form n A x := by
        unfold form
        refine sumN_congr fun k hk => ?_
        show (if k = n then 0 else x k) * (sumN n fun l => A k l * (if l = n then 0 else x l)) = _
        rw [if_neg (by omega)]; congr 1
        exact sumN_congr fun l hl => by rw [if_neg (by omega)]
      rw [← e]; exact this
    have ih := minors_of_above (n := n) (fun i hi j hj => hs i (by omega) j (by omega)) sub
    by_cases hkn : k ≤ n
    · exact ih k hkn
    · obtain rfl : k = n + 1 := by omega
      have d0 := ih n (Nat.le_refl _)
      obtain ⟨D, z, hD, hz⟩ := solves (n := n) A (fun i => A i n) (by omega)
      have hb := det_border A D z hz
      have hf := form_border A D z (fun i => if i = n then D else -z i) hs hz
      have hp := h (fun i => if i = n then D else -z i) ⟨n, by omega, by rw [if_pos rfl]; omega⟩
      have h0 : form n A (fun i => D * (fun i => if i = n then D else -z i) i + (fun i => if i = n then D else -z i) n * z i) = 0 := form_zero _ _ _ fun i hi => by
        show D * (if i = n then D else -z i) + (if n = n then D else -z n) * z i = 0
        rw [if_neg (by omega), if_pos rfl, Int.mul_neg]; omega
      rw [h0, Int.zero_add] at hf
      have hq : 0 < D * ((fun i => if i = n then D else -z i) n * (fun i => if i = n then D else -z i) n) * (D * A n n - sumN n fun l => A n l * z l) := by
        rw [← hf]; exact Int.mul_pos (Int.mul_pos hD hD) hp
      have hE : 0 < D * A n n - sumN n fun l => A n l * z l := by
        refine Int.pos_of_mul_pos_right hq ?_
        show 0 < D * ((if n = n then D else -z n) * (if n = n then D else -z n))
        rw [if_pos rfl]
        exact Int.mul_pos hD (Int.mul_pos hD hD)
      refine Int.pos_of_mul_pos_right (a := D) ?_ hD
      rw [hb]
      exact Int.mul_pos hE d0
end Go.Proofs.Ytbdknlejnacmgaa.Num
