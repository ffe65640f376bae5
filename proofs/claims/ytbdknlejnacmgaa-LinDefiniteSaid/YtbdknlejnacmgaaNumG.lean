/-
  A matrix times its turned one, and one on the diagonal.
-/
import Derived.Test.YtbdknlejnacmgaaNumF
namespace Go.Proofs.Ytbdknlejnacmgaa.Num
set_option linter.unusedVariables false
set_option linter.unusedSimpArgs false

def gram (n : Nat) (A : Mat) (i j : Nat) : Int := if j = i then mm n (fun i j => A j i) A i i + 1 else mm n (fun i j => A j i) A i j
theorem gram_one (n : Nat) (A : Mat) (i j : Nat) : gram n A i j = mm n (fun i j => A j i) A i j + if j = i then 1 else 0 := by
  unfold gram; split
  · rename_i h; subst h; rfl
  · omega
theorem gram_sym (n : Nat) (A : Mat) (i j : Nat) : gram n A i j = gram n A j i := by
  rw [gram_one, gram_one]
  have e : mm n (fun i j => A j i) A i j = mm n (fun i j => A j i) A j i := sumN_congr fun k _ => Int.mul_comm _ _
  rw [e]
  congr 1
  by_cases h : i = j
  · rw [if_pos h, if_pos h.symm]
  · rw [if_neg h, if_neg (fun q => h q.symm)]
theorem sumN_nn {f : Nat → Int} : ∀ {n : Nat}, (∀ i, i < n → 0 ≤ f i) → 0 ≤ sumN n f
  | 0, _ => Int.le_refl _
  | n + 1, h => by
    have h1 := sumN_nn (n := n) fun i hi => h i (by omega)
    have h2 := h n (by omega)
    show 0 ≤ sumN n f + f n
    omega
theorem sumN_pos {f : Nat → Int} {n k : Nat} (h : ∀ i, i < n → 0 ≤ f i) (hk : k < n) (hp : 0 < f k) : 0 < sumN n f := by
  rw [sumN_apart f hk]
  have : 0 ≤ sumN n fun i => if i = k then 0 else f i := sumN_nn fun i hi => by
    split
    · exact Int.le_refl _
    · exact h i hi
  omega
theorem sq_nn (x : Int) : 0 ≤ x * x := by
  rcases Int.le_total 0 x with h | h
  · exact Int.mul_nonneg h h
  · exact Int.mul_nonneg_of_nonpos_of_nonpos h h
theorem sq_pos {x : Int} (h : x ≠ 0) : 0 < x * x := by
  rcases Int.lt_or_gt_of_ne h with h | h
  · exact Int.mul_pos_of_neg_of_neg h h
  · exact Int.mul_pos h h
theorem gram_form (n : Nat) (A : Mat) (x : Nat → Int) : form n (gram n A) x = (sumN n fun k => (sumN n fun i => A k i * x i) * sumN n fun i => A k i * x i) + sumN n fun i => x i * x i := by
  unfold form
  have e2 : ∀ i, i < n → (sumN n fun j => (if j = i then 1 else 0) * x j) = x i := fun i hi => by
    rw [sumN_one (k := i) hi fun j _ hj => by rw [if_neg hj, Int.zero_mul], if_pos rfl, Int.one_mul]
  rw [sumN_congr (g := fun i => (sumN n fun k => (A k i * x i) * sumN n fun j => A k j * x j) + x i * x i) fun i hi => by
    rw [sumN_congr (g := fun j => (sumN n fun k => A k i * (A k j * x j)) + (if j = i then 1 else 0) * x j) fun j _ => by
      rw [gram_one, Int.add_mul]
      congr 1
      show (sumN n fun k => A k i * A k j) * x j = _
      rw [← sumN_mul_right]
      exact sumN_congr fun k _ => Int.mul_assoc _ _ _]
    rw [sumN_add, e2 i hi, Int.mul_add]
    congr 1
    rw [sumN_swap, ← sumN_mul]
    refine sumN_congr fun k _ => ?_
    rw [sumN_mul]; ac_rfl]
  rw [sumN_add]
  congr 1
  rw [sumN_swap]
  exact sumN_congr fun k _ => sumN_mul_right _ _ _
theorem gram_above (n : Nat) (A : Mat) : Above n (gram n A) := fun x ⟨i, hi, hx⟩ => by
  rw [gram_form]
  have h1 : 0 ≤ sumN n fun k => (sumN n fun i => A k i * x i) * sumN n fun i => A k i * x i := sumN_nn fun k _ => sq_nn _
  have h2 : 0 < sumN n fun i => x i * x i := sumN_pos (fun i _ => sq_nn _) hi (sq_pos hx)
  omega
end Go.Proofs.Ytbdknlejnacmgaa.Num
