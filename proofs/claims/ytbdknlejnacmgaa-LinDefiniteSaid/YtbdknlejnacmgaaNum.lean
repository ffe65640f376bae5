import Derived.Attr

section
/-
  Numbers by their digits: plain laws, no program in sight.
-/
namespace Go.Proofs.Ytbdknlejnacmgaa.Num
set_option linter.unusedVariables false
set_option linter.unusedSimpArgs false

/-- What digits are worth, the lowest first. -/
def val (B : Int) : List Int → Int
  | [] => 0
  | z :: l => z + B * val B l
/-- Digits are digits. -/
def In (B : Int) (l : List Int) : Prop := ∀ z ∈ l, 0 ≤ z ∧ z < B

theorem In.nil {B : Int} : In B [] := fun z h => by simp at h
theorem In.cons {B z : Int} {l : List Int} (h : 0 ≤ z ∧ z < B) (k : In B l) : In B (z :: l) := fun y hy => by
  rcases List.mem_cons.1 hy with rfl | hy
  · exact h
  · exact k y hy
theorem In.head {B z : Int} {l : List Int} (h : In B (z :: l)) : 0 ≤ z ∧ z < B := h z (by simp)
theorem In.tail {B z : Int} {l : List Int} (h : In B (z :: l)) : In B l := fun y hy => h y (by simp [hy])
theorem In.app {B : Int} {a b : List Int} (h : In B a) (k : In B b) : In B (a ++ b) := fun y hy => by
  rcases List.mem_append.1 hy with hy | hy
  · exact h y hy
  · exact k y hy
theorem In.left {B : Int} {a b : List Int} (h : In B (a ++ b)) : In B a := fun y hy => h y (by simp [hy])
theorem In.right {B : Int} {a b : List Int} (h : In B (a ++ b)) : In B b := fun y hy => h y (by simp [hy])
theorem In.take {B : Int} {a : List Int} (h : In B a) (n : Nat) : In B (a.take n) := fun y hy => h y (List.mem_of_mem_take hy)
theorem In.drop {B : Int} {a : List Int} (h : In B a) (n : Nat) : In B (a.drop n) := fun y hy => h y (List.mem_of_mem_drop hy)
theorem In.zeros {B : Int} (hB : 0 < B) (n : Nat) : In B (List.replicate n 0) := fun y hy => by
  obtain ⟨_, rfl⟩ := List.mem_replicate.1 hy
  omega
theorem In.get {B : Int} {l : List Int} (h : In B l) {i : Nat} (hi : i < l.length) : 0 ≤ l[i] ∧ l[i] < B := h _ (List.getElem_mem hi)

theorem val_app (B : Int) : ∀ a b : List Int, val B (a ++ b) = val B a + B ^ a.length * val B b
  | [], b => by simp [val]
  | z :: a, b => by
    simp only [List.cons_append, val, val_app B a b, List.length_cons, Int.pow_succ, Int.mul_add, Int.add_assoc]
    congr 2
    rw [← Int.mul_assoc, Int.mul_comm B]
theorem val_one (B z : Int) : val B [z] = z := by simp [val]
theorem val_snoc (B : Int) (a : List Int) (z : Int) : val B (a ++ [z]) = val B a + B ^ a.length * z := by rw [val_app, val_one]
theorem val_zeros (B : Int) : ∀ n : Nat, val B (List.replicate n 0) = 0
  | 0 => rfl
  | n + 1 => by rw [List.replicate_succ, val, val_zeros B n]; simp
theorem pow_pos' {B : Int} (hB : 0 < B) : ∀ n : Nat, 0 < B ^ n
  | 0 => by simp
  | n + 1 => by rw [Int.pow_succ]; exact Int.mul_pos (pow_pos' hB n) hB
theorem val_nonneg {B : Int} (hB : 0 < B) : ∀ {l : List Int}, In B l → 0 ≤ val B l
  | [], _ => by simp [val]
  | z :: l, h => by
    have h1 := h.head
    have h2 := val_nonneg hB h.tail
    have := Int.mul_nonneg (Int.le_of_lt hB) h2
    simp only [val]; omega
theorem val_lt {B : Int} (hB : 0 < B) : ∀ {l : List Int}, In B l → val B l < B ^ l.length
  | [], _ => by simp [val]
  | z :: l, h => by
    have h1 := h.head
    have h2 := val_lt hB h.tail
    simp only [val, List.length_cons, Int.pow_succ]
    have : B * (val B l + 1) ≤ B * B ^ l.length := Int.mul_le_mul_of_nonneg_left (by omega) (by omega)
    rw [Int.mul_add] at this
    rw [Int.mul_comm _ B]; omega

/-- The digits of a number. -/
def dig (B : Nat) (n : Nat) : List Int :=
  if h : B < 2 ∨ n = 0 then [] else ((n % B : Nat) : Int) :: dig B (n / B)
termination_by n
decreasing_by exact Nat.div_lt_self (by omega) (by omega)

theorem dig_0 (B : Nat) : dig B 0 = [] := by rw [dig]; simp
theorem dig_pos {B n : Nat} (hB : 2 ≤ B) (hn : n ≠ 0) : dig B n = ((n % B : Nat) : Int) :: dig B (n / B) := by
  rw [dig, dif_neg (by omega)]
theorem dig_nil {B n : Nat} (hB : 2 ≤ B) : dig B n = [] ↔ n = 0 := by
  constructor
  · intro h
    by_cases hn : n = 0
    · exact hn
    · rw [dig_pos hB hn] at h; cases h
  · rintro rfl; exact dig_0 B
theorem val_dig {B : Nat} (hB : 2 ≤ B) (n : Nat) : val B (dig B n) = n := by
  induction n using Nat.strongRecOn with
  | _ n ih =>
    by_cases hn : n = 0
    · subst hn; rw [dig_0]; rfl
    · rw [dig_pos hB hn, val, ih _ (Nat.div_lt_self (by omega) (by omega))]
      have := Nat.mod_add_div n B
      exact_mod_cast this
theorem In_dig {B : Nat} (hB : 2 ≤ B) (n : Nat) : In B (dig B n) := by
  induction n using Nat.strongRecOn with
  | _ n ih =>
    by_cases hn : n = 0
    · subst hn; rw [dig_0]; exact In.nil
    · rw [dig_pos hB hn]
      refine In.cons ⟨by omega, ?_⟩ (ih _ (Nat.div_lt_self (by omega) (by omega)))
      have := Nat.mod_lt n (show 0 < B by omega)
      exact_mod_cast this

/-- Without the noughts at the end. -/
def trim : List Int → List Int
  | [] => []
  | z :: l => if trim l = [] ∧ z = 0 then [] else z :: trim l

theorem trim_dig {B : Nat} (hB : 2 ≤ B) : ∀ {l : List Int}, In B l → trim l = dig B (val B l).toNat
  | [], _ => by simp [trim, val, dig_0]
  | z :: l, h => by
    have ih := trim_dig hB h.tail
    have h1 := h.head
    have h2 := val_nonneg (B := (B : Int)) (by omega) h.tail
    obtain ⟨v, hv⟩ := Int.eq_ofNat_of_zero_le h2
    obtain ⟨d, rfl⟩ := Int.eq_ofNat_of_zero_le h1.1
    simp only [trim, val, ih, hv, Int.toNat_natCast]
    have e : ((d : Int) + (B : Int) * (v : Int)).toNat = d + B * v := by
      have : ((d : Int) + (B : Int) * (v : Int)) = ((d + B * v : Nat) : Int) := by push_cast; rfl
      rw [this, Int.toNat_natCast]
    rw [e]
    have hd : d < B := by omega
    by_cases hz : d + B * v = 0
    · have hd0 : d = 0 := by omega
      have hv0 : v = 0 := by
        rcases Nat.eq_zero_or_pos v with h | h
        · exact h
        · have := Nat.mul_pos (show 0 < B by omega) h; omega
      subst hd0; subst hv0
      simp [dig_0]
    · rw [dig_pos hB hz]
      have e1 : (d + B * v) % B = d := by rw [Nat.add_mul_mod_self_left]; exact Nat.mod_eq_of_lt hd
      have e2 : (d + B * v) / B = v := by rw [Nat.add_mul_div_left _ _ (by omega), Nat.div_eq_of_lt hd, Nat.zero_add]
      rw [e1, e2, if_neg]
      rintro ⟨h3, h4⟩
      rw [dig_nil hB] at h3
      apply hz
      have : d = 0 := by omega
      rw [this, h3]; simp

theorem trim_take : ∀ {l : List Int} {n : Nat}, n ≤ l.length → (∀ j (h : j < l.length), n ≤ j → l[j] = 0) → (n = 0 ∨ ∃ z, l[n - 1]? = some z ∧ z ≠ 0) → trim l = l.take n
  | [], n, _, _, _ => by simp [trim]
  | z :: l, 0, _, h2, _ => by
    have e : trim l = l.take 0 := trim_take (Nat.zero_le _) (fun j hj _ => h2 (j + 1) (by simp; omega) (Nat.zero_le _)) (.inl rfl)
    have hz : z = 0 := h2 0 (by simp) (Nat.le_refl _)
    simp [trim, e, hz]
  | z :: l, n + 1, h1, h2, h3 => by
    have e : trim l = l.take n := by
      refine trim_take (by simpa using h1) (fun j hj hn => h2 (j + 1) (by simp; omega) (by omega)) ?_
      rcases h3 with h3 | ⟨y, h3, h4⟩
      · omega
      · cases n with
        | zero => exact .inl rfl
        | succ n => exact .inr ⟨y, by simpa using h3, h4⟩
    simp only [trim, e, List.take_succ_cons]
    rw [if_neg]
    rintro ⟨h5, h6⟩
    rcases h3 with h3 | ⟨y, h3, h4⟩
    · omega
    · cases n with
      | zero => simp at h3; exact h4 (h3 ▸ h6)
      | succ n =>
        cases l with
        | nil => simp at h1
        | cons a l => simp at h5

theorem dig_len_le {B : Nat} (hB : 2 ≤ B) : ∀ {l : Nat} {n : Nat}, n < B ^ l → (dig B n).length ≤ l
  | 0, n, h => by
    have : n = 0 := by simpa using h
    subst this; simp [dig_0]
  | l + 1, n, h => by
    by_cases hn : n = 0
    · subst hn; simp [dig_0]
    · rw [dig_pos hB hn]
      have : n / B < B ^ l := by
        rw [Nat.div_lt_iff_lt_mul (by omega)]
        rwa [Nat.pow_succ] at h
      have := dig_len_le hB this
      simp; omega
theorem lt_dig_len {B : Nat} (hB : 2 ≤ B) (n : Nat) : n < B ^ (dig B n).length := by
  have h1 := val_lt (B := (B : Int)) (by omega) (In_dig hB n)
  rw [val_dig hB] at h1
  exact_mod_cast h1


theorem dig_len_mono {B : Nat} (hB : 2 ≤ B) {n m : Nat} (h : n ≤ m) : (dig B n).length ≤ (dig B m).length :=
  dig_len_le hB (Nat.lt_of_le_of_lt h (lt_dig_len hB m))

/-- Which is greater is told by the highest digit that differs. -/
theorem val_lt_of {B : Int} (hB : 0 < B) {a b t : List Int} {x y : Int} (ha : In B a) (hb : In B b) (hl : a.length = b.length) (h : x < y) : val B (a ++ x :: t) < val B (b ++ y :: t) := by
  have h1 := val_lt hB ha
  have h2 := val_nonneg hB hb
  have h3 := pow_pos' hB b.length
  rw [val_app, val_app]
  simp only [val]
  rw [hl] at h1 ⊢
  have h4 : B ^ b.length * (x + 1) ≤ B ^ b.length * y := Int.mul_le_mul_of_nonneg_left (by omega) (by omega)
  rw [Int.mul_add] at h4
  rw [Int.mul_add, Int.mul_add]
  omega
theorem pow_mono {B : Int} (hB : 1 ≤ B) {a b : Nat} (h : a ≤ b) : B ^ a ≤ B ^ b := by
  induction b with
  | zero => rw [show a = 0 by omega]; exact Int.le_refl _
  | succ b ih =>
    by_cases e : a = b + 1
    · rw [e]; exact Int.le_refl _
    · have h1 := ih (by omega)
      have h2 := pow_pos' (B := B) (by omega) b
      have h3 : B ^ b * 1 ≤ B ^ b * B := Int.mul_le_mul_of_nonneg_left hB (by omega)
      rw [Int.pow_succ]; omega
theorem val_take (B : Int) {l : List Int} {i : Nat} (h : i < l.length) : val B (l.take (i + 1)) = val B (l.take i) + B ^ i * l[i] := by
  rw [List.take_succ_eq_append_getElem h, val_snoc, List.length_take, Nat.min_eq_left (by omega)]
theorem drop_at {l : List Int} {i : Nat} (h : i < l.length) : l.drop i = l[i] :: l.drop (i + 1) := by
  rw [List.getElem_cons_drop]
theorem val_set (B : Int) : ∀ {l : List Int} {i : Nat} (h : i < l.length) (v : Int), val B (l.set i v) = val B l + B ^ i * (v - l[i])
  | z :: l, 0, h, v => by simp [val]; omega
  | z :: l, i + 1, h, v => by
    have ih := val_set B (l := l) (i := i) (by simpa using h) v
    simp only [List.set_cons_succ, val, ih, List.getElem_cons_succ, Int.pow_succ, Int.mul_add]
    rw [← Int.mul_assoc, Int.mul_comm B (B ^ i)]; omega
theorem In.set {B : Int} {l : List Int} (h : In B l) {i : Nat} {v : Int} (hv : 0 ≤ v ∧ v < B) : In B (l.set i v) := fun y hy => by
  rcases List.mem_or_eq_of_mem_set hy with h1 | rfl
  · exact h y h1
  · exact hv
theorem split_at {l : List Int} {i : Nat} (h : i < l.length) : l = l.take i ++ l[i] :: l.drop (i + 1) := by
  rw [List.getElem_cons_drop, List.take_append_drop]

end Go.Proofs.Ytbdknlejnacmgaa.Num
end

section
/-
  Sums and determinants: plain laws, no program in sight.
-/
namespace Go.Proofs.Ytbdknlejnacmgaa.Num
set_option linter.unusedVariables false
set_option linter.unusedSimpArgs false

def sumN : Nat → (Nat → Int) → Int
  | 0, _ => 0
  | n + 1, f => sumN n f + f n

theorem sumN_congr {f g : Nat → Int} : ∀ {n : Nat}, (∀ i, i < n → f i = g i) → sumN n f = sumN n g
  | 0, _ => rfl
  | n + 1, h => by simp only [sumN]; rw [sumN_congr fun i hi => h i (by omega), h n (by omega)]
theorem sumN_zero : ∀ {n : Nat} {f : Nat → Int}, (∀ i, i < n → f i = 0) → sumN n f = 0
  | 0, _, _ => rfl
  | n + 1, f, h => by simp only [sumN]; rw [sumN_zero fun i hi => h i (by omega), h n (by omega)]; rfl
theorem sumN_add (f g : Nat → Int) : ∀ n : Nat, sumN n (fun i => f i + g i) = sumN n f + sumN n g
  | 0 => rfl
  | n + 1 => by simp only [sumN, sumN_add f g n]; omega
theorem sumN_mul (x : Int) (f : Nat → Int) : ∀ n : Nat, sumN n (fun i => x * f i) = x * sumN n f
  | 0 => by simp [sumN]
  | n + 1 => by simp only [sumN, sumN_mul x f n, Int.mul_add]
theorem sumN_mul_right (x : Int) (f : Nat → Int) (n : Nat) : sumN n (fun i => f i * x) = sumN n f * x := by
  rw [Int.mul_comm, ← sumN_mul]; exact sumN_congr fun i _ => Int.mul_comm _ _
theorem sumN_sub (f g : Nat → Int) (n : Nat) : sumN n (fun i => f i - g i) = sumN n f - sumN n g := by
  have := sumN_add f (fun i => -1 * g i) n
  rw [sumN_mul] at this
  rw [show (fun i => f i - g i) = fun i => f i + -1 * g i from funext fun i => by omega, this]; omega
theorem sumN_neg (f : Nat → Int) (n : Nat) : sumN n (fun i => -f i) = -sumN n f := by
  have := sumN_mul (-1) f n
  rw [show (fun i => -f i) = fun i => -1 * f i from funext fun i => by omega, this]; omega
/-- One term alone. -/
theorem sumN_one {f : Nat → Int} {k : Nat} : ∀ {n : Nat}, k < n → (∀ i, i < n → i ≠ k → f i = 0) → sumN n f = f k
  | n + 1, hk, h => by
    simp only [sumN]
    by_cases e : k = n
    · subst e; rw [sumN_zero fun i hi => h i (by omega) (by omega)]; omega
    · rw [sumN_one (n := n) (by omega) fun i hi => h i (by omega), h n (by omega) (by omega)]; omega
/-- One term apart. -/
theorem sumN_apart (f : Nat → Int) {k n : Nat} (hk : k < n) : sumN n f = f k + sumN n fun i => if i = k then 0 else f i := by
  have h1 : sumN n f = sumN n (fun i => (if i = k then f i else 0) + (if i = k then 0 else f i)) := sumN_congr fun i _ => by split <;> omega
  rw [h1, sumN_add, sumN_one (f := fun i => if i = k then f i else 0) hk (fun i _ h => if_neg h)]
  simp
/-- Two neighbours alone. -/
theorem sumN_two {f : Nat → Int} {k n : Nat} (hk : k + 1 < n) (h : ∀ i, i < n → i ≠ k → i ≠ k + 1 → f i = 0) : sumN n f = f k + f (k + 1) := by
  rw [sumN_apart f (show k < n by omega), sumN_one (k := k + 1) hk fun i hi h1 => by
    by_cases e : i = k
    · rw [if_pos e]
    · rw [if_neg e]; exact h i hi e h1]
  rw [if_neg (by omega)]
theorem sumN_swap (f : Nat → Nat → Int) (m : Nat) : ∀ n : Nat, sumN n (fun i => sumN m (f i)) = sumN m fun j => sumN n fun i => f i j
  | 0 => by simp only [sumN]; rw [sumN_zero fun i _ => rfl]
  | n + 1 => by simp only [sumN, sumN_swap f m n, ← sumN_add]

/-! ### Determinants, by the first row -/
abbrev Mat := Nat → Nat → Int
def skip (c k : Nat) : Nat := if k < c then k else k + 1
def sgn (c : Nat) : Int := if c % 2 = 0 then 1 else -1
def minor (A : Mat) (c : Nat) : Mat := fun i j => A (i + 1) (skip c j)
def det : Nat → Mat → Int
  | 0, _ => 1
  | n + 1, A => sumN (n + 1) fun c => sgn c * (A 0 c * det n (minor A c))

theorem sgn_succ (c : Nat) : sgn (c + 1) = -sgn c := by unfold sgn; split <;> split <;> omega
theorem skip_lt {c k n : Nat} (hk : k < n) : skip c k < n + 1 := by unfold skip; split <;> omega

theorem det_congr : ∀ {n : Nat} {A B : Mat}, (∀ i, i < n → ∀ j, j < n → A i j = B i j) → det n A = det n B
  | 0, _, _, _ => rfl
  | n + 1, A, B, h => by
    simp only [det]
    refine sumN_congr fun c hc => ?_
    rw [h 0 (by omega) c hc, det_congr (A := minor A c) (B := minor B c) fun i hi j hj => h (i + 1) (by omega) _ (skip_lt hj)]

/-- A column is changed. -/
def cset (A : Mat) (c : Nat) (v : Nat → Int) : Mat := fun i j => if j = c then v i else A i j
theorem cset_at (A : Mat) (c : Nat) (v : Nat → Int) (i : Nat) : cset A c v i c = v i := if_pos rfl
theorem cset_ne (A : Mat) {c j : Nat} (v : Nat → Int) (i : Nat) (h : j ≠ c) : cset A c v i j = A i j := if_neg h
theorem cset_cset (A : Mat) (c : Nat) (v w : Nat → Int) : cset (cset A c v) c w = cset A c w := by
  funext i j; unfold cset; split <;> rfl

/-- Where a column stands in a minor. -/
def pos (c k : Nat) : Nat := if k < c then k else k - 1
theorem skip_eq {c k j : Nat} (h : k ≠ c) : skip c j = k ↔ j = pos c k := by unfold skip pos; split <;> split <;> omega
theorem minor_cset_ne (A : Mat) {c k : Nat} (v : Nat → Int) (h : k ≠ c) : minor (cset A k v) c = cset (minor A c) (pos c k) fun i => v (i + 1) := by
  funext i j
  unfold minor cset
  by_cases e : skip c j = k
  · rw [if_pos e, if_pos ((skip_eq h).1 e)]
  · rw [if_neg e, if_neg fun g => e ((skip_eq h).2 g)]
theorem minor_cset_eq (A : Mat) {c : Nat} (v : Nat → Int) : minor (cset A c v) c = minor A c := by
  funext i j
  unfold minor
  rw [cset_ne]
  unfold skip; split <;> omega
theorem pos_lt {c k n : Nat} (hk : k < n + 1) (hc : c < n + 1) (h : k ≠ c) : pos c k < n := by unfold pos; split <;> omega

/-- Linear in each column. -/
theorem det_lin : ∀ {n : Nat} (A : Mat) {k : Nat} (v w : Nat → Int) (x y : Int), k < n → det n (cset A k fun i => x * v i + y * w i) = x * det n (cset A k v) + y * det n (cset A k w)
  | n + 1, A, k, v, w, x, y, hk => by
    simp only [det]
    rw [← sumN_mul, ← sumN_mul, ← sumN_add]
    refine sumN_congr fun c hc => ?_
    by_cases e : k = c
    · subst e
      rw [cset_at, cset_at, cset_at, minor_cset_eq, minor_cset_eq, minor_cset_eq]
      simp only [Int.add_mul, Int.mul_add]
      congr 1 <;> ac_rfl
    · rw [cset_ne _ _ _ (Ne.symm e), cset_ne _ _ _ (Ne.symm e), cset_ne _ _ _ (Ne.symm e), minor_cset_ne _ _ e, minor_cset_ne _ _ e, minor_cset_ne _ _ e,
        det_lin (minor A c) _ _ x y (pos_lt hk hc e)]
      simp only [Int.mul_add]
      congr 1 <;> ac_rfl

/-- Two neighbours alike: nought. -/
theorem det_adj : ∀ {n : Nat} (A : Mat) {k : Nat}, k + 1 < n → (∀ i, i < n → A i k = A i (k + 1)) → det n A = 0
  | n + 1, A, k, hk, h => by
    simp only [det]
    rw [sumN_two (k := k) hk fun c hc h1 h2 => ?_]
    · have e : det n (minor A (k + 1)) = det n (minor A k) := det_congr fun i hi j hj => by
        unfold minor skip
        by_cases e1 : j < k
        · rw [if_pos (by omega), if_pos e1]
        · by_cases e2 : j = k
          · subst e2; rw [if_pos (by omega), if_neg (by omega)]; exact h _ (by omega)
          · rw [if_neg (by omega), if_neg (by omega)]
      rw [e, sgn_succ, h 0 (by omega)]
      rw [Int.neg_mul]; omega
    · have e : det n (minor A c) = 0 := by
        by_cases e1 : c < k
        · refine det_adj (minor A c) (k := k - 1) (by omega) fun i hi => ?_
          unfold minor skip
          rw [if_neg (by omega), if_neg (by omega), show k - 1 + 1 = k by omega]
          exact h _ (by omega)
        · refine det_adj (minor A c) (k := k) (by omega) fun i hi => ?_
          unfold minor skip
          rw [if_pos (by omega), if_pos (by omega)]
          exact h _ (by omega)
      rw [e]; simp

end Go.Proofs.Ytbdknlejnacmgaa.Num
end

section
/-
  Determinants: columns, Cramer, blocks. Plain laws, no program in sight.
-/
namespace Go.Proofs.Ytbdknlejnacmgaa.Num
set_option linter.unusedVariables false
set_option linter.unusedSimpArgs false

theorem cset_self (A : Mat) (k : Nat) : cset A k (fun i => A i k) = A := by
  funext i j; unfold cset; split
  · rename_i h; rw [h]
  · rfl
theorem cset_comm (A : Mat) {a b : Nat} (h : a ≠ b) (v w : Nat → Int) : cset (cset A a v) b w = cset (cset A b w) a v := by
  funext i j; unfold cset; split <;> split <;> first | rfl | omega
theorem det_scale {n : Nat} (A : Mat) {k : Nat} (v : Nat → Int) (x : Int) (hk : k < n) : det n (cset A k fun i => x * v i) = x * det n (cset A k v) := by
  have := det_lin A v v x 0 hk
  rw [show (fun i => x * v i + 0 * v i) = fun i => x * v i from funext fun i => by simp] at this
  rw [this]; simp
theorem det_plus {n : Nat} (A : Mat) {k : Nat} (v w : Nat → Int) (hk : k < n) : det n (cset A k fun i => v i + w i) = det n (cset A k v) + det n (cset A k w) := by
  have := det_lin A v w 1 1 hk
  rw [show (fun i => 1 * v i + 1 * w i) = fun i => v i + w i from funext fun i => by omega] at this
  rw [this]; omega
theorem det_zcol {n : Nat} (A : Mat) {k : Nat} (hk : k < n) : det n (cset A k fun _ => 0) = 0 := by
  have := det_scale A (fun _ => 0) 0 hk
  simpa using this
theorem det_sum {n : Nat} (A : Mat) {k : Nat} (hk : k < n) (x : Nat → Int) (v : Nat → Nat → Int) : ∀ m, det n (cset A k fun i => sumN m fun t => x t * v t i) = sumN m fun t => x t * det n (cset A k (v t))
  | 0 => by simp only [sumN]; exact det_zcol A hk
  | m + 1 => by
    simp only [sumN]
    rw [det_plus A _ _ hk, det_sum A hk x v m, det_scale A _ _ hk]

/-- Where like columns give nought, columns that change places turn the sign. -/
theorem det_exch {n : Nat} (A : Mat) {a b : Nat} (ha : a < n) (hb : b < n) (h : a ≠ b) (z : ∀ w, det n (cset (cset A a w) b w) = 0) (u v : Nat → Int) : det n (cset (cset A a u) b v) = -det n (cset (cset A a v) b u) := by
  have e2 : ∀ w, det n (cset (cset A a fun i => u i + v i) b w) = det n (cset (cset A a u) b w) + det n (cset (cset A a v) b w) := fun w => by
    rw [cset_comm A h _ w, det_plus _ _ _ ha, ← cset_comm A h u w, ← cset_comm A h v w]
  have e := z fun i => u i + v i
  rw [det_plus _ _ _ hb, e2 u, e2 v, z u, z v] at e
  omega
/-- Neighbours change places. -/
theorem det_swap_adj {n : Nat} (A : Mat) {k : Nat} (hk : k + 1 < n) (u v : Nat → Int) : det n (cset (cset A k u) (k + 1) v) = -det n (cset (cset A k v) (k + 1) u) :=
  det_exch A (by omega) hk (by omega) (fun w => det_adj _ hk fun i _ => by rw [cset_ne _ _ _ (by omega), cset_at, cset_at]) u v
theorem cset_two (A : Mat) (a b : Nat) (h : a ≠ b) : A = cset (cset A a fun i => A i a) b fun i => A i b := by
  rw [cset_self]
  funext i j
  unfold cset
  split
  · rename_i h; rw [h]
  · rfl
/-- Two columns alike: nought. -/
theorem det_alike {n : Nat} : ∀ (d : Nat) (A : Mat) (a : Nat), a + d + 1 < n → (∀ i, i < n → A i a = A i (a + d + 1)) → det n A = 0
  | 0, A, a, h1, h2 => det_adj A h1 h2
  | d + 1, A, a, h1, h2 => by
    have e := det_swap_adj A (k := a + d + 1) (by omega) (fun i => A i (a + d + 1)) (fun i => A i (a + d + 1 + 1))
    rw [← cset_two A _ _ (by omega)] at e
    have z := det_alike (n := n) d (cset (cset A (a + d + 1) fun i => A i (a + d + 1 + 1)) (a + d + 1 + 1) fun i => A i (a + d + 1)) a (by omega) fun i hi => by
      have e1 : cset (cset A (a + d + 1) fun i => A i (a + d + 1 + 1)) (a + d + 1 + 1) (fun i => A i (a + d + 1)) i a = A i a := by
        unfold cset; rw [if_neg (by omega), if_neg (by omega)]
      have e2 : cset (cset A (a + d + 1) fun i => A i (a + d + 1 + 1)) (a + d + 1 + 1) (fun i => A i (a + d + 1)) i (a + d + 1) = A i (a + d + 1 + 1) := by
        unfold cset; rw [if_neg (by omega), if_pos rfl]
      rw [e1, e2]
      exact h2 i hi
    rw [e, z]; rfl
theorem det_eqcol {n : Nat} (A : Mat) {a b : Nat} (ha : a < n) (hb : b < n) (h : a ≠ b) (e : ∀ i, i < n → A i a = A i b) : det n A = 0 := by
  rcases Nat.lt_or_gt_of_ne h with h1 | h1
  · exact det_alike (b - a - 1) A a (by omega) fun i hi => by rw [show a + (b - a - 1) + 1 = b by omega]; exact e i hi
  · exact det_alike (a - b - 1) A b (by omega) fun i hi => by rw [show b + (a - b - 1) + 1 = a by omega]; exact (e i hi).symm
/-- A column's multiple is added to another one. -/
theorem det_addcol {n : Nat} (A : Mat) {a b : Nat} (ha : a < n) (hb : b < n) (h : a ≠ b) (x : Int) : det n (cset A a fun i => A i a + x * A i b) = det n A := by
  rw [det_plus _ _ _ ha, cset_self, det_scale _ _ _ ha, det_eqcol (cset A a fun i => A i b) ha hb h fun i _ => by rw [cset_at, cset_ne _ _ _ (Ne.symm h)]]
  omega
/-- Columns change places. -/
def cswap (a b : Nat) (A : Mat) : Mat := fun i j => A i (if j = a then b else if j = b then a else j)
theorem cswap_eq (a b : Nat) (h : a ≠ b) (A : Mat) : cswap a b A = cset (cset A a fun i => A i b) b fun i => A i a := by
  funext i j; unfold cswap cset
  by_cases e1 : j = a
  · subst e1; rw [if_pos rfl, if_neg h, if_pos rfl]
  · by_cases e2 : j = b
    · subst e2; rw [if_neg e1, if_pos rfl, if_pos rfl]
    · rw [if_neg e1, if_neg e2, if_neg e2, if_neg e1]
theorem det_cswap {n : Nat} (A : Mat) {a b : Nat} (ha : a < n) (hb : b < n) (h : a ≠ b) : det n (cswap a b A) = -det n A := by
  have e := det_exch A ha hb h (fun w => det_eqcol _ ha hb h fun i _ => by rw [cset_ne _ _ _ h, cset_at, cset_at]) (fun i => A i b) (fun i => A i a)
  rw [← cset_two A _ _ h, ← cswap_eq a b h] at e
  exact e

/-- Cramer's: a column's place taken by the columns' sum. -/
theorem cramer {n : Nat} (A : Mat) (z : Nat → Int) {l : Nat} (hl : l < n) : det n (cset A l fun i => sumN n fun t => A i t * z t) = z l * det n A := by
  have e : (fun i => sumN n fun t => A i t * z t) = fun i => sumN n fun t => z t * (fun t i => A i t) t i := by
    funext i; exact sumN_congr fun t _ => Int.mul_comm _ _
  rw [e, det_sum A hl, sumN_one hl fun t ht h => by rw [det_eqcol (cset A l fun i => A i t) hl ht (Ne.symm h) fun i _ => by rw [cset_at, cset_ne _ _ _ h]]; simp]
  rw [cset_self]

/-- The last column is nought but for its last number. -/
theorem det_block : ∀ {n : Nat} (A : Mat), (∀ i, i < n → A i n = 0) → det (n + 1) A = A n n * det n A
  | 0, A, _ => by simp [det, sumN, sgn]
  | n + 1, A, h => by
    rw [det]
    simp only [sumN]
    rw [h 0 (by omega)]
    rw [show det (n + 1) A = sumN (n + 1) fun c => sgn c * (A 0 c * det n (minor A c)) from rfl]
    simp only [sumN, Int.mul_add]
    have e : ∀ c, c < n + 1 → det (n + 1) (minor A c) = A (n + 1) (n + 1) * det n (minor A c) := by
      intro c hc
      have e2 : ∀ i, minor A c i n = A (i + 1) (n + 1) := fun i => by unfold minor skip; rw [if_neg (by omega)]
      rw [det_block (minor A c) fun i hi => by rw [e2]; exact h _ (by omega), e2]
    rw [← sumN_mul, e n (by omega)]
    rw [sumN_congr (g := fun c => A (n + 1) (n + 1) * (sgn c * (A 0 c * det n (minor A c)))) fun c hc => by
      rw [e c (by omega)]; ac_rfl]
    have : sgn n * (A 0 n * (A (n + 1) (n + 1) * det n (minor A n))) = A (n + 1) (n + 1) * (sgn n * (A 0 n * det n (minor A n))) := by ac_rfl
    rw [this]; simp
def one : Mat := fun i j => if i = j then 1 else 0
theorem det_one : ∀ n, det n one = 1
  | 0 => rfl
  | n + 1 => by rw [det_block one fun i hi => if_neg (by omega), det_one n]; simp [one]
end Go.Proofs.Ytbdknlejnacmgaa.Num
end

section
/-
  Sweeping without fractions: divisions are exact, determinants stand on the diagonal. Plain laws, no program in sight.
-/
namespace Go.Proofs.Ytbdknlejnacmgaa.Num
set_option linter.unusedVariables false
set_option linter.unusedSimpArgs false

/-- A step of the sweeping; rows that change places. -/
def stepM (last : Int) (k : Nat) (M : Nat → Nat → Int) (i j : Nat) : Int := if i = k then M k j else (M k k * M i j - M i k * M k j).fdiv last
def swapM (p k : Nat) (M : Nat → Nat → Int) (i j : Nat) : Int := M (if i = p then k else if i = k then p else i) j
/-- What stands there after so many steps: the matrix, whether rows changed places an odd number of times, the last pivot. -/
inductive SW (n : Nat) (M0 : Nat → Nat → Int) : Nat → (Nat → Nat → Int) → Bool → Int → Prop
  | init : SW n M0 0 M0 false 1
  | step {k : Nat} {M : Nat → Nat → Int} {odd : Bool} {last : Int} (p : Nat) : SW n M0 k M odd last → k < n → k ≤ p → p < n → (∀ q, k ≤ q → q < p → M q k = 0) → M p k ≠ 0 →
      SW n M0 (k + 1) (stepM last k (swapM p k M)) (if p = k then odd else !odd) (swapM p k M k k)

theorem SW.last_ne {n : Nat} {M0 : Nat → Nat → Int} {k : Nat} {M : Nat → Nat → Int} {odd : Bool} {last : Int} (h : SW n M0 k M odd last) : last ≠ 0 := by
  cases h with
  | init => decide
  | @step k M odd last p h1 h2 h3 h4 h5 h6 =>
    unfold swapM
    by_cases q : p = k
    · subst q; simpa using h6
    · rw [if_neg (fun h => q h.symm), if_pos rfl]; exact h6

/-- Rows have changed places. -/
inductive RP (n : Nat) (M0 : Mat) : Mat → Bool → Prop
  | refl : RP n M0 M0 false
  | swap {A : Mat} {odd : Bool} (a b : Nat) : RP n M0 A odd → a < n → b < n → a ≠ b → RP n M0 (swapM a b A) (!odd)

theorem RP.row {n : Nat} {M0 A : Mat} {odd : Bool} (h : RP n M0 A odd) : ∀ i, i < n → ∃ i', i' < n ∧ ∀ j, A i' j = M0 i j := by
  induction h with
  | refl => exact fun i hi => ⟨i, hi, fun _ => rfl⟩
  | @swap A odd a b h1 h2 h3 h4 ih =>
    intro i hi
    obtain ⟨i', hi', e⟩ := ih i hi
    by_cases e1 : i' = a
    · exact ⟨b, h3, fun j => by unfold swapM; rw [if_neg (Ne.symm h4), if_pos rfl, ← e1]; exact e j⟩
    · by_cases e2 : i' = b
      · exact ⟨a, h2, fun j => by unfold swapM; rw [if_pos rfl, ← e2]; exact e j⟩
      · exact ⟨i', hi', fun j => by unfold swapM; rw [if_neg e1, if_neg e2]; exact e j⟩

/-- What holds after k steps. -/
structure Inv (n k : Nat) (M0 M : Mat) (odd : Bool) (d : Int) (A : Mat) : Prop where
  rp : RP n M0 A odd
  det : det k A = d
  ne : d ≠ 0
  rel : ∀ i, i < n → ∀ j, sumN k (fun l => A i l * M l j) + (if i < k then 0 else M i j) = d * A i j
  diag : ∀ j, j < k → ∀ l, l < n → M l j = if l = j then d else 0

theorem swapM_self (k : Nat) (M : Mat) : swapM k k M = M := by
  funext i j; unfold swapM; split
  · rename_i h; rw [h]
  · rfl

theorem inv_swap {n k p : Nat} {M0 M A : Mat} {odd : Bool} {d : Int} (h : Inv n k M0 M odd d A) (hk : k < n) (hp : k ≤ p) (hpn : p < n) : ∃ A', Inv n k M0 (swapM p k M) (if p = k then odd else !odd) d A' := by
  by_cases e : p = k
  · subst e; rw [swapM_self, if_pos rfl]; exact ⟨A, h⟩
  · rw [if_neg e]
    have low : ∀ (B : Mat) i j, i < k → swapM p k B i j = B i j := fun B i j hi => by unfold swapM; rw [if_neg (by omega), if_neg (by omega)]
    refine ⟨swapM p k A, .swap p k h.rp hpn hk e, ?_, h.ne, fun i hi j => ?_, fun j hj l hl => ?_⟩
    · rw [← h.det]; exact det_congr fun i hi j _ => low A i j hi
    · rw [sumN_congr (g := fun l => swapM p k A i l * M l j) fun l hl => by rw [low M l j hl]]
      by_cases e1 : i = p
      · subst e1
        have := h.rel k hk j
        unfold swapM
        rw [if_pos rfl]
        rw [if_neg (by omega)] at this ⊢
        exact this
      · by_cases e2 : i = k
        · subst e2
          have := h.rel p hpn j
          unfold swapM
          rw [if_neg e1, if_pos rfl]
          rw [if_neg (by omega)] at this ⊢
          exact this
        · have := h.rel i hi j
          unfold swapM
          rw [if_neg e1, if_neg e2]
          exact this
    · unfold swapM
      by_cases e1 : l = p
      · rw [if_pos e1, h.diag j hj k hk, if_neg (by omega), if_neg (by omega)]
      · by_cases e2 : l = k
        · rw [if_neg e1, if_pos e2, h.diag j hj p hpn, if_neg (by omega), if_neg (by omega)]
        · rw [if_neg e1, if_neg e2, h.diag j hj l hl]

theorem inv_step {n k : Nat} {M0 M A : Mat} {odd : Bool} {d : Int} (h : Inv n k M0 M odd d A) (hk : k < n) (hp : M k k ≠ 0) :
    Inv n (k + 1) M0 (stepM d k M) odd (M k k) A ∧ ∀ i, i < n → i ≠ k → ∀ j, d * stepM d k M i j = M k k * M i j - M i k * M k j := by
  -- the determinant
  have hdet : Num.det (k + 1) A = M k k := by
    have e1 := det_scale (n := k + 1) A (k := k) (fun i => A i k) d (by omega)
    rw [cset_self] at e1
    have e2 : Num.det (k + 1) (cset A k fun i => d * A i k) = Num.det (k + 1) (cset A k fun i => (sumN k fun l => M l k * A i l) + if i < k then 0 else M i k) := det_congr fun i hi j hj => by
      unfold cset
      split
      · dsimp only; rw [← h.rel i (by omega) k]; congr 1; exact sumN_congr fun l _ => Int.mul_comm _ _
      · rfl
    rw [e2, det_plus _ _ _ (by omega), det_sum A (by omega) (fun l => M l k) (fun l i => A i l),
      sumN_zero fun t ht => by rw [det_eqcol (cset A k fun i => A i t) (a := k) (b := t) (by omega) (by omega) (by omega) fun i _ => by rw [cset_at, cset_ne _ _ _ (by omega)]]; simp,
      det_block _ fun i hi => by rw [cset_at, if_pos hi], cset_at, if_neg (by omega),
      det_congr (A := cset A k _) (B := A) fun i _ j hj => cset_ne _ _ _ (by omega), h.det, Int.zero_add, Int.mul_comm] at e1
    exact (Int.eq_of_mul_eq_mul_left h.ne e1).symm
  -- the equations, not yet divided
  have heq : ∀ i, i < k + 1 → ∀ j, sumN (k + 1) (fun t => A i t * (if t < k then M k k * M t j - M t k * M k j else d * M k j)) = d * M k k * A i j := by
    intro i hi j
    simp only [sumN]
    rw [if_neg (by omega), sumN_congr (g := fun t => M k k * (A i t * M t j) - M k j * (A i t * M t k)) fun t ht => by
      rw [if_pos ht, Int.mul_sub]; congr 1 <;> ac_rfl, sumN_sub, sumN_mul, sumN_mul]
    have r1 := h.rel i (by omega) j
    have r2 := h.rel i (by omega) k
    by_cases e : i < k
    · rw [if_pos e, Int.add_zero] at r1 r2
      rw [r1, r2]
      have e1 : M k j * (d * A i k) = A i k * (d * M k j) := by ac_rfl
      have e2 : M k k * (d * A i j) = d * M k k * A i j := by ac_rfl
      omega
    · obtain rfl : i = k := by omega
      rw [if_neg e] at r1 r2
      have s1 : sumN i (fun l => A i l * M l j) = d * A i j - M i j := by omega
      have s2 : sumN i (fun l => A i l * M l i) = d * A i i - M i i := by omega
      rw [s1, s2, Int.mul_sub, Int.mul_sub]
      have e1 : M i j * (d * A i i) = A i i * (d * M i j) := by ac_rfl
      have e2 : M i i * (d * A i j) = d * M i i * A i j := by ac_rfl
      have e3 : M i j * M i i = M i i * M i j := Int.mul_comm _ _
      omega
  -- by Cramer's rule d divides
  have hdiv : ∀ l, l < k + 1 → ∀ j, (if l < k then M k k * M l j - M l k * M k j else d * M k j) = d * Num.det (k + 1) (cset A l fun i => A i j) := by
    intro l hl j
    have e1 := cramer (n := k + 1) A (fun t => if t < k then M k k * M t j - M t k * M k j else d * M k j) hl
    have e2 : Num.det (k + 1) (cset A l fun i => sumN (k + 1) fun t => A i t * (if t < k then M k k * M t j - M t k * M k j else d * M k j)) = Num.det (k + 1) (cset A l fun i => d * M k k * A i j) := det_congr fun i hi j' _ => by
      unfold cset; split
      · exact heq i hi j
      · rfl
    rw [e2, det_scale _ _ _ hl, hdet] at e1
    have e3 : M k k * (d * Num.det (k + 1) (cset A l fun i => A i j)) = M k k * (if l < k then M k k * M l j - M l k * M k j else d * M k j) := by
      rw [Int.mul_comm (M k k) (ite _ _ _), ← e1]; ac_rfl
    exact (Int.eq_of_mul_eq_mul_left hp e3).symm
  have hlow : ∀ l, l < k → ∀ j, M k k * M l j - M l k * M k j = d * stepM d k M l j := by
    intro l hl j
    have := hdiv l (by omega) j
    rw [if_pos hl] at this
    unfold stepM
    rw [if_neg (by omega), this, Int.mul_fdiv_cancel_left _ h.ne]
  have hhigh : ∀ i, i < n → k < i → ∀ j, M k k * M i j - M i k * M k j = d * (M k k * A i j - A i k * M k j - sumN k fun l => A i l * stepM d k M l j) := by
    intro i hi hki j
    have r1 := h.rel i hi j
    have r2 := h.rel i hi k
    rw [if_neg (by omega)] at r1 r2
    have s1 : M i j = d * A i j - sumN k (fun l => A i l * M l j) := by omega
    have s2 : M i k = d * A i k - sumN k (fun l => A i l * M l k) := by omega
    have e0 : d * sumN k (fun l => A i l * stepM d k M l j) = M k k * sumN k (fun l => A i l * M l j) - M k j * sumN k (fun l => A i l * M l k) := by
      rw [← sumN_mul, ← sumN_mul, ← sumN_mul, ← sumN_sub]
      refine sumN_congr fun l hl => ?_
      have : d * (A i l * stepM d k M l j) = A i l * (d * stepM d k M l j) := by ac_rfl
      rw [this, ← hlow l hl j, Int.mul_sub]
      congr 1 <;> ac_rfl
    rw [Int.mul_sub, Int.mul_sub, e0, s1, s2, Int.mul_sub, Int.sub_mul]
    have e1 : M k k * (d * A i j) = d * (M k k * A i j) := by ac_rfl
    have e2 : d * A i k * M k j = d * (A i k * M k j) := by ac_rfl
    have e3 : sumN k (fun l => A i l * M l k) * M k j = M k j * sumN k (fun l => A i l * M l k) := Int.mul_comm _ _
    omega
  have hst : ∀ i, i < n → k < i → ∀ j, stepM d k M i j = M k k * A i j - A i k * M k j - sumN k fun l => A i l * stepM d k M l j := by
    intro i hi hki j
    have := hhigh i hi hki j
    conv => lhs; unfold stepM
    rw [if_neg (by omega), this, Int.mul_fdiv_cancel_left _ h.ne]
  refine ⟨⟨h.rp, hdet, hp, fun i hi j => ?_, fun j hj l hl => ?_⟩, fun i hi hik j => ?_⟩
  · simp only [sumN]
    have ek : stepM d k M k j = M k j := if_pos rfl
    rw [ek]
    by_cases e : i < k + 1
    · rw [if_pos e, Int.add_zero]
      have := heq i e j
      simp only [sumN] at this
      rw [if_neg (by omega), sumN_congr (g := fun t => d * (A i t * stepM d k M t j)) fun t ht => by
        rw [if_pos ht, hlow t ht j]; ac_rfl, sumN_mul] at this
      have e2 : d * (sumN k (fun l => A i l * stepM d k M l j) + A i k * M k j) = d * (M k k * A i j) := by
        rw [Int.mul_add]
        have q1 : d * (A i k * M k j) = A i k * (d * M k j) := by ac_rfl
        have q2 : d * (M k k * A i j) = d * M k k * A i j := by ac_rfl
        omega
      exact Int.eq_of_mul_eq_mul_left h.ne e2
    · rw [if_neg e, hst i hi (by omega) j]
      omega
  · by_cases e : j = k
    · subst e
      unfold stepM
      by_cases e1 : l = j
      · rw [if_pos e1, if_pos e1]
      · rw [if_neg e1, if_neg e1, Int.mul_comm (M l j), Int.sub_self]; simp
    · have hjk : j < k := by omega
      have q1 := h.diag j hjk k hk
      rw [if_neg (by omega)] at q1
      have q2 := h.diag j hjk l hl
      unfold stepM
      by_cases e1 : l = k
      · rw [if_pos e1, if_neg (by omega)]; exact q1
      · rw [if_neg e1, q1, q2, Int.mul_zero, Int.sub_zero]
        split
        · rw [Int.mul_comm, Int.mul_fdiv_cancel_left _ h.ne]
        · simp
  · rcases Nat.lt_or_gt_of_ne hik with e | e
    · exact (hlow i e j).symm
    · rw [hst i hi e j]; exact (hhigh i hi e j).symm

theorem SW.inv {n : Nat} {M0 : Mat} {k : Nat} {M : Mat} {odd : Bool} {d : Int} (h : SW n M0 k M odd d) : ∃ A, Inv n k M0 M odd d A := by
  induction h with
  | init => exact ⟨M0, .refl, rfl, by decide, fun i hi j => by simp [sumN], fun j hj => by omega⟩
  | @step k M odd d p h1 h2 h3 h4 h5 h6 ih =>
    obtain ⟨A, hA⟩ := ih
    obtain ⟨A', hA'⟩ := inv_swap hA h2 h3 h4
    refine ⟨A', (inv_step hA' h2 ?_).1⟩
    unfold swapM
    by_cases q : p = k
    · subst q; simpa using h6
    · rw [if_neg (fun h => q h.symm), if_pos rfl]; exact h6

/-- What solves the equations. -/
theorem SW.solves {n : Nat} {M0 : Mat} {M : Mat} {odd : Bool} {d : Int} (h : SW n M0 n M odd d) : ∀ i, i < n → ∀ j, sumN n (fun l => M0 i l * M l j) = d * M0 i j := by
  intro i hi j
  obtain ⟨A, hA⟩ := h.inv
  obtain ⟨i', hi', e⟩ := hA.rp.row i hi
  have := hA.rel i' hi' j
  rw [if_pos hi', Int.add_zero, e, sumN_congr (g := fun l => M0 i l * M l j) fun l _ => by rw [e]] at this
  exact this
theorem SW.diag {n : Nat} {M0 : Mat} {M : Mat} {odd : Bool} {d : Int} (h : SW n M0 n M odd d) : ∀ j, j < n → ∀ l, l < n → M l j = if l = j then d else 0 := by
  obtain ⟨A, hA⟩ := h.inv
  exact hA.diag
end Go.Proofs.Ytbdknlejnacmgaa.Num
end

section
/-
  Determinants: there is one such function; products, rows for columns. Plain laws, no program in sight.
-/
namespace Go.Proofs.Ytbdknlejnacmgaa.Num
set_option linter.unusedVariables false
set_option linter.unusedSimpArgs false

theorem one_self (i : Nat) : one i i = 1 := if_pos rfl
theorem one_ne {i j : Nat} (h : i ≠ j) : one i j = 0 := if_neg h
/-- What a determinant does with columns. -/
structure Alt (n : Nat) (F : Mat → Int) : Prop where
  congr : ∀ A B : Mat, (∀ i, i < n → ∀ j, j < n → A i j = B i j) → F A = F B
  scale : ∀ (A : Mat) c x, c < n → F (cset A c fun i => x * A i c) = x * F A
  addcol : ∀ (A : Mat) a b x, a < n → b < n → a ≠ b → F (cset A a fun i => A i a + x * A i b) = F A
  swap : ∀ (A : Mat) a b, a < n → b < n → a ≠ b → F (cswap a b A) = -F A

theorem det_alt (n : Nat) : Alt n (det n) where
  congr := fun A B h => det_congr h
  scale := fun A c x hc => by rw [det_scale _ _ _ hc, cset_self]
  addcol := fun A a b x ha hb h => det_addcol A ha hb h x
  swap := fun A a b ha hb h => det_cswap A ha hb h

theorem Alt.addcols {n : Nat} {F : Mat → Int} (h : Alt n F) (A : Mat) {c : Nat} (hc : c < n) (x : Nat → Int) : ∀ m, m ≤ n → F (cset A c fun i => A i c + sumN m fun t => if t = c then 0 else x t * A i t) = F A
  | 0, _ => by
    rw [show (cset A c fun i => A i c + sumN 0 fun t => if t = c then 0 else x t * A i t) = cset A c fun i => A i c from by
      congr 1; funext i; simp [sumN], cset_self]
  | m + 1, hm => by
    rw [← h.addcols A hc x m (by omega)]
    by_cases e : m = c
    · congr 1; congr 1; funext i; simp only [sumN]; rw [if_pos e]; omega
    · rw [← h.addcol (cset A c fun i => A i c + sumN m fun t => if t = c then 0 else x t * A i t) c m (x m) hc (by omega) (Ne.symm e), cset_cset]
      congr 1; congr 1; funext i
      simp only [sumN]
      rw [cset_at, cset_ne _ _ _ e, if_neg e]; omega

section
variable {n : Nat} {F : Mat → Int}
def Uq (n : Nat) (F : Mat → Int) (A : Mat) : Prop := F A = F one * det n A
theorem Uq.scale (h : Alt n F) {A : Mat} {c : Nat} {x : Int} (hc : c < n) (hx : x ≠ 0) (u : Uq n F (cset A c fun i => x * A i c)) : Uq n F A := by
  unfold Uq at u ⊢
  rw [h.scale _ _ _ hc, (det_alt n).scale _ _ _ hc] at u
  refine Int.eq_of_mul_eq_mul_left hx ?_
  rw [u]; ac_rfl
theorem Uq.add (h : Alt n F) {A : Mat} {a b : Nat} {x : Int} (ha : a < n) (hb : b < n) (e : a ≠ b) (u : Uq n F (cset A a fun i => A i a + x * A i b)) : Uq n F A := by
  unfold Uq at u ⊢
  rw [h.addcol _ _ _ _ ha hb e, (det_alt n).addcol _ _ _ _ ha hb e] at u
  exact u
theorem Uq.swap (h : Alt n F) {A : Mat} {a b : Nat} (ha : a < n) (hb : b < n) (e : a ≠ b) (u : Uq n F (cswap a b A)) : Uq n F A := by
  unfold Uq at u ⊢
  rw [h.swap _ _ _ ha hb e, (det_alt n).swap _ _ _ ha hb e, Int.mul_neg] at u
  omega
theorem Uq.congr (h : Alt n F) {A B : Mat} (e : ∀ i, i < n → ∀ j, j < n → A i j = B i j) (u : Uq n F B) : Uq n F A := by
  unfold Uq at u ⊢
  rw [h.congr _ _ e, det_congr e]; exact u

/-- Below the diagonal alone, and behind some column the unit matrix. -/
theorem uq_low (h : Alt n F) : ∀ (m : Nat) (A : Mat), m ≤ n → (∀ i, i < n → ∀ j, j < n → i < j → A i j = 0) → (∀ j, m ≤ j → j < n → ∀ i, i < n → A i j = one i j) → Uq n F A
  | 0, A, _, _, h2 => Uq.congr h (B := one) (fun i hi j hj => h2 j (by omega) hj i hi) (by unfold Uq; rw [det_one]; omega)
  | m + 1, A, hm, h1, h2 => by
    have e1 := h.addcols A (c := m) (by omega) (fun t => if m < t then -A t m else 0) n (Nat.le_refl _)
    have e2 := (det_alt n).addcols A (c := m) (by omega) (fun t => if m < t then -A t m else 0) n (Nat.le_refl _)
    have e3 : ∀ G : Mat → Int, Alt n G → G (cset A m fun i => A i m + sumN n fun t => if t = m then 0 else (if m < t then -A t m else 0) * A i t) = A m m * G (cset A m fun i => one i m) := by
      intro G hG
      have := hG.scale (cset A m fun i => one i m) m (A m m) (by omega)
      rw [cset_cset] at this
      rw [← this]
      refine hG.congr _ _ fun i hi j hj => ?_
      unfold cset
      split
      · dsimp only
        rw [if_pos rfl]
        by_cases c : m < i
        · rw [sumN_one (k := i) hi fun t ht hne => by
            by_cases c1 : t = m
            · rw [if_pos c1]
            · rw [if_neg c1]
              by_cases c2 : m < t
              · rw [h2 t (by omega) ht i hi, one_ne (Ne.symm hne)]; simp
              · rw [if_neg c2]; simp]
          rw [if_neg (by omega), if_pos c, h2 i (by omega) hi i hi]
          unfold one; rw [if_pos rfl, if_neg (by omega)]; omega
        · rw [sumN_zero fun t ht => by
            by_cases c1 : t = m
            · rw [if_pos c1]
            · rw [if_neg c1]
              by_cases c2 : m < t
              · rw [h2 t (by omega) ht i hi, one_ne (by omega)]; simp
              · rw [if_neg c2]; simp]
          unfold one
          by_cases c1 : i = m
          · subst c1; rw [if_pos rfl]; omega
          · rw [if_neg c1, h1 i hi m (by omega) (by omega)]; simp
      · rfl
    rw [e3 F h] at e1
    rw [e3 (det n) (det_alt n)] at e2
    have u := uq_low h m (cset A m fun i => one i m) (by omega) (fun i hi j hj hij => by
      unfold cset; split
      · rename_i c; exact if_neg (by omega)
      · exact h1 i hi j hj hij) (fun j hj hjn i hi => by
      unfold cset; split
      · rename_i c; rw [c]
      · exact h2 j (by omega) hjn i hi)
    unfold Uq at u ⊢
    rw [← e1, ← e2, u]; ac_rfl

/-- One column behind the other is made nought in a row. -/
theorem uq_clear (h : Alt n F) (B : Mat) {r : Nat} (hr : r < n) (hp : B r r ≠ 0) : ∀ m, m ≤ n → Uq n F (fun i j => if r < j ∧ j < m then B r r * B i j - B r j * B i r else B i j) → Uq n F B
  | 0, _, u => Uq.congr h (fun i hi j hj => by rw [if_neg (by omega)]) u
  | m + 1, hm, u => by
    refine uq_clear h B hr hp m (by omega) ?_
    by_cases c : r < m
    · refine Uq.scale h (c := m) (x := B r r) (by omega) hp (Uq.add h (a := m) (b := r) (x := -B r m) (by omega) hr (by omega) (Uq.congr h (fun i hi j hj => ?_) u))
      unfold cset
      by_cases c1 : j = m
      · subst c1
        simp only [if_true]
        rw [if_neg (by omega), if_neg (show ¬ r = j by omega), if_neg (by omega), if_pos ⟨c, by omega⟩, Int.neg_mul]; omega
      · simp only [if_neg c1]
        by_cases c2 : r < j ∧ j < m
        · rw [if_pos c2, if_pos ⟨c2.1, by omega⟩]
        · rw [if_neg c2, if_neg (by omega)]
    · refine Uq.congr h (fun i hi j hj => ?_) u
      rw [if_neg (by omega), if_neg (by omega)]

theorem uq_from (h : Alt n F) : ∀ (d r : Nat) (A : Mat), d + r = n → (∀ i, i < r → ∀ j, j < n → i < j → A i j = 0) → Uq n F A
  | 0, r, A, hd, h1 => uq_low h n A (Nat.le_refl _) (fun i hi j hj hij => h1 i (by omega) j hj hij) fun j hj hjn => by omega
  | d + 1, r, A, hd, h1 => by
    by_cases z : ∀ j, j < n → r < j → A r j = 0
    · refine uq_from h d (r + 1) A (by omega) fun i hi j hj hij => ?_
      by_cases c : i = r
      · subst c; exact z j hj hij
      · exact h1 i (by omega) j hj hij
    · obtain ⟨c, hc⟩ := Classical.not_forall.1 z
      obtain ⟨hcn, hc⟩ := Classical.not_imp.1 hc
      obtain ⟨hrc, hc⟩ := Classical.not_imp.1 hc
      refine Uq.swap h (a := r) (b := c) (by omega) hcn (by omega) ?_
      have hB : cswap r c A r r ≠ 0 := by unfold cswap; rw [if_pos rfl]; exact hc
      have hz : ∀ i, i < r → ∀ j, j < n → i < j → cswap r c A i j = 0 := fun i hi j hj hij => by
        unfold cswap
        split
        · exact h1 i hi c hcn (by omega)
        · split
          · exact h1 i hi r (by omega) hi
          · exact h1 i hi j hj hij
      refine uq_clear h _ (by omega) hB n (Nat.le_refl _) (uq_from h d (r + 1) _ (by omega) fun i hi j hj hij => ?_)
      by_cases c1 : i = r
      · subst c1
        rw [if_pos ⟨hij, hj⟩, Int.mul_comm, Int.sub_self]
      · split
        · rw [hz i (by omega) j hj hij, hz i (by omega) r (by omega) (by omega)]; simp
        · exact hz i (by omega) j hj hij
/-- THERE IS ONE. -/
theorem Alt.uniq (h : Alt n F) (A : Mat) : F A = F one * det n A := uq_from h n 0 A (by omega) fun i hi => by omega
end

/-! ### Products -/
def mm (n : Nat) (φ ψ : Mat) : Mat := fun i j => sumN n fun k => φ i k * ψ k j
theorem mm_alt (n : Nat) (A : Mat) : Alt n fun B => det n (mm n A B) where
  congr := fun B C h => det_congr fun i hi j hj => sumN_congr fun k hk => by rw [h k hk j hj]
  scale := fun B c x hc => by
    have e : mm n A (cset B c fun i => x * B i c) = cset (mm n A B) c fun i => x * mm n A B i c := by
      funext i j; unfold mm cset
      split
      · dsimp only; rw [← sumN_mul]; exact sumN_congr fun k _ => by ac_rfl
      · rfl
    rw [e]; exact (det_alt n).scale _ _ _ hc
  addcol := fun B a b x ha hb h => by
    have e : mm n A (cset B a fun i => B i a + x * B i b) = cset (mm n A B) a fun i => mm n A B i a + x * mm n A B i b := by
      funext i j; unfold mm cset
      split
      · dsimp only; rw [← sumN_mul, ← sumN_add]; exact sumN_congr fun k _ => by rw [Int.mul_add]; congr 1; ac_rfl
      · rfl
    rw [e]; exact (det_alt n).addcol _ _ _ _ ha hb h
  swap := fun B a b ha hb h => (det_alt n).swap (mm n A B) a b ha hb h
theorem mm_one {n : Nat} (A : Mat) {i j : Nat} (hj : j < n) : mm n A one i j = A i j := by
  unfold mm
  rw [sumN_one (k := j) hj fun t ht h => by unfold one; rw [if_neg h]; simp]
  unfold one; rw [if_pos rfl]; simp
theorem det_mm (n : Nat) (A B : Mat) : det n (mm n A B) = det n A * det n B := by
  rw [(mm_alt n A).uniq B]
  congr 1
  exact det_congr fun i _ j hj => mm_one A hj

/-! ### Rows -/
theorem sw_iff (a b i j : Nat) : ((if i = a then b else if i = b then a else i) = j) ↔ (i = (if j = a then b else if j = b then a else j)) := by
  repeat' split
  all_goals omega
theorem swap_one (a b : Nat) : swapM a b one = cswap a b one := by
  funext i j
  show (if (if i = a then b else if i = b then a else i) = j then (1 : Int) else 0) = if i = (if j = a then b else if j = b then a else j) then 1 else 0
  by_cases h : (if i = a then b else if i = b then a else i) = j
  · rw [if_pos h, if_pos ((sw_iff a b i j).1 h)]
  · rw [if_neg h, if_neg fun g => h ((sw_iff a b i j).2 g)]
/-- A row of the unit matrix takes a row out. -/
theorem one_row {n : Nat} (A : Mat) {i j : Nat} (hi : i < n) : (sumN n fun k => one i k * A k j) = A i j := by
  rw [sumN_one (k := i) hi fun t _ ht => by rw [one_ne (Ne.symm ht)]; simp, one_self]; simp
theorem det_swapM {n : Nat} (A : Mat) {a b : Nat} (ha : a < n) (hb : b < n) (h : a ≠ b) : det n (swapM a b A) = -det n A := by
  have e1 : det n (swapM a b A) = det n (mm n (swapM a b one) A) := det_congr fun i hi j hj =>
    (one_row A (by split; exact hb; split; exact ha; exact hi)).symm
  rw [e1, det_mm, swap_one, det_cswap _ ha hb h, det_one]; simp
def radd (A : Mat) (a b : Nat) (x : Int) : Mat := fun i j => if i = a then A a j + x * A b j else A i j
theorem det_radd {n : Nat} (A : Mat) {a b : Nat} (x : Int) (ha : a < n) (hb : b < n) (h : a ≠ b) : det n (radd A a b x) = det n A := by
  have e1 : det n (radd A a b x) = det n (mm n (radd one a b x) A) := det_congr fun i hi j hj => by
    unfold radd mm
    by_cases c : i = a
    · rw [if_pos c, sumN_congr (g := fun k => one a k * A k j + x * (one b k * A k j)) fun k _ => by dsimp only; rw [if_pos c, Int.add_mul]; congr 1; ac_rfl, sumN_add, sumN_mul, one_row A ha, one_row A hb]
    · rw [if_neg c, sumN_congr (g := fun k => one i k * A k j) fun k _ => by dsimp only; rw [if_neg c], one_row A hi]
  have e2 : radd one a b x = cset one b fun i => one i b + x * one i a := by
    funext i j
    show (if i = a then (if a = j then (1 : Int) else 0) + x * (if b = j then 1 else 0) else if i = j then 1 else 0) = if j = b then (if i = b then 1 else 0) + x * (if i = a then 1 else 0) else if i = j then 1 else 0
    repeat' split
    all_goals omega
  rw [e1, det_mm, e2, det_addcol _ hb ha (Ne.symm h), det_one]; simp
def rscale (A : Mat) (a : Nat) (x : Int) : Mat := fun i j => if i = a then x * A a j else A i j
theorem det_rscale {n : Nat} (A : Mat) {a : Nat} (x : Int) (ha : a < n) : det n (rscale A a x) = x * det n A := by
  have e1 : det n (rscale A a x) = det n (mm n (rscale one a x) A) := det_congr fun i hi j hj => by
    unfold rscale mm
    by_cases c : i = a
    · rw [if_pos c, sumN_congr (g := fun k => x * (one a k * A k j)) fun k _ => by dsimp only; rw [if_pos c]; ac_rfl, sumN_mul, one_row A ha]
    · rw [if_neg c, sumN_congr (g := fun k => one i k * A k j) fun k _ => by dsimp only; rw [if_neg c], one_row A hi]
  have e2 : rscale one a x = cset one a fun i => x * one i a := by
    funext i j
    show (if i = a then x * (if a = j then (1 : Int) else 0) else if i = j then 1 else 0) = if j = a then x * (if i = a then 1 else 0) else if i = j then 1 else 0
    repeat' split
    all_goals omega
  rw [e1, det_mm, e2, (det_alt n).scale _ _ _ ha, det_one]; simp
def tr (A : Mat) : Mat := fun i j => A j i
theorem tr_alt (n : Nat) : Alt n fun A => det n (tr A) where
  congr := fun A B h => det_congr fun i hi j hj => h j hj i hi
  scale := fun A c x hc => by
    have e : tr (cset A c fun i => x * A i c) = rscale (tr A) c x := by funext i j; unfold tr cset rscale; rfl
    rw [e]; exact det_rscale _ _ hc
  addcol := fun A a b x ha hb h => by
    have e : tr (cset A a fun i => A i a + x * A i b) = radd (tr A) a b x := by funext i j; unfold tr cset radd; rfl
    rw [e]; exact det_radd _ _ ha hb h
  swap := fun A a b ha hb h => by
    have e : tr (cswap a b A) = swapM a b (tr A) := by funext i j; unfold tr cswap swapM; rfl
    rw [e]; exact det_swapM _ ha hb h
theorem det_tr (n : Nat) (A : Mat) : det n (tr A) = det n A := by
  have e : tr one = one := by
    funext i j
    show (if j = i then (1 : Int) else 0) = if i = j then 1 else 0
    repeat' split
    all_goals omega
  rw [(tr_alt n).uniq A, e, det_one]; omega

/-! ### What stands on the diagonal -/
theorem RP.det {n : Nat} {M0 A : Mat} {odd : Bool} (h : RP n M0 A odd) : Num.det n A = if odd then -Num.det n M0 else Num.det n M0 := by
  induction h with
  | refl => rfl
  | @swap A odd a b h1 h2 h3 h4 ih => rw [det_swapM _ h2 h3 h4, ih]; cases odd <;> simp
theorem SW.det {n : Nat} {M0 : Mat} {M : Mat} {odd : Bool} {d : Int} (h : SW n M0 n M odd d) : (if odd then -d else d) = Num.det n M0 := by
  obtain ⟨A, hA⟩ := h.inv
  have := hA.rp.det
  rw [hA.det] at this
  cases odd <;> simp at this ⊢ <;> omega
/-- No pivot: the determinant is nought. -/
theorem SW.det0 {n : Nat} {M0 : Mat} {k : Nat} {M : Mat} {odd : Bool} {d : Int} (h : SW n M0 k M odd d) (hk : k < n) (hz : ∀ q, k ≤ q → q < n → M q k = 0) : Num.det n M0 = 0 := by
  obtain ⟨A, hA⟩ := h.inv
  have e1 := det_scale (n := n) A (k := k) (fun i => A i k) d hk
  rw [cset_self] at e1
  have e2 : Num.det n (cset A k fun i => d * A i k) = Num.det n (cset A k fun i => sumN k fun l => M l k * A i l) := det_congr fun i hi j hj => by
    unfold cset
    split
    · dsimp only
      rw [← hA.rel i hi k]
      have : (if i < k then 0 else M i k) = 0 := by
        split
        · rfl
        · exact hz i (by omega) hi
      rw [this, Int.add_zero]
      exact sumN_congr fun l _ => Int.mul_comm _ _
    · rfl
  rw [e2, det_sum A hk (fun l => M l k) (fun l i => A i l),
    sumN_zero fun t ht => by rw [det_eqcol (cset A k fun i => A i t) (a := k) (b := t) hk (by omega) (by omega) fun i _ => by rw [cset_at, cset_ne _ _ _ (by omega)]]; simp] at e1
  have e3 : Num.det n A = 0 := by
    rcases Int.mul_eq_zero.1 e1.symm with h1 | h1
    · exact absurd h1 hA.ne
    · exact h1
  have := hA.rp.det
  rw [e3] at this
  cases odd <;> simp at this <;> omega
end Go.Proofs.Ytbdknlejnacmgaa.Num
end
