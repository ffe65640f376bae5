/-
  Each operation, on: least and greatest, parts of lists and strings.
-/
import Derived.Test.YtbdknlejnacmgaaPiM
namespace Go.Proofs.Ytbdknlejnacmgaa.Pi
open Go
set_option linter.unusedVariables false
set_option linter.unusedSimpArgs false
section
variable {P : Program} {base : Nat} {bio : Option Nat} {w0 : World} {M0 : Mem} {bk0 : Option Blk} {nt : Nat} {L : List Nat} {s : St} {M : Mem} {μ : NMap} {β : Nat → Option Nm} {a : Act} {w : World}
variable {o : Oper} {d : Option Nat} {K : Act → World → Prop} {Q : Exit → Act → World → Prop} {F : CallF} {gd : Option (Nat × Bool)} {wl : Option Nat} {av : List Nat} {e : Eff}

theorem maxInts_step {k : IntKind} {x y : Int} {r : List PV} {m : PV} (h : maxInts (.int k x :: .int k y :: r) = some m) : maxInts (.int k (if y > x then y else x) :: r) = some m := by
  have e1 : (if y > x then y else x) = max x y := by omega
  rw [e1]
  cases r with
  | nil => simpa [maxInts] using h
  | cons z r =>
    simp only [maxInts] at h ⊢
    cases hr : maxInts (z :: r) with
    | none => rw [hr] at h; simp at h
    | some q =>
      rw [hr] at h
      cases q <;> simp at h ⊢
      rename_i k' n
      cases hd : decide (k = k') with
      | false => simp at hd; simp [hd] at h
      | true => simp at hd; subst hd; simp at h ⊢; rw [← h]; first | done | (congr 1; omega)

theorem minInts_step {k : IntKind} {x y : Int} {r : List PV} {m : PV} (h : minInts (.int k x :: .int k y :: r) = some m) : minInts (.int k (if y < x then y else x) :: r) = some m := by
  have e1 : (if y < x then y else x) = min x y := by omega
  rw [e1]
  cases r with
  | nil => simpa [minInts] using h
  | cons z r =>
    simp only [minInts] at h ⊢
    cases hr : minInts (z :: r) with
    | none => rw [hr] at h; simp at h
    | some q =>
      rw [hr] at h
      cases q <;> simp at h ⊢
      rename_i k' n
      cases hd : decide (k = k') with
      | false => simp at hd; simp [hd] at h
      | true => simp at hd; subst hd; simp at h ⊢; rw [← h]; first | done | (congr 1; omega)

theorem maxInts_int {p : PV} {r : List PV} {m : PV} (h : maxInts (p :: r) = some m) : ∃ k x, p = .int k x ∧ ∃ y, m = .int k y ∧ ∀ q q', r.head? = some q → maxInts r = some q' → ∃ y', q' = .int k y' := by
  cases p
  case int k x =>
    refine ⟨k, x, rfl, ?_⟩
    cases r with
    | nil => simp [maxInts] at h; exact ⟨x, h.symm, fun q q' h => by simp at h⟩
    | cons z r =>
      simp only [maxInts] at h
      split at h
      · rename_i k' b hr
        obtain ⟨hk, h2⟩ := cond_some h
        clear h
        simp at hk
        subst hk
        cases h2
        exact ⟨_, rfl, fun q q' _ hq => ⟨b, by rw [hr] at hq; cases hq; rfl⟩⟩
      · cases h
  all_goals (cases r <;> simp [maxInts] at h)

theorem minInts_int {p : PV} {r : List PV} {m : PV} (h : minInts (p :: r) = some m) : ∃ k x, p = .int k x ∧ ∃ y, m = .int k y ∧ ∀ q q', r.head? = some q → minInts r = some q' → ∃ y', q' = .int k y' := by
  cases p
  case int k x =>
    refine ⟨k, x, rfl, ?_⟩
    cases r with
    | nil => simp [minInts] at h; exact ⟨x, h.symm, fun q q' h => by simp at h⟩
    | cons z r =>
      simp only [minInts] at h
      split at h
      · rename_i k' b hr
        obtain ⟨hk, h2⟩ := cond_some h
        clear h
        simp at hk
        subst hk
        cases h2
        exact ⟨_, rfl, fun q q' _ hq => ⟨b, by rw [hr] at hq; cases hq; rfl⟩⟩
      · cases h
  all_goals (cases r <;> simp [minInts] at h)

theorem maxInts_tail {k : IntKind} {x : Int} {q : PV} {r : List PV} {m : PV} (h : maxInts (.int k x :: q :: r) = some m) : ∃ y, q = .int k y := by
  simp only [maxInts] at h
  split at h
  · rename_i k' b hr
    obtain ⟨hk, h⟩ := cond_some h
    simp at hk
    subst hk
    obtain ⟨k2, x2, rfl, y2, h2, _⟩ := maxInts_int hr
    cases h2
    exact ⟨_, rfl⟩
  · cases h
theorem minInts_tail {k : IntKind} {x : Int} {q : PV} {r : List PV} {m : PV} (h : minInts (.int k x :: q :: r) = some m) : ∃ y, q = .int k y := by
  simp only [minInts] at h
  split at h
  · rename_i k' b hr
    obtain ⟨hk, h⟩ := cond_some h
    simp at hk
    subst hk
    obtain ⟨k2, x2, rfl, y2, h2, _⟩ := minInts_int hr
    cases h2
    exact ⟨_, rfl⟩
  · cases h

theorem max_run : ∀ (ps : List PV) (vs : List Value) (k : IntKind) (x : Int) (m : PV), maxInts (.int k x :: ps) = some m → ps.length = vs.length → (∀ (i : Nat) (p : PV) (v : Value), ps[i]? = some p → vs[i]? = some v → Rep M μ p v) →
    ∃ v, (vs.foldlM Builtin.max2 (.int k x) : Sem Value).run P w = .ok v w ∧ Rep M μ m v
  | [], [], k, x, m, h, _, _ => by simp [maxInts] at h; subst h; exact ⟨_, rfl, .int _ _⟩
  | p :: ps, v :: vs, k, x, m, h, hl, hr => by
    obtain ⟨y, rfl⟩ := maxInts_tail h
    have h0 := hr 0 _ _ rfl rfl
    cases h0
    obtain ⟨u, h1, h2⟩ := max_run ps vs k _ m (maxInts_step h) (by simpa using hl) (fun i p v hp hv => hr (i + 1) p v (by simpa using hp) (by simpa using hv))
    refine ⟨u, ?_, h2⟩
    simpa [List.foldlM_cons, Builtin.max2] using h1
  | [], _ :: _, _, _, _, _, hl, _ => by simp at hl
  | _ :: _, [], _, _, _, _, hl, _ => by simp at hl

theorem min_run : ∀ (ps : List PV) (vs : List Value) (k : IntKind) (x : Int) (m : PV), minInts (.int k x :: ps) = some m → ps.length = vs.length → (∀ (i : Nat) (p : PV) (v : Value), ps[i]? = some p → vs[i]? = some v → Rep M μ p v) →
    ∃ v, (vs.foldlM Builtin.min2 (.int k x) : Sem Value).run P w = .ok v w ∧ Rep M μ m v
  | [], [], k, x, m, h, _, _ => by simp [minInts] at h; subst h; exact ⟨_, rfl, .int _ _⟩
  | p :: ps, v :: vs, k, x, m, h, hl, hr => by
    obtain ⟨y, rfl⟩ := minInts_tail h
    have h0 := hr 0 _ _ rfl rfl
    cases h0
    obtain ⟨u, h1, h2⟩ := min_run ps vs k _ m (minInts_step h) (by simpa using hl) (fun i p v hp hv => hr (i + 1) p v (by simpa using hp) (by simpa using hv))
    refine ⟨u, ?_, h2⟩
    simpa [List.foldlM_cons, Builtin.min2] using h1
  | [], _ :: _, _, _, _, _, hl, _ => by simp at hl
  | _ :: _, [], _, _, _, _, hl, _ => by simp at hl

theorem pur_mm (hs : Sim base bio w0 M0 bk0 nt L s M μ β a w) {mx : Bool} {xs : List PArg} (ok : okOp P o.op o.type (.mm mx xs) = true) (hev : evOp F s ⟨d, .mm mx xs, gd, wl, av⟩ = some e) : Pur P M μ o a w e := by
  simp only [evOp] at hev
  obtain ⟨m, hm, rfl⟩ := Option.map_eq_some_iff.1 hev
  simp only [okOp] at ok
  split at ok
  · rename_i args ats he
    simp only [Bool.and_eq_true] at ok
    obtain ⟨rfl, ok⟩ := ok
    obtain ⟨h1, h2⟩ := okArgs_rep hs.regs ok
    obtain ⟨al⟩ := args
    simp only [if_true] at hm
    cases xs with
    | nil => simp [maxInts] at hm
    | cons x xs =>
      cases al with
      | nil => simp at h1
      | cons y ys =>
        obtain ⟨k, n, hx, _⟩ := maxInts_int hm
        have h0 := h2 0 _ _ rfl rfl
        rw [hx] at h0
        generalize hv : a.eval y = v at h0
        cases h0
        rw [List.map_cons, hx] at hm
        obtain ⟨u, hu, hr⟩ := max_run (P := P) (w := w) (M := M) (μ := μ) (xs.map s.ev) (ys.map a.eval) k n m hm (by simpa using h1) (fun i p v hp hv => by
          rw [List.getElem?_map, Option.map_eq_some_iff] at hp hv
          obtain ⟨p', hp', rfl⟩ := hp
          obtain ⟨v', hv', rfl⟩ := hv
          exact h2 (i + 1) _ _ (by simpa using hp') (by simpa using hv'))
        obtain ⟨cs, hcs⟩ := builtin_run (P := P) (a := a) (w := w) he
        exact ⟨m, u, rfl, by rw [hcs]; simp [builtin, Builtin.max_, hv, hu], hr⟩
  · rename_i args ats he
    simp only [Bool.and_eq_true, Bool.not_eq_true'] at ok
    obtain ⟨rfl, ok⟩ := ok
    obtain ⟨h1, h2⟩ := okArgs_rep hs.regs ok
    obtain ⟨al⟩ := args
    simp only [Bool.false_eq_true, if_false] at hm
    cases xs with
    | nil => simp [minInts] at hm
    | cons x xs =>
      cases al with
      | nil => simp at h1
      | cons y ys =>
        obtain ⟨k, n, hx, _⟩ := minInts_int hm
        have h0 := h2 0 _ _ rfl rfl
        rw [hx] at h0
        generalize hv : a.eval y = v at h0
        cases h0
        rw [List.map_cons, hx] at hm
        obtain ⟨u, hu, hr⟩ := min_run (P := P) (w := w) (M := M) (μ := μ) (xs.map s.ev) (ys.map a.eval) k n m hm (by simpa using h1) (fun i p v hp hv => by
          rw [List.getElem?_map, Option.map_eq_some_iff] at hp hv
          obtain ⟨p', hp', rfl⟩ := hp
          obtain ⟨v', hv', rfl⟩ := hv
          exact h2 (i + 1) _ _ (by simpa using hp') (by simpa using hv'))
        obtain ⟨cs, hcs⟩ := builtin_run (P := P) (a := a) (w := w) he
        exact ⟨m, u, rfl, by rw [hcs]; simp [builtin, Builtin.min_, hv, hu], hr⟩
  · cases ok

/-! ### Parts -/
theorem bnd_rep (hs : Sim base bio w0 M0 bk0 nt L s M μ β a w) {x' : Option Operand} {x : Option PArg} {df b : Nat} (ok : okOpt x' x = true) (h : bnd s df x = some b) :
    (x' = none ∧ x = none ∧ b = df) ∨ ∃ y q k, x' = some y ∧ x = some q ∧ a.eval y = .int k (b : Int) := by
  unfold okOpt at ok
  split at ok
  · simp only [bnd, Option.some.injEq] at h
    exact .inl ⟨rfl, rfl, h.symm⟩
  · obtain ⟨k, hk⟩ := nat?_rep h (okArg_rep hs.regs ok)
    exact .inr ⟨_, _, k, rfl, rfl, hk⟩
  · cases ok

theorem bound_run (k : IntKind) (n y : Nat) (c : BoundsCode) (h : n ≤ y) : (Instr.sliceBound (.int k (n : Int)) y c).run P w = .ok n w := by
  have := run_sliceBound (P := P) w k (n : Int) y c (by omega) (by omega)
  simpa using this

/-- The bounds, no third one. -/
theorem bounds2 (hs : Sim base bio w0 M0 bk0 nt L s M μ β a w) {lo' hi' : Option Operand} {lo hi : Option PArg} {len cap l h : Nat} (isS : Bool) (okl : okOpt lo' lo = true) (okh : okOpt hi' hi = true)
    (hh : bnd s len hi = some h) (hl : bnd s 0 lo = some l) (h1 : l ≤ h) (h2 : h ≤ len) (h3 : len ≤ cap) :
    (Instr.sliceBounds isS len cap (lo'.map a.eval) (hi'.map a.eval) none).run P w = .ok (l, h, cap) w := by
  rcases bnd_rep hs okh hh with ⟨rfl, rfl, rfl⟩ | ⟨y, q, k, rfl, rfl, ey⟩ <;> rcases bnd_rep hs okl hl with ⟨rfl, rfl, rfl⟩ | ⟨y2, q2, k2, rfl, rfl, ey2⟩
  · simp [Instr.sliceBounds]
  · simp [Instr.sliceBounds, ey2, bound_run (P := P) (w := w) k2 l _ _ h1]
  · simp [Instr.sliceBounds, ey, bound_run (P := P) (w := w) k h cap _ (by omega)]
  · simp [Instr.sliceBounds, ey, ey2, bound_run (P := P) (w := w) k h cap _ (by omega), bound_run (P := P) (w := w) k2 l h _ h1]

/-- The bounds, and the third one. -/
theorem bounds3 (hs : Sim base bio w0 M0 bk0 nt L s M μ β a w) {lo' hi' mx' : Option Operand} {lo hi : Option PArg} {m : PArg} {len cap l h : Nat} (okl : okOpt lo' lo = true) (okh : okOpt hi' hi = true) (okm : okOpt mx' (some m) = true)
    (hh : bnd s len hi = some h) (hl : bnd s 0 lo = some l) (hm : nat? (s.ev m) = some h) (h1 : l ≤ h) (h2 : h ≤ len) (h3 : len ≤ cap) (hsome : hi.isSome = true) :
    (Instr.sliceBounds true len cap (lo'.map a.eval) (hi'.map a.eval) (mx'.map a.eval)).run P w = .ok (l, h, h) w := by
  have hm' : bnd s 0 (some m) = some h := hm
  rcases bnd_rep hs okm hm' with ⟨_, h', _⟩ | ⟨y3, q3, k3, rfl, _, ey3⟩
  · cases h'
  · rcases bnd_rep hs okh hh with ⟨rfl, rfl, rfl⟩ | ⟨y, q, k, rfl, rfl, ey⟩ <;> rcases bnd_rep hs okl hl with ⟨rfl, rfl, rfl⟩ | ⟨y2, q2, k2, rfl, rfl, ey2⟩
    · simp at hsome
    · simp at hsome
    · simp [Instr.sliceBounds, ey, ey3, bound_run (P := P) (w := w) k3 h cap _ (by omega), bound_run (P := P) (w := w) k h h _ (by omega)]
    · simp [Instr.sliceBounds, ey, ey2, ey3, bound_run (P := P) (w := w) k3 h cap _ (by omega), bound_run (P := P) (w := w) k h h _ (by omega), bound_run (P := P) (w := w) k2 l h _ h1]

/-- A part of a view. -/
theorem view_part {xs : List (List PV)} {A : Option Addr} {cap l h m sz : Nat} (hr : Rep M μ (.view xs) (.slice A xs.length cap)) (h1 : l ≤ h) (h2 : h ≤ xs.length) (h3 : h ≤ m) (h4 : m ≤ cap)
    (hsz : ((xs[0]?).map fun x => x.length == sz).getD true = true) : Rep M μ (.view ((xs.take h).drop l)) (.slice (if m = l then A else A.map (·.add (l * sz))) (h - l) (m - l)) := by
  cases hr with
  | view sz' c hc hs' hm hh =>
    have hlen : ((xs.take h).drop l).length = h - l := by simp; omega
    have hget : ∀ i x, ((xs.take h).drop l)[i]? = some x → xs[l + i]? = some x ∧ l + i < h := by
      intro i x hx
      rw [List.getElem?_drop, List.getElem?_take] at hx
      split at hx
      · exact ⟨hx, by assumption⟩
      · cases hx
    rw [← hlen]
    refine .view sz' (fun i j => c (l + i) j) (by rw [hlen]; omega) (fun i x hx => hs' _ x (hget i x hx).1) (fun i x j p hx hp => ?_) (fun i x j p hx hp => hh _ x j p (hget i x hx).1 hp)
    obtain ⟨g1, g2⟩ := hget i x hx
    obtain ⟨ad, rfl, q1, q2⟩ := hm _ x j p g1 hp
    have hne : ¬ (m = l) := by omega
    have hz : sz' = sz := by
      have h0 : 0 < xs.length := by omega
      have e1 := hs' 0 _ (List.getElem?_eq_getElem h0)
      rw [List.getElem?_eq_getElem h0] at hsz
      simp at hsz
      omega
    subst hz
    refine ⟨ad.add (l * sz'), by simp [hne], ?_, q2⟩
    rw [add_add, ← Nat.add_assoc, ← Nat.add_mul]
    exact q1

theorem own_part {nm : Nm} {off len cap l h : Nat} {A : Option Addr} {sz : Nat} (hr : Rep M μ (.own nm sz off len) (.slice A len cap)) (h1 : l ≤ h) (h2 : h ≤ len) :
    Rep M μ (.own nm sz (off + l) (h - l)) (.slice (if cap = l then A else A.map (·.add (l * sz))) (h - l) (cap - l)) := by
  cases hr with
  | @own _ _ _ _ _ _ _ bk hn hq hl ht hm ha hz =>
    refine .own hn hq (by omega) (by omega) hm (fun hc => ?_) hz
    by_cases he : cap = l
    · rw [if_pos he]
      have h0 : off + l = 0 := by omega
      have h5 : off = 0 := by omega
      have h6 : l = 0 := by omega
      subst h5; subst h6
      simpa using ha (.inl rfl)
    · rw [if_neg he]
      rcases ha (.inr (by omega)) with ⟨g1, rfl⟩ | ⟨b, hb, rfl⟩
      · exact .inl ⟨g1, rfl⟩
      · refine .inr ⟨b, hb, ?_⟩
        simp only [Option.map_some, add_none]
        rw [hq, ← Nat.add_mul]

theorem str_part (sb : ByteArray) (l h : Nat) (h1 : l ≤ h) (h2 : h ≤ sb.size) : (sb.extract l h).data.toList.map UInt8.toNat = ((sb.data.toList.map UInt8.toNat).take h).drop l := by
  rw [ByteArray.data_extract, Array.toList_extract]
  simp [List.extract_eq_take_drop, List.map_take, List.map_drop, List.drop_take]

theorem pur_slice (hs : Sim base bio w0 M0 bk0 nt L s M μ β a w) {str : Bool} {sz : Nat} {x : PArg} {lo hi mx : Option PArg} (ok : okOp P o.op o.type (.slice str sz x lo hi mx) = true)
    (hev : evOp F s ⟨d, .slice str sz x lo hi mx, gd, wl, av⟩ = some e) : Pur P M μ o a w e := by
  simp only [okOp] at ok
  split at ok
  · rename_i t x' lo' hi' mx' he
    simp only [Bool.and_eq_true] at ok
    obtain ⟨⟨⟨⟨⟨okx, okl⟩, okh⟩, okm⟩, okhm⟩, okt⟩ := ok
    have hr := okArg_rep hs.regs okx
    have key : ∀ et, P.underlying t = some (.slice et) → sizeT P et = some sz → ∀ A len cap b, a.eval x' = .slice A len cap → (Instr.sliceBounds true len cap (lo'.map a.eval) (hi'.map a.eval) (mx'.map a.eval)).run P w = .ok b w →
        (execOp a.eval o).run P w = .ok (.value (.slice (if b.2.2 = b.1 then A else A.map (·.add (b.1 * sz))) (b.2.1 - b.1) (b.2.2 - b.1))) w := by
      intro et hu hz A len cap b hx hb
      simp [execOp, he, hx, Instr.sliceAt, run_underlying hu, Instr.slice, hb, sizeT_run hz]
    split at okt
    · rename_i et hu
      simp only [Bool.and_eq_true, beq_iff_eq, decide_eq_true_eq, Bool.not_eq_true'] at okt
      obtain ⟨⟨rfl, hz⟩, hsp⟩ := okt
      have key := key et hu hz
      simp only [evOp] at hev
      split at hev
      · rename_i xs hx
        obtain ⟨b, hb, hev⟩ := Option.bind_eq_some_iff.1 hev
        obtain ⟨l, hl, hev⟩ := Option.bind_eq_some_iff.1 hev
        obtain ⟨hc, hev⟩ := cond_some hev
        simp only [Bool.not_false, Bool.true_and, Bool.and_eq_true, decide_eq_true_eq] at hc
        obtain ⟨⟨h1, h2⟩, h3⟩ := hc
        rw [hx] at hr
        generalize hv : a.eval x' = v at hr key
        have ⟨A, cap, hvv, hcap⟩ : ∃ A cap, v = .slice A xs.length cap ∧ xs.length ≤ cap := by cases hr with | view _ _ hc _ _ _ => exact ⟨_, _, rfl, hc⟩
        subst hvv
        split at hev
        · cases hev
          have hmn : mx' = none := by cases mx' <;> simp [okOpt] at okm ⊢
          subst hmn
          exact ⟨_, _, rfl, key _ _ _ _ rfl (bounds2 hs true okl okh hb hl h1 h2 hcap), view_part hr h1 h2 (by show b ≤ cap; omega) (Nat.le_refl _) h3⟩
        · rename_i m
          obtain ⟨k, hk, hev⟩ := Option.bind_eq_some_iff.1 hev
          obtain ⟨hkb, hev⟩ := cond_some hev
          simp only [decide_eq_true_eq] at hkb
          subst hkb
          have hrun := fun hsome => key _ _ _ _ rfl (bounds3 hs okl okh okm hb hl hk h1 h2 hcap hsome)
          have hsome : hi.isSome = true := by simpa using okhm
          cases hlk : decide (l = k) with
          | true =>
            rw [hlk] at hev
            simp only [cond_true, Option.some.injEq] at hev
            subst hev
            simp only [decide_eq_true_eq] at hlk
            subst hlk
            exact ⟨_, _, rfl, hrun hsome, by simp only [Nat.sub_self]; exact .nil0⟩
          | false =>
            rw [hlk] at hev
            simp only [cond_false, Option.some.injEq] at hev
            subst hev
            exact ⟨_, _, rfl, hrun hsome, view_part hr h1 h2 (Nat.le_refl _) (by show k ≤ cap; omega) h3⟩
      · rename_i nm zs off len hx
        obtain ⟨b, hb, hev⟩ := Option.bind_eq_some_iff.1 hev
        obtain ⟨l, hl, hev⟩ := Option.bind_eq_some_iff.1 hev
        obtain ⟨hc, hev⟩ := cond_some hev
        simp only [Bool.not_false, Bool.true_and, Bool.and_eq_true, decide_eq_true_eq, beq_iff_eq] at hc
        obtain ⟨⟨rfl, h1⟩, h2⟩ := hc
        rw [hx] at hr
        generalize hv : a.eval x' = v at hr key
        have ⟨A, cap, hvv, hcap⟩ : ∃ A cap, v = .slice A len cap ∧ len ≤ cap := by
          obtain ⟨A, cap, bk, rfl, _, _, g, _⟩ := own_inv hr
          exact ⟨_, _, rfl, g⟩
        subst hvv
        split at hev
        · cases hev
          have hmn : mx' = none := by cases mx' <;> simp [okOpt] at okm ⊢
          subst hmn
          exact ⟨_, _, rfl, key _ _ _ _ rfl (bounds2 hs true okl okh hb hl h1 h2 hcap), own_part hr h1 h2⟩
        · rename_i m
          obtain ⟨k, hk, hev⟩ := Option.bind_eq_some_iff.1 hev
          obtain ⟨hkb, hev2⟩ := cond_some hev
          clear hev
          simp only [Bool.and_eq_true, decide_eq_true_eq] at hkb
          obtain ⟨hkb, hlb⟩ := hkb
          subst hkb
          subst hlb
          cases hev2
          have hrun := fun hsome => key _ _ _ _ rfl (bounds3 hs okl okh okm hb hl hk h1 h2 hcap hsome)
          have hsome : hi.isSome = true := by simpa using okhm
          exact ⟨_, _, rfl, hrun hsome, by simp only [Nat.sub_self]; exact .nil0⟩
      · rename_i hx
        obtain ⟨b, hb, hev⟩ := Option.bind_eq_some_iff.1 hev
        obtain ⟨l, hl, hev⟩ := Option.bind_eq_some_iff.1 hev
        obtain ⟨hc, hev⟩ := cond_some hev
        simp only [Bool.not_false, Bool.true_and, Bool.and_eq_true, decide_eq_true_eq] at hc
        obtain ⟨rfl, rfl⟩ := hc
        rw [hx] at hr
        generalize hv : a.eval x' = v at hr key
        have ⟨A, hvv⟩ : ∃ A, v = .slice A 0 0 := by cases hr; exact ⟨_, rfl⟩
        subst hvv
        split at hev
        · cases hev
          have hmn : mx' = none := by cases mx' <;> simp [okOpt] at okm ⊢
          subst hmn
          exact ⟨_, _, rfl, key _ _ _ _ rfl (bounds2 hs true okl okh hb hl (Nat.le_refl _) (Nat.le_refl _) (Nat.le_refl _)), by simp only [Nat.sub_self]; exact .nil0⟩
        · rename_i m
          obtain ⟨k, hk, hev⟩ := Option.bind_eq_some_iff.1 hev
          obtain ⟨hkb, hev⟩ := cond_some hev
          simp only [decide_eq_true_eq] at hkb
          subst hkb
          cases hev
          have hsome : hi.isSome = true := by simpa using okhm
          exact ⟨_, _, rfl, key _ _ _ _ rfl (bounds3 hs okl okh okm hb hl hk (Nat.le_refl _) (Nat.le_refl _) (Nat.le_refl _) hsome), by simp only [Nat.sub_self]; exact .nil0⟩
      · simp at hev
      · cases hev
    · rename_i hu
      subst okt
      simp only [evOp] at hev
      split at hev
      · simp at hev
      · simp at hev
      · simp at hev
      · rename_i l hx
        obtain ⟨b, hb, hev⟩ := Option.bind_eq_some_iff.1 hev
        obtain ⟨k, hl, hev⟩ := Option.bind_eq_some_iff.1 hev
        obtain ⟨hc, hev2⟩ := cond_some hev
        clear hev
        simp only [Bool.true_and, Bool.and_eq_true, decide_eq_true_eq, Option.isNone_iff_eq_none] at hc
        obtain ⟨⟨h1, h2⟩, rfl⟩ := hc
        cases hev2
        have hmn : mx' = none := by cases mx' <;> simp [okOpt] at okm ⊢
        subst hmn
        rw [hx] at hr
        generalize hv : a.eval x' = v at hr
        cases hr with
        | @str _ _ sb h =>
          have hlen : l.length = sb.size := by rw [← h]; simp
          rw [hlen] at hb h2
          have hbs := bounds2 (P := P) hs (cap := sb.size) false okl okh hb hl h1 h2 (Nat.le_refl _)
          refine ⟨_, .string (sb.extract k b), rfl, ?_, .str (by rw [str_part _ _ _ h1 h2, h])⟩
          have hbs : (Instr.sliceBounds false sb.size sb.size (lo'.map a.eval) (hi'.map a.eval) none).run P w = .ok (k, b, sb.size) w := hbs
          simp [execOp, he, hv, Instr.sliceAt, run_underlying hu, Instr.slice, hbs]
      · cases hev
    · cases okt
  · cases ok

end
end Go.Proofs.Ytbdknlejnacmgaa.Pi
