/-
  What an operation looks at, and what it changes: so that two of them may go in either order.
-/
import Derived.Test.YtbdknlejnacmgaaPiS
namespace Go.Proofs.Ytbdknlejnacmgaa.Pi
open Go
set_option linter.unusedVariables false
set_option linter.unusedSimpArgs false

/-- The same to an operation. -/
structure Alike (o : POper) (s s' : St) : Prop where
  ev : ∀ x ∈ o.op.args, s.ev x = s'.ev x
  g : s.g = s'.g
  h : o.op.kind ≠ 0 → ∀ l g, okAv o.av l = true → efind s.h l g = efind s'.h l g
  z : 2 ≤ o.op.kind → ∀ l g, okAv o.av l = true → (o.op.kind = 2 → okW o.wl l = true) → zin s.z l g = zin s'.z l g

section
variable {s s' : St} {F : CallF} {h h' : List Ent} {av : List Nat}

theorem hobj_eq (h1 : ∀ l g, okAv av l = true → efind h l g = efind h' l g) {n : Nm} (hn : okAv av n.l = true) : hobj h n = hobj h' n := by
  unfold hobj
  rw [h1 _ _ hn]

/-- Labels that a conversion met. -/
def Met (av : List Nat) (zs : List (Nat × Nat)) : Prop := ∀ x ∈ zs, okAv av x.1 = true
theorem Met.left {a b : List (Nat × Nat)} (h : Met av (a ++ b)) : Met av a := fun x hx => h x (List.mem_append.2 (.inl hx))
theorem Met.right {a b : List (Nat × Nat)} (h : Met av (a ++ b)) : Met av b := fun x hx => h x (List.mem_append.2 (.inr hx))
theorem Met.tail {a : Nat × Nat} {b : List (Nat × Nat)} (h : Met av (a :: b)) : Met av b := fun x hx => h x (List.mem_cons.2 (.inr hx))
theorem Met.head {a : Nat × Nat} {b : List (Nat × Nat)} (h : Met av (a :: b)) : okAv av a.1 = true := h a (by simp)

/-- A conversion looks at no more than what it meets. -/
def LocF (av : List Nat) (f f' : PV → Option (PV × List (Nat × Nat))) : Prop := ∀ p q zs, f p = some (q, zs) → Met av zs → f' p = some (q, zs)

theorem fzl_loc {f f' : PV → Option (PV × List (Nat × Nat))} (hf : LocF av f f') : ∀ {xs ys : List PV} {zs : List (Nat × Nat)}, fzl f xs = some (ys, zs) → Met av zs → fzl f' xs = some (ys, zs)
  | [], ys, zs, e, _ => e
  | x :: xs, ys, zs, e, hm => by
    simp only [fzl] at e ⊢
    obtain ⟨⟨b, z⟩, hb, e⟩ := Option.bind_eq_some_iff.1 e
    obtain ⟨⟨l, z2⟩, hl, e⟩ := Option.bind_eq_some_iff.1 e
    simp only [Option.some.injEq, Prod.mk.injEq] at e
    obtain ⟨rfl, rfl⟩ := e
    rw [hf _ _ _ hb hm.left, Option.bind_some, fzl_loc hf hl hm.right, Option.bind_some]

theorem fzll_loc {f f' : PV → Option (PV × List (Nat × Nat))} (hf : LocF av f f') : ∀ {xs ys : List (List PV)} {zs : List (Nat × Nat)}, fzll f xs = some (ys, zs) → Met av zs → fzll f' xs = some (ys, zs)
  | [], ys, zs, e, _ => e
  | x :: xs, ys, zs, e, hm => by
    simp only [fzll] at e ⊢
    obtain ⟨⟨b, z⟩, hb, e⟩ := Option.bind_eq_some_iff.1 e
    obtain ⟨⟨l, z2⟩, hl, e⟩ := Option.bind_eq_some_iff.1 e
    simp only [Option.some.injEq, Prod.mk.injEq] at e
    obtain ⟨rfl, rfl⟩ := e
    rw [fzl_loc hf hb hm.left, Option.bind_some, fzll_loc hf hl hm.right, Option.bind_some]

theorem rel0_eq (h1 : ∀ l g, okAv av l = true → efind h l g = efind h' l g) {n : Nm} (hn : okAv av n.l = true) : rel0 h n = rel0 h' n := by
  unfold rel0
  rw [hobj_eq h1 hn]

theorem fz0_loc (h1 : ∀ l g, okAv av l = true → efind h l g = efind h' l g) : LocF av (fz0 h) (fz0 h') := by
  intro p q zs e hm
  unfold fz0 at e ⊢
  cases hp : pu0 p with
  | true => rw [hp] at e; exact e
  | false =>
    rw [hp] at e
    simp only [cond_false] at e ⊢
    split at e
    · rename_i n sz off len
      have e0 := e
      obtain ⟨o, ho, e⟩ := Option.bind_eq_some_iff.1 e
      obtain ⟨hc, e⟩ := cond_some e
      simp only [Option.some.injEq, Prod.mk.injEq] at e
      obtain ⟨rfl, rfl⟩ := e
      rw [rel0_eq h1 hm.head] at e0
      exact e0
    · cases e

theorem fz1_loc (h1 : ∀ l g, okAv av l = true → efind h l g = efind h' l g) : LocF av (fz1 h) (fz1 h') := by
  intro p q zs e hm
  unfold fz1 at e ⊢
  cases hp : pu0 p with
  | true => rw [hp] at e; exact e
  | false =>
    rw [hp] at e
    simp only [cond_false] at e ⊢
    split at e
    · rename_i n sz off len
      obtain ⟨o, ho, e⟩ := Option.bind_eq_some_iff.1 e
      obtain ⟨hc, e⟩ := cond_some e
      cases hpo : o.pure with
      | true =>
        rw [hpo] at e
        simp only [cond_true, Option.some.injEq, Prod.mk.injEq] at e
        obtain ⟨rfl, rfl⟩ := e
        rw [← rel0_eq h1 hm.head, ho, Option.bind_some, hc, hpo]
        rfl
      | false =>
        rw [hpo] at e
        simp only [cond_false] at e
        obtain ⟨⟨ys, z2⟩, hy, e⟩ := Option.map_eq_some_iff.1 e
        simp only [Prod.mk.injEq] at e
        obtain ⟨rfl, rfl⟩ := e
        rw [← rel0_eq h1 hm.head, ho, Option.bind_some, hc, hpo]
        simp only [cond_true, cond_false]
        rw [fzll_loc (fz0_loc h1) hy hm.tail]
        rfl
    · cases e

theorem optr_loc (h1 : ∀ l g, okAv av l = true → efind h l g = efind h' l g) {n : Nm} {i c : Nat} {q : PV} {zs : List (Nat × Nat)}
    (e : fzo h n i c = some (q, zs)) (hm : Met av zs) : fzo h' n i c = some (q, zs) := by
  unfold fzo at e ⊢
  obtain ⟨o, ho, e⟩ := Option.bind_eq_some_iff.1 e
  obtain ⟨x, hx, e⟩ := Option.bind_eq_some_iff.1 e
  cases hpo : o.pure with
  | true =>
    rw [hpo] at e
    simp only [cond_true, Option.some.injEq, Prod.mk.injEq] at e
    obtain ⟨rfl, rfl⟩ := e
    rw [← rel0_eq h1 hm.head, ho, Option.bind_some, hx, Option.bind_some, hpo]
    rfl
  | false =>
    rw [hpo] at e
    simp only [cond_false] at e
    obtain ⟨⟨ys, z2⟩, hy, e⟩ := Option.map_eq_some_iff.1 e
    simp only [Prod.mk.injEq] at e
    obtain ⟨rfl, rfl⟩ := e
    rw [← rel0_eq h1 hm.head, ho, Option.bind_some, hx, Option.bind_some, hpo]
    simp only [cond_false]
    rw [fzl_loc (fz1_loc h1) hy hm.tail]
    rfl

theorem fzc_loc (h1 : ∀ l g, okAv av l = true → efind h l g = efind h' l g) : LocF av (fzc h) (fzc h') := by
  intro p q zs e hm
  cases p with
  | optr n i c => exact optr_loc h1 e hm
  | _ => exact e

theorem fz2_fn (h : List Ent) (f : Nat) (cap : List PV) : fz2 h (.fn f cap) = bif pu0 (.fn f cap) then some (.fn f cap, []) else (fzl (fzc h) cap).map fun r => (.fn f r.1, r.2) := rfl
theorem fz2_any (h : List Ent) : fz2 h .any = fz1 h .any := rfl
theorem fz2_bool (h : List Ent) (b : Bool) : fz2 h (.bool b) = fz1 h (.bool b) := rfl
theorem fz2_int (h : List Ent) (k : IntKind) (n : Int) : fz2 h (.int k n) = fz1 h (.int k n) := rfl
theorem fz2_str (h : List Ent) (l : List Nat) : fz2 h (.str l) = fz1 h (.str l) := rfl
theorem fz2_agg (h : List Ent) (l : List PV) : fz2 h (.agg l) = fz1 h (.agg l) := rfl
theorem fz2_tuple (h : List Ent) (l : List PV) : fz2 h (.tuple l) = fz1 h (.tuple l) := rfl
theorem fz2_view (h : List Ent) (l : List (List PV)) : fz2 h (.view l) = fz1 h (.view l) := rfl
theorem fz2_nil0 (h : List Ent) : fz2 h .nil0 = fz1 h .nil0 := rfl
theorem fz2_own (h : List Ent) (n : Nm) (a b c : Nat) : fz2 h (.own n a b c) = fz1 h (.own n a b c) := rfl
theorem fz2_optr (h : List Ent) (n : Nm) (a b : Nat) : fz2 h (.optr n a b) = fzo h n a b := rfl
theorem fz2_vptr (h : List Ent) (l : List PV) : fz2 h (.vptr l) = fz1 h (.vptr l) := rfl

theorem fz2_loc (h1 : ∀ l g, okAv av l = true → efind h l g = efind h' l g) : LocF av (fz2 h) (fz2 h') := by
  intro p q zs e hm
  cases p
  case optr n i c => rw [fz2_optr] at e ⊢; exact optr_loc h1 e hm
  case fn f cap =>
    rw [fz2_fn] at e ⊢
    cases hp : pu0 (.fn f cap) with
    | true => rw [hp, cond_true] at e; exact e
    | false =>
      rw [hp, cond_false] at e
      rw [cond_false]
      obtain ⟨⟨ys, z2⟩, hy, e⟩ := Option.map_eq_some_iff.1 e
      simp only [Prod.mk.injEq] at e
      obtain ⟨rfl, rfl⟩ := e
      rw [fzl_loc (fzc_loc h1) hy hm, Option.map_some]
  case any => rw [fz2_any] at e ⊢; exact fz1_loc h1 _ _ _ e hm
  case bool => rw [fz2_bool] at e ⊢; exact fz1_loc h1 _ _ _ e hm
  case int => rw [fz2_int] at e ⊢; exact fz1_loc h1 _ _ _ e hm
  case str => rw [fz2_str] at e ⊢; exact fz1_loc h1 _ _ _ e hm
  case agg => rw [fz2_agg] at e ⊢; exact fz1_loc h1 _ _ _ e hm
  case tuple => rw [fz2_tuple] at e ⊢; exact fz1_loc h1 _ _ _ e hm
  case view => rw [fz2_view] at e ⊢; exact fz1_loc h1 _ _ _ e hm
  case nil0 => rw [fz2_nil0] at e ⊢; exact fz1_loc h1 _ _ _ e hm
  case own => rw [fz2_own] at e ⊢; exact fz1_loc h1 _ _ _ e hm
  case vptr => rw [fz2_vptr] at e ⊢; exact fz1_loc h1 _ _ _ e hm

theorem fzv_loc (h1 : ∀ l g, okAv av l = true → efind h l g = efind h' l g) : LocF av (fzv h) (fzv h') := by
  intro p q zs e hm
  cases p with
  | agg cs =>
    simp only [fzv] at e ⊢
    obtain ⟨⟨ys, z2⟩, hy, e⟩ := Option.map_eq_some_iff.1 e
    simp only [Prod.mk.injEq] at e
    obtain ⟨rfl, rfl⟩ := e
    rw [fzl_loc (fz2_loc h1) hy hm]
    rfl
  | _ => unfold fzv at e ⊢; exact fz2_loc h1 _ _ _ e hm

theorem elems_loc (h1 : ∀ l g, okAv av l = true → efind h l g = efind h' l g) {p : PV} {ys : List (List PV)} (e : elems h av p = some ys) : elems h' av p = some ys := by
  cases p with
  | own n sz off len =>
    simp only [elems] at e ⊢
    obtain ⟨hn, e2⟩ := cond_some e
    rw [hn, cond_true, ← hobj_eq h1 hn]
    exact e2
  | _ => exact e

theorem isFz_eq {z z' : List (Nat × Nat)} {n : Nm} (h1 : efind h n.l n.g = efind h' n.l n.g) (h2 : zin z n.l n.g = zin z' n.l n.g) : isFz h z n = isFz h' z' n := by
  unfold isFz
  rw [h1, h2]

theorem put_eq {n : Nm} {o : Obj} (h1 : efind h n.l n.g = efind h' n.l n.g) : put h n o = put h' n o := by
  unfold put
  rw [h1]

theorem putParts_eq : ∀ (ps : List (Nat × Nat × PArg)) (cs : List PV), (∀ x ∈ ps, s.ev x.2.2 = s'.ev x.2.2) → putParts s cs ps = putParts s' cs ps
  | [], _, _ => rfl
  | (off, sz, x) :: r, cs, h => by
    have h0 := h (off, sz, x) (by simp)
    simp only at h0
    simp only [putParts, h0]
    rw [putParts_eq r _ (fun y hy => h y (by simp [hy]))]

theorem map_ev {xs : List PArg} (h : ∀ x ∈ xs, s.ev x = s'.ev x) : xs.map s.ev = xs.map s'.ev := List.map_congr_left h

theorem bnd_eq {x : Option PArg} {df : Nat} (h : ∀ y, x = some y → s.ev y = s'.ev y) : bnd s df x = bnd s' df x := by
  cases x with
  | none => rfl
  | some y => simp only [bnd, h y rfl]

theorem all_okAv {zs : List (Nat × Nat)} (h : (zs.all fun x => okAv av x.1) = true) : Met av zs := fun x hx => List.all_eq_true.1 h x hx

theorem takeIn_g {imp : Option Nat} {r : Ret} {z : List (Nat × Nat)} {io : List Ent} (h : s.g = s'.g) : takeIn s imp r z io = takeIn s' imp r z io := by
  unfold takeIn
  rw [h]

theorem evStore_loc {wl : Option Nat} {n : Nat} {a v : PV} {e : Eff} (h1 : ∀ l g, okAv av l = true → efind s.h l g = efind s'.h l g) (h2 : ∀ l g, okAv av l = true → okW wl l = true → zin s.z l g = zin s'.z l g)
    (he : evStore s av wl n a v = some e) : evStore s' av wl n a v = some e := by
  cases a with
  | optr nm i c =>
    simp only [evStore] at he ⊢
    cases hav : okAv av nm.l with
    | false => simp [hav] at he
    | true =>
      cases hw : okW wl nm.l with
      | false => simp [hw] at he
      | true =>
        have e1 := hobj_eq h1 hav
        have e2 := isFz_eq (h1 _ _ hav) (h2 nm.l nm.g hav hw)
        have e3 := fun o => put_eq (o := o) (n := nm) (h1 _ nm.g hav)
        simp only [e1, e2, e3, hav, hw] at he
        exact he
  | _ => simp [evStore] at he

theorem cond_prop {α : Type} {b : Bool} {x y : Option α} {r : α} (h : (bif b then x else none) = some r) (k : b = true → x = some r → y = some r) : (bif b then y else none) = some r := by
  obtain ⟨h1, h2⟩ := cond_some h
  rw [h1]
  exact k h1 h2

theorem evStoreRow_loc {wl : Option Nat} {a v : PV} {e : Eff} (h1 : ∀ l g, okAv av l = true → efind s.h l g = efind s'.h l g) (h2 : ∀ l g, okAv av l = true → zin s.z l g = zin s'.z l g)
    (he : evStoreRow s av wl a v = some e) : evStoreRow s' av wl a v = some e := by
  unfold evStoreRow at he ⊢
  split at he
  · rename_i nm i m sz len
    try simp only
    obtain ⟨hc, he2⟩ := cond_some he
    have hc' := hc
    simp only [Bool.and_eq_true] at hc'
    obtain ⟨⟨⟨⟨⟨⟨⟨⟨⟨hav, _⟩, _⟩, _⟩, _⟩, hav2⟩, _⟩, _⟩, _⟩, _⟩ := hc'
    have e2 := isFz_eq (n := nm) (h1 _ _ hav) (h2 nm.l nm.g hav)
    have e3 := isFz_eq (n := m) (h1 _ _ hav2) (h2 m.l m.g hav2)
    rw [h1 _ nm.g hav, h1 _ m.g hav2, e2, e3] at he
    exact he
  · cases he

theorem evApp_loc {wl : Option Nat} {l sz bytes : Nat} {x y : PV} {e : Eff} (h1 : ∀ l g, okAv av l = true → efind s.h l g = efind s'.h l g) (h2 : ∀ l g, okAv av l = true → zin s.z l g = zin s'.z l g) (hg : s.g = s'.g)
    (he : evApp s av wl l sz bytes x y = some e) : evApp s' av wl l sz bytes x y = some e := by
  unfold evApp at he ⊢
  obtain ⟨ys, hys, he1⟩ := Option.bind_eq_some_iff.1 he
  clear he
  rw [elems_loc h1 hys, Option.bind_some]
  clear hys
  refine cond_prop he1 fun hc he => ?_
  clear he1
  rw [← hg]
  cases x with
  | nil0 => exact he
  | own n zs off len =>
    cases off with
    | succ k => simp at he
    | zero =>
      simp only at he ⊢
      obtain ⟨hc2, _⟩ := cond_some he
      simp only [Bool.and_eq_true] at hc2
      obtain ⟨⟨⟨⟨⟨⟨_, hav⟩, _⟩, _⟩, _⟩, _⟩, _⟩ := hc2
      have e2 := isFz_eq (n := n) (h1 _ _ hav) (h2 n.l n.g hav)
      rw [e2, h1 _ n.g hav] at he
      refine cond_prop he fun hc he' => ?_
      clear he
      obtain ⟨en, hen, he⟩ := Option.bind_eq_some_iff.1 he'
      clear he'
      rw [hen, Option.bind_some]
      cases hos : en.os with
      | nil => rw [hos] at he; cases he
      | cons ob os =>
        rw [hos] at he
        dsimp only at he ⊢
        refine cond_prop he fun hc he' => ?_
        clear he
        cases hp : ys.all (·.all pu0) with
        | true => rw [hp] at he'; exact he'
        | false =>
          rw [hp, cond_false] at he'
          rw [cond_false]
          cases ys with
          | nil => cases he'
          | cons y0 yr =>
            cases yr with
            | cons _ _ => simp at he'
            | nil =>
              cases y0 with
              | nil => cases he'
              | cons p pr =>
                cases pr with
                | cons _ _ => simp at he'
                | nil =>
                  cases p with
                  | own m zm off k =>
                    cases off with
                    | succ _ => simp at he'
                    | zero =>
                      simp only at he' ⊢
                      obtain ⟨hc3, _⟩ := cond_some he'
                      simp only [Bool.and_eq_true] at hc3
                      obtain ⟨⟨⟨⟨⟨⟨hav2, _⟩, _⟩, _⟩, _⟩, _⟩, _⟩ := hc3
                      have e3 := isFz_eq (n := m) (h1 _ _ hav2) (h2 m.l m.g hav2)
                      rw [e3, h1 _ m.g hav2] at he'
                      exact he'
                  | _ => simp at he'
  | _ => cases he

theorem evCall_loc {wl : Option Nat} {f : PV} {args : List PV} {io imp : Option Nat} {e : Eff} (h1 : ∀ l g, okAv av l = true → efind s.h l g = efind s'.h l g) (h2 : io ≠ none → ∀ l g, okAv av l = true → zin s.z l g = zin s'.z l g) (hg : s.g = s'.g)
    (he : evCall F s av wl f args io imp = some e) : evCall F s' av wl f args io imp = some e := by
  cases f with
  | fn k cap =>
    simp only [evCall] at he ⊢
    have plain : ∀ al : List PV, ((fzl (fzv s.h) al).bind fun q => bif q.2.all (fun x => okAv av x.1) then (F k q.1 none).bind fun r => takeIn s imp r q.2 [] else none) = some e →
        ((fzl (fzv s'.h) al).bind fun q => bif q.2.all (fun x => okAv av x.1) then (F k q.1 none).bind fun r => takeIn s' imp r q.2 [] else none) = some e := by
      intro al he
      obtain ⟨⟨q, zs⟩, hq, he⟩ := Option.bind_eq_some_iff.1 he
      obtain ⟨hc, he2⟩ := cond_some he
      rw [fzl_loc (fzv_loc h1) hq (all_okAv hc), Option.bind_some]
      simp only [takeIn_g hg] at he ⊢
      exact he
    split at he
    · rename_i n sz off len p hio
      try simp only
      have hne : (some p : Option Nat) ≠ none := by simp
      refine cond_prop he fun hav he => ?_
      have e2 := isFz_eq (n := n) (h1 _ _ hav) (h2 hne n.l n.g hav)
      rw [← e2]
      cases hfz : isFz s.h s.z n with
      | true =>
        rw [hfz] at he
        exact plain _ he
      | false =>
        rw [hfz] at he
        simp only [cond_false] at he ⊢
        obtain ⟨⟨q, zs⟩, hq, he⟩ := Option.bind_eq_some_iff.1 he
        obtain ⟨hc, he2⟩ := cond_some he
        have hm : Met av zs := by
          intro x hx
          simp only [Bool.and_eq_true] at hc
          have := List.all_eq_true.1 hc.1 x hx
          simp only [Bool.and_eq_true] at this
          exact this.1
        rw [fzl_loc (fzv_loc h1) hq hm, Option.bind_some, ← hobj_eq h1 hav]
        have e3 := fun o => put_eq (o := o) (n := n) (h1 _ n.g hav)
        simp only [e3, takeIn_g hg] at he ⊢
        exact he
    · exact plain _ he
  | _ => simp [evCall] at he

theorem evOp_loc {o : POper} {e : Eff} (A : Alike o s s') (he : evOp F s o = some e) : evOp F s' o = some e := by
  obtain ⟨d, op, gd, wl, av⟩ := o
  have hev := A.ev
  have hg := A.g
  have hh := A.h
  have hz := A.z
  simp only at hev hh hz
  cases op with
  | mv x => simp only [evOp, ← hev x (by simp [POp.args])] at he ⊢; exact he
  | nils l sz => simp only [evOp, ← hg] at he ⊢; exact he
  | pick c x y => simp only [evOp, ← hev c (by simp [POp.args]), ← hev x (by simp [POp.args]), ← hev y (by simp [POp.args])] at he ⊢; exact he
  | alloc l cells nils => simp only [evOp, ← hg] at he ⊢; exact he
  | box l x => simp only [evOp, ← hg, ← hev x (by simp [POp.args])] at he ⊢; exact he
  | load n agg x =>
    have hh := hh (by simp [POp.kind])
    simp only [evOp, ← hev x (by simp [POp.args])] at he ⊢
    generalize s.ev x = p at he ⊢
    cases p with
    | optr nm i c =>
      simp only at he ⊢
      obtain ⟨ys, hys, _⟩ := Option.bind_eq_some_iff.1 he
      obtain ⟨hav, _⟩ := cond_some hys
      rw [hobj_eq hh hav] at he
      exact he
    | _ => exact he
  | store n x y =>
    have hh := hh (by simp [POp.kind])
    have hz := hz (by simp [POp.kind])
    simp only [evOp, ← hev x (by simp [POp.args]), ← hev y (by simp [POp.args])] at he ⊢
    exact evStore_loc hh (fun l g h1 h2 => hz l g h1 fun _ => h2) he
  | storeRow x y =>
    have hh := hh (by simp [POp.kind])
    have hz := fun l g h1 => hz (by simp [POp.kind]) l g h1 (by simp [POp.kind])
    simp only [evOp, ← hev x (by simp [POp.args]), ← hev y (by simp [POp.args])] at he ⊢
    generalize s.ev x = px at he ⊢
    generalize s.ev y = py at he ⊢
    split at he
    · rename_i nm i c m sz off len
      try simp only
      cases hc : (nm.l == m.l) with
      | true => rw [hc, cond_true] at he; exact evStore_loc hh (fun l g h1 _ => hz l g h1) he
      | false => rw [hc, cond_false] at he; exact evStoreRow_loc hh hz he
    · exact evStore_loc hh (fun l g h1 _ => hz l g h1) he
  | bin tag op x y => simp only [evOp, ← hev x (by simp [POp.args]), ← hev y (by simp [POp.args])] at he ⊢; exact he
  | un op x => simp only [evOp, ← hev x (by simp [POp.args])] at he ⊢; exact he
  | conv k x => simp only [evOp, ← hev x (by simp [POp.args])] at he ⊢; exact he
  | tostr x =>
    have hh := hh (by simp [POp.kind])
    simp only [evOp, ← hev x (by simp [POp.args])] at he ⊢
    obtain ⟨ys, hys, he⟩ := Option.bind_eq_some_iff.1 he
    rw [elems_loc hh hys, Option.bind_some]
    exact he
  | clos f cap =>
    have := map_ev (s := s) (s' := s') (xs := cap) (fun x hx => hev x (by simpa [POp.args] using hx))
    simp only [evOp, ← this] at he ⊢; exact he
  | make l zero bytes n c => simp only [evOp, ← hg, ← hev n (by simp [POp.args]), ← hev c (by simp [POp.args])] at he ⊢; exact he
  | slice str sz x lo hi mx =>
    have e1 := hev x (by simp [POp.args])
    have e2 := fun df => bnd_eq (s := s) (s' := s') (x := lo) (df := df) (fun y hy => hev y (by simp [POp.args, hy]))
    have e3 := fun df => bnd_eq (s := s) (s' := s') (x := hi) (df := df) (fun y hy => hev y (by simp [POp.args, hy]))
    cases mx with
    | none => simp only [evOp, ← e1, ← e2, ← e3] at he ⊢; exact he
    | some m => simp only [evOp, ← e1, ← e2, ← e3, ← hev m (by simp [POp.args])] at he ⊢; exact he
  | field c n x => simp only [evOp, ← hev x (by simp [POp.args])] at he ⊢; exact he
  | getf c n agg x => simp only [evOp, ← hev x (by simp [POp.args])] at he ⊢; exact he
  | idx sz x i => simp only [evOp, ← hev x (by simp [POp.args]), ← hev i (by simp [POp.args])] at he ⊢; exact he
  | sidx x i => simp only [evOp, ← hev x (by simp [POp.args]), ← hev i (by simp [POp.args])] at he ⊢; exact he
  | ext x i => simp only [evOp, ← hev x (by simp [POp.args])] at he ⊢; exact he
  | build zero parts =>
    have := putParts_eq (s := s) (s' := s') parts zero (fun x hx => hev _ (by simp only [POp.args]; exact List.mem_map.2 ⟨x, hx, rfl⟩))
    simp only [evOp, ← this] at he ⊢; exact he
  | lits l sz len parts =>
    have : (parts.map fun x => cellsOf (s.ev x)) = parts.map fun x => cellsOf (s'.ev x) := List.map_congr_left fun x hx => by rw [hev x (by simpa [POp.args] using hx)]
    simp only [evOp, ← this, ← hg] at he ⊢; exact he
  | len str x => simp only [evOp, ← hev x (by simp [POp.args])] at he ⊢; exact he
  | app l sz bytes x y =>
    have hh := hh (by simp [POp.kind])
    have hz := fun l g h1 => hz (by simp [POp.kind]) l g h1 (by simp [POp.kind])
    simp only [evOp, ← hev x (by simp [POp.args]), ← hev y (by simp [POp.args])] at he ⊢
    exact evApp_loc hh hz hg he
  | copy sz x y =>
    have hh := hh (by simp [POp.kind])
    have hz := hz (by simp [POp.kind])
    simp only [evOp, ← hev x (by simp [POp.args]), ← hev y (by simp [POp.args])] at he ⊢
    generalize s.ev x = px at he ⊢
    generalize s.ev y = py at he ⊢
    split at he
    · rename_i n zs off len
      try simp only
      obtain ⟨ys, hys, he⟩ := Option.bind_eq_some_iff.1 he
      rw [elems_loc hh hys, Option.bind_some]
      obtain ⟨hc, he2⟩ := cond_some he
      simp only [Bool.and_eq_true] at hc
      obtain ⟨⟨⟨⟨⟨hav, hw⟩, _⟩, _⟩, _⟩, _⟩ := hc
      have e2 := isFz_eq (n := n) (hh _ _ hav) (hz n.l n.g hav fun _ => hw)
      have e3 := fun o => put_eq (o := o) (n := n) (hh _ n.g hav)
      rw [← e2, ← hobj_eq hh hav]
      simp only [← e3]
      exact he
    · cases he
  | mm mx xs =>
    have := map_ev (s := s) (s' := s') (xs := xs) (fun x hx => hev x (by simpa [POp.args] using hx))
    simp only [evOp, ← this] at he ⊢; exact he
  | call f al io imp =>
    have e1 := hev f (by simp [POp.args])
    have e2 := map_ev (s := s) (s' := s') (xs := al) (fun x hx => hev x (by simp only [POp.args, List.mem_cons]; exact .inr hx))
    have hh := hh (by cases io <;> simp [POp.kind])
    simp only [evOp, ← e1, ← e2] at he ⊢
    refine evCall_loc hh (fun hio => ?_) hg he
    cases io with
    | none => exact absurd rfl hio
    | some p => exact fun l g h1 => hz (by simp [POp.kind]) l g h1 (by simp [POp.kind])
  | bad => simp [evOp] at he

end
end Go.Proofs.Ytbdknlejnacmgaa.Pi
