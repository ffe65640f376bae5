/-
  What an operation changes; two operations in either order.
-/
import Derived.Test.YtbdknlejnacmgaaPiT
namespace Go.Proofs.Ytbdknlejnacmgaa.Pi
open Go
set_option linter.unusedVariables false
set_option linter.unusedSimpArgs false

section
variable {s s' : St} {F : CallF}

/-- What an effect touches. -/
def Touch (o : POper) (e : Eff) : Prop :=
  (∀ x ∈ e.up, x.l ∈ o.op.cl ∨ (2 ≤ o.op.kind ∧ okAv o.av x.l = true ∧ (o.op.kind = 2 → okW o.wl x.l = true))) ∧ (o.op.kind = 0 ∨ o.op.kind = 2 → e.z = []) ∧ ∀ x ∈ e.z, okAv o.av x.1 = true

theorem Touch.pure {o : POper} {v : PV} : Touch o { v := v } := ⟨fun x hx => by simp at hx, fun _ => rfl, fun x hx => by simp at hx⟩

theorem put_l {h : List Ent} {n : Nm} {o : Obj} {e : Ent} (hp : put h n o = some e) : e.l = n.l := by
  unfold put at hp
  obtain ⟨en, hen, rfl⟩ := Option.map_eq_some_iff.1 hp
  exact (efind_lg hen).1

theorem evStore_touch {av : List Nat} {wl : Option Nat} {n : Nat} {a v : PV} {e : Eff} (he : evStore s av wl n a v = some e) : (∀ x ∈ e.up, okAv av x.l = true ∧ okW wl x.l = true) ∧ e.z = [] := by
  cases a with
  | optr nm i c =>
    simp only [evStore] at he
    obtain ⟨hc, he⟩ := cond_some he
    simp only [Bool.and_eq_true] at hc
    obtain ⟨⟨⟨⟨hav, hw⟩, _⟩, _⟩, _⟩ := hc
    obtain ⟨ob, ho, he⟩ := Option.bind_eq_some_iff.1 he
    obtain ⟨xx, hxx, he⟩ := Option.bind_eq_some_iff.1 he
    obtain ⟨_, he⟩ := cond_some he
    obtain ⟨en, hen, rfl⟩ := Option.map_eq_some_iff.1 he
    refine ⟨fun x hx => ?_, rfl⟩
    simp only [List.mem_singleton] at hx
    subst hx
    rw [put_l hen]
    exact ⟨hav, hw⟩
  | _ => simp [evStore] at he

theorem evStoreRow_touch {av : List Nat} {wl : Option Nat} {a v : PV} {e : Eff} (he : evStoreRow s av wl a v = some e) : (∀ x ∈ e.up, okAv av x.l = true) ∧ e.z = [] := by
  unfold evStoreRow at he
  split at he
  · rename_i nm i m sz len
    obtain ⟨hc, he⟩ := cond_some he
    simp only [Bool.and_eq_true] at hc
    obtain ⟨⟨⟨⟨⟨⟨⟨⟨⟨hav, _⟩, _⟩, _⟩, _⟩, hav2⟩, _⟩, _⟩, _⟩, _⟩ := hc
    obtain ⟨en, hen, he⟩ := Option.bind_eq_some_iff.1 he
    obtain ⟨rn, hrn, he⟩ := Option.bind_eq_some_iff.1 he
    split at he
    · obtain ⟨_, he⟩ := cond_some he
      obtain ⟨xx, hxx, he⟩ := Option.bind_eq_some_iff.1 he
      obtain ⟨_, he⟩ := cond_some he
      cases he
      refine ⟨fun x hx => ?_, rfl⟩
      simp only [List.mem_cons, List.not_mem_nil, or_false] at hx
      rcases hx with rfl | rfl
      · show okAv av en.l = true
        rw [(efind_lg hen).1]; exact hav
      · show okAv av rn.l = true
        rw [(efind_lg hrn).1]; exact hav2
    · cases he
  · cases he

theorem evApp_touch {av : List Nat} {wl : Option Nat} {l sz bytes : Nat} {x y : PV} {e : Eff} (he : evApp s av wl l sz bytes x y = some e) : (∀ z ∈ e.up, z.l = l ∨ okAv av z.l = true) ∧ e.z = [] := by
  unfold evApp at he
  obtain ⟨ys, hys, he⟩ := Option.bind_eq_some_iff.1 he
  obtain ⟨_, he⟩ := cond_some he
  split at he
  · cases hye : ys.isEmpty with
    | true => rw [hye] at he; cases he; exact ⟨fun z hz => by simp at hz, rfl⟩
    | false =>
      rw [hye, cond_false] at he
      obtain ⟨_, he⟩ := cond_some he
      cases he
      exact ⟨fun z hz => by simp only [List.mem_singleton] at hz; subst hz; exact .inl rfl, rfl⟩
  · rename_i n zs len
    obtain ⟨hc, he⟩ := cond_some he
    simp only [Bool.and_eq_true] at hc
    obtain ⟨⟨⟨⟨⟨⟨_, hav⟩, _⟩, _⟩, _⟩, _⟩, _⟩ := hc
    obtain ⟨en, hen, he⟩ := Option.bind_eq_some_iff.1 he
    have hel : okAv av en.l = true := by rw [(efind_lg hen).1]; exact hav
    split at he
    · rename_i ob os hos
      obtain ⟨_, he⟩ := cond_some he
      cases hp : ys.all (·.all pu0) with
      | true =>
        rw [hp, cond_true] at he
        cases he
        refine ⟨fun z hz => ?_, rfl⟩
        simp only [List.mem_cons, List.not_mem_nil, or_false] at hz
        rcases hz with rfl | rfl
        · exact .inl rfl
        · exact .inr hel
      | false =>
        rw [hp, cond_false] at he
        split at he
        · rename_i m zm k _
          obtain ⟨hc2, he⟩ := cond_some he
          simp only [Bool.and_eq_true] at hc2
          obtain ⟨⟨⟨⟨⟨⟨hav2, _⟩, _⟩, _⟩, _⟩, _⟩, _⟩ := hc2
          obtain ⟨rn, hrn, he⟩ := Option.bind_eq_some_iff.1 he
          split at he
          · obtain ⟨_, he⟩ := cond_some he
            cases he
            refine ⟨fun z hz => ?_, rfl⟩
            simp only [List.mem_cons, List.not_mem_nil, or_false] at hz
            rcases hz with rfl | rfl | rfl
            · exact .inl rfl
            · exact .inr hel
            · refine .inr ?_
              show okAv av rn.l = true
              rw [(efind_lg hrn).1]; exact hav2
          · cases he
        · cases he
    · cases he
  · cases he

theorem takeIn_touch {imp : Option Nat} {r : Ret} {z : List (Nat × Nat)} {io : List Ent} {e : Eff} (he : takeIn s imp r z io = some e) : (∀ x ∈ e.up, (∃ l, imp = some l ∧ x.l = l) ∨ x ∈ io) ∧ e.z = z := by
  unfold takeIn at he
  split at he
  · cases he; exact ⟨fun x hx => .inr hx, rfl⟩
  · split at he
    · rename_i l
      obtain ⟨_, he⟩ := cond_some he
      cases he
      refine ⟨fun x hx => ?_, rfl⟩
      simp only [List.mem_cons] at hx
      rcases hx with rfl | hx
      · exact .inl ⟨l, rfl, rfl⟩
      · exact .inr hx
    · obtain ⟨x, _, rfl⟩ := Option.map_eq_some_iff.1 he
      exact ⟨fun x hx => .inr hx, rfl⟩

theorem evCall_touch {av : List Nat} {wl : Option Nat} {f : PV} {args : List PV} {io imp : Option Nat} {e : Eff} (he : evCall F s av wl f args io imp = some e) :
    (∀ x ∈ e.up, (∃ l, imp = some l ∧ x.l = l) ∨ (io ≠ none ∧ okAv av x.l = true)) ∧ ∀ x ∈ e.z, okAv av x.1 = true := by
  cases f with
  | fn k cap =>
    simp only [evCall] at he
    have plain : ∀ al : List PV, ((fzl (fzv s.h) al).bind fun q => bif q.2.all (fun x => okAv av x.1) then (F k q.1 none).bind fun r => takeIn s imp r q.2 [] else none) = some e →
        (∀ x ∈ e.up, (∃ l, imp = some l ∧ x.l = l) ∨ (io ≠ none ∧ okAv av x.l = true)) ∧ ∀ x ∈ e.z, okAv av x.1 = true := by
      intro al he
      obtain ⟨⟨q, zs⟩, hq, he⟩ := Option.bind_eq_some_iff.1 he
      obtain ⟨hc, he⟩ := cond_some he
      obtain ⟨r, _, he⟩ := Option.bind_eq_some_iff.1 he
      obtain ⟨h1, h2⟩ := takeIn_touch he
      refine ⟨fun x hx => (h1 x hx).imp id fun h => by simp at h, fun x hx => ?_⟩
      rw [h2] at hx
      exact List.all_eq_true.1 hc x hx
    split at he
    · rename_i n sz off len p hio
      obtain ⟨hav, he⟩ := cond_some he
      cases hfz : isFz s.h s.z n with
      | true => rw [hfz] at he; exact plain _ he
      | false =>
        rw [hfz, cond_false] at he
        obtain ⟨⟨q, zs⟩, hq, he⟩ := Option.bind_eq_some_iff.1 he
        obtain ⟨hc, he⟩ := cond_some he
        obtain ⟨ob, _, he⟩ := Option.bind_eq_some_iff.1 he
        obtain ⟨_, he⟩ := cond_some he
        obtain ⟨r, _, he⟩ := Option.bind_eq_some_iff.1 he
        split at he
        · obtain ⟨en, hen, he⟩ := Option.bind_eq_some_iff.1 he
          obtain ⟨h1, h2⟩ := takeIn_touch he
          refine ⟨fun x hx => (h1 x hx).imp id fun h => ?_, fun x hx => ?_⟩
          · simp only [List.mem_singleton] at h
            subst h
            exact ⟨by simp, by rw [put_l hen]; exact hav⟩
          · rw [h2] at hx
            simp only [Bool.and_eq_true] at hc
            have := List.all_eq_true.1 hc.1 x hx
            simp only [Bool.and_eq_true] at this
            exact this.1
        · cases he
    · exact plain _ he
  | _ => simp [evCall] at he

theorem evOp_touch {o : POper} {e : Eff} (he : evOp F s o = some e) : Touch o e := by
  obtain ⟨d, op, gd, wl, av⟩ := o
  cases op with
  | mv x => simp only [evOp, Option.some.injEq] at he; subst he; exact Touch.pure
  | nils l sz =>
    simp only [evOp] at he
    obtain ⟨_, he⟩ := cond_some he
    cases he
    exact ⟨fun x hx => by simp only [List.mem_singleton] at hx; subst hx; exact .inl (by simp [POp.cl]), fun _ => rfl, fun x hx => by simp at hx⟩
  | pick c x y =>
    simp only [evOp] at he
    split at he
    · cases he; exact Touch.pure
    · cases he; exact Touch.pure
    · cases he
  | alloc l cells nils =>
    simp only [evOp] at he
    obtain ⟨_, he⟩ := cond_some he
    cases he
    refine ⟨fun x hx => .inl ?_, fun _ => rfl, fun x hx => by simp at hx⟩
    simp only [List.mem_cons, nilEnts, List.mem_map] at hx
    rcases hx with rfl | ⟨y, hy, rfl⟩
    · simp [POp.cl]
    · simp only [POp.cl, List.mem_cons, List.mem_map]; exact .inr ⟨y, hy, rfl⟩
  | box l x =>
    simp only [evOp] at he
    obtain ⟨_, he⟩ := cond_some he
    cases he
    exact ⟨fun x hx => by simp only [List.mem_singleton] at hx; subst hx; exact .inl (by simp [POp.cl]), fun _ => rfl, fun x hx => by simp at hx⟩
  | load n agg x =>
    simp only [evOp] at he
    obtain ⟨ys, hys, he⟩ := Option.bind_eq_some_iff.1 he
    obtain ⟨_, he⟩ := cond_some he
    cases agg with
    | true => cases he; exact Touch.pure
    | false =>
      simp only [cond_false] at he
      split at he
      · cases he; exact Touch.pure
      · cases he
  | store n x y =>
    simp only [evOp] at he
    obtain ⟨h1, h2⟩ := evStore_touch he
    exact ⟨fun x hx => .inr ⟨by simp [POp.kind], (h1 x hx).1, fun _ => (h1 x hx).2⟩, fun _ => h2, fun x hx => by rw [h2] at hx; simp at hx⟩
  | storeRow x y =>
    simp only [evOp] at he
    have fin : (∀ z ∈ e.up, okAv av z.l = true) ∧ e.z = [] → Touch ⟨d, .storeRow x y, gd, wl, av⟩ e := fun ⟨h1, h2⟩ => ⟨fun x hx => .inr ⟨by simp [POp.kind], h1 x hx, fun h => by simp [POp.kind] at h⟩, fun _ => h2, fun x hx => by rw [h2] at hx; simp at hx⟩
    split at he
    · rename_i nm i c m sz off len _ _
      cases hc : (nm.l == m.l) with
      | true => rw [hc, cond_true] at he; obtain ⟨h1, h2⟩ := evStore_touch he; exact fin ⟨fun z hz => (h1 z hz).1, h2⟩
      | false => rw [hc, cond_false] at he; exact fin (evStoreRow_touch he)
    · obtain ⟨h1, h2⟩ := evStore_touch he; exact fin ⟨fun z hz => (h1 z hz).1, h2⟩
  | bin tag op x y => simp only [evOp] at he; obtain ⟨v, _, rfl⟩ := Option.map_eq_some_iff.1 he; exact Touch.pure
  | un op x => simp only [evOp] at he; obtain ⟨v, _, rfl⟩ := Option.map_eq_some_iff.1 he; exact Touch.pure
  | conv k x =>
    simp only [evOp] at he
    split at he
    · cases he; exact Touch.pure
    · cases he
  | tostr x =>
    simp only [evOp] at he
    obtain ⟨ys, hys, he⟩ := Option.bind_eq_some_iff.1 he
    obtain ⟨v, _, rfl⟩ := Option.map_eq_some_iff.1 he; exact Touch.pure
  | clos f cap => simp only [evOp, Option.some.injEq] at he; subst he; exact Touch.pure
  | make l zero bytes n c =>
    simp only [evOp] at he
    obtain ⟨m, _, he⟩ := Option.bind_eq_some_iff.1 he
    obtain ⟨k, _, he⟩ := Option.bind_eq_some_iff.1 he
    obtain ⟨_, he⟩ := cond_some he
    cases he
    exact ⟨fun x hx => by simp only [List.mem_singleton] at hx; subst hx; exact .inl (by simp [POp.cl]), fun _ => rfl, fun x hx => by simp at hx⟩
  | slice str sz x lo hi mx =>
    simp only [evOp] at he
    split at he
    · obtain ⟨b, _, he⟩ := Option.bind_eq_some_iff.1 he
      obtain ⟨c, _, he⟩ := Option.bind_eq_some_iff.1 he
      obtain ⟨_, he⟩ := cond_some he
      split at he
      · cases he; exact Touch.pure
      · obtain ⟨k, _, he⟩ := Option.bind_eq_some_iff.1 he
        obtain ⟨_, he⟩ := cond_some he
        cases hq : decide (c = b) with
        | true => rw [hq] at he; cases he; exact Touch.pure
        | false => rw [hq] at he; cases he; exact Touch.pure
    · obtain ⟨b, _, he⟩ := Option.bind_eq_some_iff.1 he
      obtain ⟨c, _, he⟩ := Option.bind_eq_some_iff.1 he
      obtain ⟨_, he⟩ := cond_some he
      split at he
      · cases he; exact Touch.pure
      · obtain ⟨k, _, he⟩ := Option.bind_eq_some_iff.1 he
        obtain ⟨_, he⟩ := cond_some he
        cases he; exact Touch.pure
    · obtain ⟨b, _, he⟩ := Option.bind_eq_some_iff.1 he
      obtain ⟨c, _, he⟩ := Option.bind_eq_some_iff.1 he
      obtain ⟨_, he⟩ := cond_some he
      split at he
      · cases he; exact Touch.pure
      · obtain ⟨k, _, he⟩ := Option.bind_eq_some_iff.1 he
        obtain ⟨_, he⟩ := cond_some he
        cases he; exact Touch.pure
    · obtain ⟨b, _, he⟩ := Option.bind_eq_some_iff.1 he
      obtain ⟨c, _, he⟩ := Option.bind_eq_some_iff.1 he
      obtain ⟨_, he⟩ := cond_some he
      cases he; exact Touch.pure
    · cases he
  | field c n x =>
    simp only [evOp] at he
    split at he
    · cases he; exact Touch.pure
    · cases he; exact Touch.pure
    · cases he
  | getf c n agg x =>
    simp only [evOp] at he
    split at he
    · obtain ⟨_, he⟩ := cond_some he
      cases agg with
      | true => cases he; exact Touch.pure
      | false =>
        simp only [cond_false] at he
        split at he
        · cases he; exact Touch.pure
        · cases he
    · cases he
  | idx sz x i =>
    simp only [evOp] at he
    obtain ⟨k, _, he⟩ := Option.bind_eq_some_iff.1 he
    split at he
    · obtain ⟨y, _, he⟩ := Option.bind_eq_some_iff.1 he
      obtain ⟨_, he⟩ := cond_some he
      cases he; exact Touch.pure
    · obtain ⟨_, he⟩ := cond_some he
      cases he; exact Touch.pure
    · cases he
  | sidx x i =>
    simp only [evOp] at he
    obtain ⟨k, _, he⟩ := Option.bind_eq_some_iff.1 he
    split at he
    · obtain ⟨v, _, rfl⟩ := Option.map_eq_some_iff.1 he; exact Touch.pure
    · cases he
  | ext x i =>
    simp only [evOp] at he
    split at he
    · obtain ⟨v, _, rfl⟩ := Option.map_eq_some_iff.1 he; exact Touch.pure
    · cases he
  | build zero parts => simp only [evOp] at he; obtain ⟨v, _, rfl⟩ := Option.map_eq_some_iff.1 he; exact Touch.pure
  | lits l sz len parts =>
    simp only [evOp] at he
    obtain ⟨_, he⟩ := cond_some he
    cases he
    exact ⟨fun x hx => by simp only [List.mem_singleton] at hx; subst hx; exact .inl (by simp [POp.cl]), fun _ => rfl, fun x hx => by simp at hx⟩
  | len str x => simp only [evOp] at he; obtain ⟨v, _, rfl⟩ := Option.map_eq_some_iff.1 he; exact Touch.pure
  | app l sz bytes x y =>
    simp only [evOp] at he
    obtain ⟨h1, h2⟩ := evApp_touch he
    exact ⟨fun x hx => (h1 x hx).imp (fun h => by simp [POp.cl, h]) fun h => ⟨by simp [POp.kind], h, fun h => by simp [POp.kind] at h⟩, fun _ => h2, fun x hx => by rw [h2] at hx; simp at hx⟩
  | copy sz x y =>
    simp only [evOp] at he
    split at he
    · rename_i n zs off len _
      obtain ⟨ys, hys, he⟩ := Option.bind_eq_some_iff.1 he
      obtain ⟨hc, he⟩ := cond_some he
      simp only [Bool.and_eq_true] at hc
      obtain ⟨⟨⟨⟨⟨hav, hw⟩, _⟩, _⟩, _⟩, _⟩ := hc
      obtain ⟨ob, _, he⟩ := Option.bind_eq_some_iff.1 he
      obtain ⟨_, he⟩ := cond_some he
      obtain ⟨en, hen, rfl⟩ := Option.map_eq_some_iff.1 he
      refine ⟨fun x hx => ?_, fun _ => rfl, fun x hx => by simp at hx⟩
      simp only [List.mem_singleton] at hx
      subst hx
      rw [put_l hen]
      exact .inr ⟨by simp [POp.kind], hav, fun _ => hw⟩
    · cases he
  | mm mx xs => simp only [evOp] at he; obtain ⟨v, _, rfl⟩ := Option.map_eq_some_iff.1 he; exact Touch.pure
  | call f al io imp =>
    simp only [evOp] at he
    obtain ⟨h1, h2⟩ := evCall_touch he
    refine ⟨fun x hx => ?_, fun h => ?_, h2⟩
    · rcases h1 x hx with ⟨l, rfl, h⟩ | ⟨h3, h4⟩
      · exact .inl (by simp [POp.cl, h])
      · refine .inr ⟨?_, h4, fun h => ?_⟩
        · cases io with
          | none => exact absurd rfl h3
          | some p => simp [POp.kind]
        · cases io <;> simp [POp.kind] at h
    · cases io <;> simp [POp.kind] at h
  | bad => simp [evOp] at he

/-- One after the other, in either order. -/
theorem evGd_touch {o : POper} {e : Eff} (he : evGd F s o = some e) : Touch o e := by
  unfold evGd at he
  split at he
  · exact evOp_touch he
  · split at he
    · rename_i t want _ _ b _
      cases hc : (b == want) with
      | true => rw [hc] at he; exact evOp_touch he
      | false => rw [hc] at he; cases he; exact Touch.pure
    · cases he

theorem evGd_loc {o : POper} {e : Eff} (A : Alike o s s') (hg : ∀ t want, o.gd = some (t, want) → rget s.t t = rget s'.t t) (he : evGd F s o = some e) : evGd F s' o = some e := by
  unfold evGd at he ⊢
  cases h : o.gd with
  | none => simp only [h] at he ⊢; exact evOp_loc A he
  | some x =>
    obtain ⟨t, want⟩ := x
    simp only [h] at he ⊢
    rw [← hg t want h]
    split at he
    · rename_i b hb
      try simp only
      cases hc : (b == want) with
      | true => rw [hc, cond_true] at he; rw [cond_true]; exact evOp_loc A he
      | false => rw [hc] at he; exact he
    · cases he

theorem Alike.of_eqv {o : POper} (h : Eqv s s') : Alike o s s' where
  ev := fun x _ => by cases x with
    | t n => exact h.t n
    | c v => rfl
  g := h.g
  h := fun _ l g _ => h.h l g
  z := fun _ l g _ _ => h.z l g

theorem efind_append (a b : List Ent) (l g : Nat) : efind (a ++ b) l g = match efind a l g with | some e => some e | none => efind b l g := by
  induction a with
  | nil => rfl
  | cons e a ih =>
    rw [List.cons_append, efind_cons, efind_cons]
    split
    · rfl
    · exact ih

theorem efind_none {a : List Ent} {l g : Nat} (h : ∀ x ∈ a, x.l ≠ l) : efind a l g = none := by
  induction a with
  | nil => rfl
  | cons e a ih =>
    rw [efind_cons, if_neg (fun h' => h e (by simp) h'.1)]
    exact ih fun x hx => h x (by simp [hx])

theorem Eqv.app (h : Eqv s s') (d : Option Nat) (e : Eff) : Eqv (s.app d e) (s'.app d e) where
  t := fun n => by
    cases d with
    | none => exact h.t n
    | some d => simp only [St.app, rget_cons, h.t n]
  h := fun l g => by simp only [St.app, efind_append, h.h l g]
  z := fun l g => by simp only [St.app, zin_append, h.z l g]
  g := h.g

theorem runOps_eqv : ∀ {ops : List POper} {s s' t : St}, Eqv s s' → runOps F ops s = some t → ∃ t', runOps F ops s' = some t' ∧ Eqv t t'
  | [], s, s', t, h, e => by
    simp only [runOps, Option.some.injEq] at e
    subst e
    exact ⟨s', rfl, h⟩
  | o :: ops, s, s', t, h, e => by
    simp only [runOps] at e ⊢
    obtain ⟨ef, h1, h2⟩ := Option.bind_eq_some_iff.1 e
    rw [evGd_loc (Alike.of_eqv h) (fun t want _ => h.t t) h1, Option.bind_some]
    exact runOps_eqv (h.app o.d ef) h2

theorem zin_none {z : List (Nat × Nat)} {l g : Nat} (h : ∀ x ∈ z, x.1 ≠ l) : zin z l g = false := by
  induction z with
  | nil => rfl
  | cons x z ih =>
    obtain ⟨a, b⟩ := x
    simp only [zin, Bool.or_eq_false_iff, Bool.and_eq_false_iff]
    exact ⟨.inl (by simpa using h (a, b) (by simp)), ih fun y hy => h y (by simp [hy])⟩

theorem okAv_iff {av : List Nat} {l : Nat} : okAv av l = true ↔ l ∉ av := by simp [okAv]

/-- The state after one operation is the same to another. -/
theorem alike_app {a b : POper} {e : Eff} (ht : Touch a e)
    (hd : ∀ d, a.d = some d → d ∉ b.uses) (h3 : a.op.kind = 3 → b.op.kind = 0) (h3' : b.op.kind = 3 → a.op.kind = 0)
    (h2 : a.op.kind = 2 → b.op.kind = 0 ∨ ∃ l, a.wl = some l ∧ l ∈ b.av) (h2' : b.op.kind = 2 → a.op.kind = 0 ∨ ∃ l, b.wl = some l ∧ l ∈ a.av)
    (hcl : b.op.kind = 0 ∨ ∀ l ∈ a.op.cl, l ∈ b.av) : Alike b s (s.app a.d e) ∧ ∀ t want, b.gd = some (t, want) → rget s.t t = rget (s.app a.d e).t t := by
  obtain ⟨ht1, ht2, ht3⟩ := ht
  have reg : ∀ t, t ∈ b.uses → rget s.t t = rget (s.app a.d e).t t := by
    intro t hu
    cases had : a.d with
    | none => rfl
    | some d =>
      simp only [St.app, rget_cons]
      rw [if_neg]
      intro e1
      subst e1
      exact hd _ had hu
  have kle : a.op.kind ≤ 3 := by
    cases a.op <;> simp [POp.kind]
    rename_i io imp
    cases io <;> simp
  refine ⟨⟨fun x hx => ?_, rfl, fun hk l g hl => ?_, fun hk l g hl hw => ?_⟩, fun t want hg => reg t ?_⟩
  · cases x with
    | c v => rfl
    | t n =>
      refine reg n ?_
      unfold POper.uses
      exact List.mem_append.2 (.inr (List.mem_flatMap.2 ⟨_, hx, by simp [PArg.tmps]⟩))
  · simp only [St.app, efind_append]
    rw [efind_none (a := e.up)]
    intro x hx e1
    subst e1
    have hl := okAv_iff.1 hl
    rcases ht1 x hx with h | ⟨q1, q2, q3⟩
    · rcases hcl with h0 | h0
      · exact hk h0
      · exact hl (h0 _ h)
    · rcases Nat.lt_or_ge a.op.kind 3 with h | h
      · have hk2 : a.op.kind = 2 := by omega
        rcases h2 hk2 with h0 | ⟨l, h0, h1⟩
        · exact hk h0
        · have := q3 hk2
          simp only [okW, h0, beq_iff_eq] at this
          subst this
          exact hl h1
      · exact hk (h3 (by omega))
  · simp only [St.app, zin_append]
    have hz : zin e.z l g = false := by
      by_cases h0 : a.op.kind = 0
      · rw [ht2 (.inl h0)]; rfl
      · by_cases hb2 : b.op.kind = 2
        · rcases h2' hb2 with h | ⟨l', h, h'⟩
          · exact absurd h h0
          · have hw := hw hb2
            simp only [okW, h, beq_iff_eq] at hw
            subst hw
            refine zin_none fun x hx e1 => ?_
            have := okAv_iff.1 (ht3 x hx)
            rw [e1] at this
            exact this h'
        · have hb3 : b.op.kind = 3 := by
            have : b.op.kind ≤ 3 := by
              cases b.op <;> simp [POp.kind]
              rename_i io imp
              cases io <;> simp
            omega
          exact absurd (h3' hb3) h0
    rw [hz, Bool.false_or]
  · unfold POper.uses
    rw [hg]
    simp

theorem compat_spec {a b : POper} (h : compat a b = true) :
    (∀ d, a.d = some d → d ∉ b.uses ∧ b.d ≠ some d) ∧ (∀ d, b.d = some d → d ∉ a.uses) ∧ (a.op.kind = 3 → b.op.kind = 0) ∧ (b.op.kind = 3 → a.op.kind = 0) ∧
    (a.op.kind = 2 → b.op.kind = 0 ∨ ∃ l, a.wl = some l ∧ l ∈ b.av) ∧ (b.op.kind = 2 → a.op.kind = 0 ∨ ∃ l, b.wl = some l ∧ l ∈ a.av) ∧
    (b.op.kind = 0 ∨ ∀ l ∈ a.op.cl, l ∈ b.av) ∧ (a.op.kind = 0 ∨ ∀ l ∈ b.op.cl, l ∈ a.av) := by
  simp only [compat, Bool.and_eq_true] at h
  obtain ⟨⟨⟨⟨⟨⟨⟨h1, h2⟩, h3⟩, h4⟩, h5⟩, h6⟩, h7⟩, h8⟩ := h
  refine ⟨fun d hd => ?_, fun d hd => ?_, fun hk => ?_, fun hk => ?_, fun hk => ?_, fun hk => ?_, ?_, ?_⟩
  · rw [hd] at h1
    simp only [Bool.and_eq_true, Bool.not_eq_true', beq_eq_false_iff_ne] at h1
    exact ⟨by simpa using h1.1, h1.2⟩
  · rw [hd] at h2
    simpa using h2
  · simpa [hk] using h3
  · simpa [hk] using h4
  · simp only [hk, bne_self_eq_false, Bool.false_or, Bool.or_eq_true, beq_iff_eq] at h5
    rcases h5 with h5 | h5
    · exact .inl h5
    · cases hw : a.wl with
      | none => rw [hw] at h5; cases h5
      | some l => rw [hw] at h5; exact .inr ⟨l, rfl, by simpa using h5⟩
  · simp only [hk, bne_self_eq_false, Bool.false_or, Bool.or_eq_true, beq_iff_eq] at h6
    rcases h6 with h6 | h6
    · exact .inl h6
    · cases hw : b.wl with
      | none => rw [hw] at h6; cases h6
      | some l => rw [hw] at h6; exact .inr ⟨l, rfl, by simpa using h6⟩
  · simp only [Bool.or_eq_true, beq_iff_eq, List.all_eq_true] at h7
    exact h7.imp id fun h l hl => by simpa using h l hl
  · simp only [Bool.or_eq_true, beq_iff_eq, List.all_eq_true] at h8
    exact h8.imp id fun h l hl => by simpa using h l hl

theorem kind_le (p : POp) : p.kind ≤ 3 := by
  cases p <;> simp [POp.kind]
  rename_i io imp
  cases io <;> simp

/-- Two operations that are free: in either order. -/
theorem swap {a b : POper} (hc : compat a b = true) (hcl : ∀ l ∈ a.op.cl, l ∉ b.op.cl) {ops : List POper} {s t : St} (h : runOps F (a :: b :: ops) s = some t) : ∃ t', runOps F (b :: a :: ops) s = some t' ∧ Eqv t t' := by
  simp only [runOps] at h
  obtain ⟨ea, h1, h⟩ := Option.bind_eq_some_iff.1 h
  obtain ⟨eb, h2, h⟩ := Option.bind_eq_some_iff.1 h
  obtain ⟨c1, c2, c3, c4, c5, c6, c7, c8⟩ := compat_spec hc
  have ta := evGd_touch h1
  have tb := evGd_touch h2
  obtain ⟨al1, al2⟩ := alike_app (s := s) ta (fun d hd => (c1 d hd).1) c3 c4 c5 c6 c7
  have h2' : evGd F s b = some eb := evGd_loc (s := s.app a.d ea) (s' := s)
    ⟨fun x hx => (al1.ev x hx).symm, al1.g.symm, fun hk l g hl => (al1.h hk l g hl).symm, fun hk l g hl hw => (al1.z hk l g hl hw).symm⟩ (fun t want hg => (al2 t want hg).symm) h2
  obtain ⟨bl1, bl2⟩ := alike_app (s := s) tb c2 c4 c3 c6 c5 c8
  have h1' : evGd F (s.app b.d eb) a = some ea := evGd_loc bl1 bl2 h1
  have heq : Eqv ((s.app a.d ea).app b.d eb) ((s.app b.d eb).app a.d ea) := by
    refine ⟨fun n => ?_, fun l g => ?_, fun l g => ?_, rfl⟩
    · cases had : a.d with
      | none => cases b.d <;> rfl
      | some d1 =>
        cases hbd : b.d with
        | none => rfl
        | some d2 =>
          have hne : d2 ≠ d1 := fun e => (c1 d1 had).2 (by rw [hbd, e])
          simp only [St.app, rget_cons]
          by_cases e1 : d2 = n
          · rw [if_pos e1, if_neg (by omega), if_pos e1]
          · rw [if_neg e1]
            by_cases e2 : d1 = n
            · rw [if_pos e2, if_pos e2]
            · rw [if_neg e2, if_neg e2, if_neg e1]
    · simp only [St.app, efind_append]
      cases ha : efind ea.up l g with
      | none => rfl
      | some x =>
        cases hb : efind eb.up l g with
        | none => rfl
        | some y =>
          exfalso
          have hx : x ∈ ea.up ∧ x.l = l := by
            have : ∀ (u : List Ent), efind u l g = some x → x ∈ u := by
              intro u
              induction u with
              | nil => intro h; cases h
              | cons e u ih =>
                intro h
                rw [efind_cons] at h
                split at h
                · cases h; simp
                · exact List.mem_cons_of_mem _ (ih h)
            exact ⟨this _ ha, (efind_lg ha).1⟩
          have hy : y ∈ eb.up ∧ y.l = l := by
            have : ∀ (u : List Ent), efind u l g = some y → y ∈ u := by
              intro u
              induction u with
              | nil => intro h; cases h
              | cons e u ih =>
                intro h
                rw [efind_cons] at h
                split at h
                · cases h; simp
                · exact List.mem_cons_of_mem _ (ih h)
            exact ⟨this _ hb, (efind_lg hb).1⟩
          have hxy : x.l = y.l := by rw [hx.2, hy.2]
          rcases ta.1 x hx.1 with h1 | ⟨p1, p2, p3⟩
          · rcases tb.1 y hy.1 with h2 | ⟨q1, q2, q3⟩
            · exact hcl _ h1 (by rw [hxy]; exact h2)
            · rcases c7 with h | h
              · omega
              · exact okAv_iff.1 q2 (by rw [← hxy]; exact h _ h1)
          · rcases tb.1 y hy.1 with h2 | ⟨q1, q2, q3⟩
            · rcases c8 with h | h
              · omega
              · exact okAv_iff.1 p2 (by rw [hxy]; exact h _ h2)
            · have ka := kind_le a.op
              have kb := kind_le b.op
              by_cases e3 : a.op.kind = 3
              · have := c3 e3; omega
              · have hk2 : a.op.kind = 2 := by omega
                rcases c5 hk2 with h | ⟨l', h, h'⟩
                · omega
                · have := p3 hk2
                  simp only [okW, h, beq_iff_eq] at this
                  exact okAv_iff.1 q2 (by rw [← hxy, ← this]; exact h')
    · simp only [St.app, zin_append]
      cases zin ea.z l g <;> cases zin eb.z l g <;> rfl
  obtain ⟨t', h3, h4⟩ := runOps_eqv heq h
  refine ⟨t', ?_, h4⟩
  simp only [runOps]
  rw [h2', Option.bind_some, h1', Option.bind_some]
  exact h3

/-- One operation goes ahead of those that are free of it. -/
theorem front {x : POper} {post : List POper} : ∀ (pre : List POper) (s t : St), (∀ y ∈ pre, compat y x = true) → (∀ y ∈ pre, ∀ l ∈ y.op.cl, l ∉ x.op.cl) → runOps F (pre ++ x :: post) s = some t →
    ∃ t', runOps F (x :: (pre ++ post)) s = some t' ∧ Eqv t t'
  | [], s, t, _, _, h => ⟨t, h, Eqv.refl t⟩
  | y :: pre, s, t, h1, h2, h => by
    simp only [List.cons_append] at h ⊢
    rw [runOps] at h
    obtain ⟨ey, hy, h⟩ := Option.bind_eq_some_iff.1 h
    obtain ⟨t1, h3, h4⟩ := front pre (s.app y.d ey) t (fun z hz => h1 z (by simp [hz])) (fun z hz => h2 z (by simp [hz])) h
    have h5 : runOps F (y :: x :: (pre ++ post)) s = some t1 := by
      rw [runOps, hy, Option.bind_some]
      exact h3
    obtain ⟨t2, h6, h7⟩ := swap (h1 y (by simp)) (h2 y (by simp)) h5
    exact ⟨t2, h6, h4.trans h7⟩

end
end Go.Proofs.Ytbdknlejnacmgaa.Pi
