/-
  How the relation is kept, on: an object written, frozen, appended to, taken in as a row.
-/
import Derived.Test.YtbdknlejnacmgaaPiD
namespace Go.Proofs.Ytbdknlejnacmgaa.Pi
open Go
set_option linter.unusedVariables false
set_option linter.unusedSimpArgs false
section
variable {base : Nat} {bio : Option Nat} {w0 : World} {M0 : Mem} {bk0 : Option Blk} {nt : Nat} {L : List Nat} {s : St} {M : Mem} {μ : NMap} {β : Nat → Option Nm} {a : Act} {w : World}

theorem hobj_some {h : List Ent} {n : Nm} {o : Obj} (hn : hobj h n = some o) : ∃ e, efind h n.l n.g = some e ∧ e.os[n.j]? = some o := by
  unfold hobj at hn
  cases he : efind h n.l n.g with
  | none => rw [he] at hn; cases hn
  | some e => rw [he] at hn; exact ⟨e, rfl, hn⟩

theorem efind_lg {h : List Ent} {l g : Nat} {e : Ent} (he : efind h l g = some e) : e.l = l ∧ e.g = g := by
  induction h with
  | nil => cases he
  | cons e' h ih =>
    rw [efind_cons] at he
    split at he
    · cases he; assumption
    · exact ih he

/-- One block of the call's own is changed, and the object that owns it. -/
theorem Sim.write (h : Sim base bio w0 M0 bk0 nt L s M μ β a w) {n : Nm} {o o' : Obj} {k : Blk} {b : Nat} {e : Ent} {w' : World} {c : Array Value} {ty : TypeId}
    (hn : hobj s.h n = some o) (hz : isFz s.h s.z n = false) (hk : μ n = some k) (hb : k.b = some b) (he : efind s.h n.l n.g = some e)
    (hw : w'.heap[b]? = some (.cells c ty (0, 0))) (hoth : ∀ b', b' ≠ b → w'.heap[b']? = w.heap[b']?) (hsz : w'.heap.size = w.heap.size) (hos : w'.os = w.os) (htp : w'.tape = w.tape) (hout : w'.output = w.output)
    (hp : o'.pure = true → ∀ x ∈ o'.xs, ∀ p ∈ x, pu0 p = true) (hc : c.size = k.tot * k.sz) (hx : o'.xs.length ≤ k.tot)
    (hr : ∀ i x, o'.xs[i]? = some x → x.length = k.sz ∧ ∀ j p, x[j]? = some p → ∃ v, c[i * k.sz + j]? = some v ∧ Rep M μ p v ∧ v.oneCell' = true) :
    Sim base bio w0 M0 bk0 nt L { s with h := { e with os := e.os.set n.j o' } :: s.h } M μ β a w' := by
  obtain ⟨k1, hk1, hc1, hb1⟩ := h.objs n o hn
  rw [hk] at hk1
  cases hk1
  have hM := h.unf n o k b hn hz hk hb
  have hβ := hb1 b hb
  obtain ⟨el, eg⟩ := efind_lg he
  have eo : e.os[n.j]? = some o := by
    obtain ⟨e', h1, h2⟩ := hobj_some hn
    rw [he] at h1
    cases h1
    exact h2
  have hj : n.j < e.os.length := (List.getElem?_eq_some_iff.1 eo).1
  have keep : ∀ m o2, hobj s.h m = some o2 → m ≠ n → ∃ k, μ m = some k ∧ Cont M μ w' k o2 ∧ ∀ b, k.b = some b → β b = some m := by
    intro m o2 hm hne
    obtain ⟨k2, h1, h2, h3⟩ := h.objs m o2 hm
    refine ⟨k2, h1, h2.mono (MLe.refl _) (NLe.refl _) (fun b' hb' => hoth b' ?_), h3⟩
    intro e
    subst e
    have := h3 b' hb'
    rw [hβ] at this
    exact hne (Option.some.inj this).symm
  refine { h with objs := ?objs, unf := ?unf, lt := ?lt, min := ?min, os := hos.trans h.os, tape := htp.trans h.tape, out := hout.trans h.out, grow := hsz ▸ h.grow, nofz := ?nofz, frame := ?frame, kids := ?kids, ioz := ?ioz }
  case nofz =>
    intro b2 hb2 c2 ty2 fr2 hx2
    by_cases e : b2 = b
    · subst e; rw [hw] at hx2; cases hx2; rfl
    · rw [hoth b2 e] at hx2; exact h.nofz b2 hb2 c2 ty2 fr2 hx2
  case objs =>
    intro m o2 hm
    rw [hobj_cons] at hm
    split at hm
    · rename_i eq
      obtain ⟨e1, e2⟩ := eq
      simp only at e1 e2 hm
      by_cases ej : m.j = n.j
      · have em : m = n := by cases m; cases n; simp_all
        subst em
        rw [List.getElem?_set_self hj] at hm
        cases hm
        have htot : k.tot ≤ maxLen := hc1.2.1
        refine ⟨k, hk, ⟨hp, htot, ?_⟩, hb1⟩
        rw [hb]
        exact ⟨c, ty, hw, hc, hx, hr⟩
      · rw [List.getElem?_set_ne (Ne.symm ej)] at hm
        have : hobj s.h m = some o2 := by
          unfold hobj
          rw [← e1, ← e2, el, eg, he]
          exact hm
        exact keep m o2 this (fun e => ej (by rw [e]))
    · rename_i eq
      exact keep m o2 hm (fun e => eq (by subst e; exact ⟨el, eg⟩))
  case unf =>
    intro m o2 k2 b2 hm hz2 hk2 hb2
    rw [hobj_cons] at hm
    rw [isFz_cons] at hz2
    split at hm
    · rename_i eq
      rw [if_pos eq] at hz2
      obtain ⟨e1, e2⟩ := eq
      simp only at e1 e2 hm hz2
      have hz3 : isFz s.h s.z m = false := by
        unfold isFz
        rw [← e1, ← e2, el, eg, he]
        simp only [Option.map_some, Option.getD_some]
        rw [← e1, ← e2, el, eg] at hz2
        exact hz2
      by_cases ej : m.j = n.j
      · have em : m = n := by cases m; cases n; simp_all
        subst em
        rw [hk] at hk2
        cases hk2
        rw [hb] at hb2
        cases hb2
        exact hM
      · rw [List.getElem?_set_ne (Ne.symm ej)] at hm
        have : hobj s.h m = some o2 := by
          unfold hobj
          rw [← e1, ← e2, el, eg, he]
          exact hm
        exact h.unf m o2 k2 b2 this hz3 hk2 hb2
    · rename_i eq
      rw [if_neg eq] at hz2
      exact h.unf m o2 k2 b2 hm hz2 hk2 hb2
  case lt => intro m k2 b2 hm hb2; rw [hsz]; exact h.lt m k2 b2 hm hb2
  case min =>
    intro b2 c2 hb2
    rw [hoth b2 (fun e => by subst e; rw [hM] at hb2; cases hb2)]
    exact h.min b2 c2 hb2
  case frame =>
    intro b2 hlt hne
    rw [hoth b2 (fun e => ?_)]
    · exact h.frame b2 hlt hne
    · subst e
      rcases h.bown _ _ hβ with h1 | ⟨h1, _⟩
      · omega
      · exact hne h1
  case kids =>
    intro l g e2 he2 hne j hj2
    rw [efind_cons] at he2
    split at he2
    · rename_i eq
      obtain ⟨e1, e2'⟩ := eq
      simp only at e1 e2'
      cases he2
      simp only [List.length_set] at hj2
      rw [el] at e1
      rw [eg] at e2'
      subst e1; subst e2'
      exact h.kids n.l n.g e he (by intro hc; rw [hc] at hj; simp at hj) j hj2
    · exact h.kids l g e2 he2 hne j hj2
  case ioz =>
    intro g
    refine ⟨(h.ioz g).1, fun e2 he2 => ?_⟩
    rw [efind_cons] at he2
    split at he2
    · rename_i eq
      obtain ⟨e1, e2'⟩ := eq
      cases he2
      simp only at e1 e2' ⊢
      rw [el] at e1
      rw [eg] at e2'
      exact (h.ioz g).2 e (by rw [← e1, ← e2']; exact he)
    · exact (h.ioz g).2 e2 he2

/-- Memory, when groups of objects are frozen. -/
def frz (M : Mem) (β : Nat → Option Nm) (w : World) (zs : List (Nat × Nat)) : Mem := fun b =>
  match β b with
  | some n => if zin zs n.l n.g then (match w.heap[b]? with | some (.cells c _ _) => some c | _ => M b) else M b
  | none => M b

theorem zin_append (xs ys : List (Nat × Nat)) (l g : Nat) : zin (xs ++ ys) l g = (zin xs l g || zin ys l g) := by
  induction xs with
  | nil => simp [zin]
  | cons x xs ih => cases x; simp only [List.cons_append, zin, ih, Bool.or_assoc]

theorem Sim.mfrz (h : Sim base bio w0 M0 bk0 nt L s M μ β a w) (zs : List (Nat × Nat)) : MLe M (frz M β w zs) := by
  intro b c hc
  unfold frz
  split
  · split
    · obtain ⟨ty, fr, hh⟩ := h.min b c hc
      rw [hh]
    · exact hc
  · exact hc

theorem Sim.frz (h : Sim base bio w0 M0 bk0 nt L s M μ β a w) (zs : List (Nat × Nat)) (h0 : ∀ g, zin zs 0 g = false) :
    Sim base bio w0 M0 bk0 nt L { s with z := zs ++ s.z } (frz M β w zs) μ β a w := by
  have hM := h.mfrz zs
  refine { h with regs := fun t => (h.regs t).mono hM (NLe.refl _), objs := ?objs, unf := ?unf, min := ?min, mnew := ?mnew, ioz := ?ioz }
  case objs =>
    intro n o hn
    obtain ⟨k, h1, h2, h3⟩ := h.objs n o hn
    exact ⟨k, h1, h2.mono hM (NLe.refl _) (fun _ _ => rfl), h3⟩
  case unf =>
    intro n o k b hn hz hk hb
    obtain ⟨k', h1, h2, h3⟩ := h.objs n o hn
    rw [hk] at h1
    cases h1
    unfold isFz at hz
    obtain ⟨e, he, _⟩ := hobj_some hn
    rw [he, zin_append] at hz
    simp only [Option.map_some, Option.getD_some, Bool.or_eq_false_iff] at hz
    unfold Pi.frz
    rw [h3 b hb]
    simp only [hz.2.1, Bool.false_eq_true, if_false]
    exact h.unf n o k b hn (by unfold isFz; rw [he]; simp [hz.1, hz.2.2]) hk hb
  case min =>
    intro b c hc
    unfold Pi.frz at hc
    split at hc
    · split at hc
      · split at hc
        · rename_i c' ty fr hh
          cases hc
          exact ⟨ty, fr, hh⟩
        · exact h.min b c hc
      · exact h.min b c hc
    · exact h.min b c hc
  case mnew =>
    intro b hb
    unfold Pi.frz
    split
    · rename_i n hn
      rcases h.bown b n hn with h1 | ⟨_, h1⟩
      · omega
      · subst h1
        rw [h0 0]
        exact h.mnew b hb
    · exact h.mnew b hb
  case ioz =>
    intro g
    refine ⟨?_, (h.ioz g).2⟩
    rw [zin_append, h0 g, (h.ioz g).1]
    rfl

theorem frz_zin {zs : List (Nat × Nat)} {n : Nm} {b : Nat} {c : Array Value} {ty : TypeId} {fr : Nat × Nat} (hz : zin zs n.l n.g = true) (hβ : β b = some n) (hh : w.heap[b]? = some (.cells c ty fr)) : frz M β w zs b = some c := by
  unfold frz
  rw [hβ]
  simp [hz, hh]

/-- Two states in which the same is found. -/
structure Eqv (s s' : St) : Prop where
  t : ∀ n, rget s.t n = rget s'.t n
  h : ∀ l g, efind s.h l g = efind s'.h l g
  z : ∀ l g, zin s.z l g = zin s'.z l g
  g : s.g = s'.g

theorem Eqv.refl (s : St) : Eqv s s := ⟨fun _ => rfl, fun _ _ => rfl, fun _ _ => rfl, rfl⟩
theorem Eqv.symm {s s' : St} (h : Eqv s s') : Eqv s' s := ⟨fun n => (h.t n).symm, fun l g => (h.h l g).symm, fun l g => (h.z l g).symm, h.g.symm⟩
theorem Eqv.trans {s s' s2 : St} (h : Eqv s s') (k : Eqv s' s2) : Eqv s s2 := ⟨fun n => (h.t n).trans (k.t n), fun l g => (h.h l g).trans (k.h l g), fun l g => (h.z l g).trans (k.z l g), h.g.trans k.g⟩
theorem Eqv.obj {s s' : St} (h : Eqv s s') (n : Nm) : hobj s.h n = hobj s'.h n := by unfold hobj; rw [h.h]
theorem Eqv.fz {s s' : St} (h : Eqv s s') (n : Nm) : isFz s.h s.z n = isFz s'.h s'.z n := by unfold isFz; rw [h.h, h.z]

theorem Sim.congr (h : Sim base bio w0 M0 bk0 nt L s M μ β a w) {s' : St} (e : Eqv s s') : Sim base bio w0 M0 bk0 nt L s' M μ β a w where
  size := h.size
  defers := h.defers
  regs := fun t => by rw [← e.t]; exact h.regs t
  objs := fun n o hn => h.objs n o (by rw [e.obj]; exact hn)
  unf := fun n o k b hn hz hk hb => h.unf n o k b (by rw [e.obj]; exact hn) (by rw [e.fz]; exact hz) hk hb
  lt := h.lt
  names := fun n k hn => by rw [← e.g]; exact h.names n k hn
  min := h.min
  os := h.os
  tape := h.tape
  out := h.out
  grow := h.grow
  nofz := h.nofz
  frame := h.frame
  mnew := h.mnew
  io := h.io
  io0 := h.io0
  pos := by rw [← e.g]; exact h.pos
  kids := fun l g e' he => h.kids l g e' (by rw [e.h]; exact he)
  bown := h.bown
  ioz := fun g => ⟨by rw [← e.z]; exact (h.ioz g).1, fun e' he => (h.ioz g).2 e' (by rw [e.h]; exact he)⟩

/-- A row becomes a child of a group. -/
theorem Sim.adopt (h : Sim base bio w0 M0 bk0 nt L s M μ β a w) {nl ng ml mg : Nat} {e r : Ent} {ro : Obj} {km : Blk}
    (he : efind s.h nl ng = some e) (hne : e.os ≠ []) (hez : e.fz = false) (hr : efind s.h ml mg = some r) (hro : r.os = [ro]) (hrz : isFz s.h s.z ⟨ml, mg, 0⟩ = false)
    (hnm : ¬ (nl = ml)) (hn0 : nl ≠ 0) (hm0 : ml ≠ 0) (hkm : μ ⟨ml, mg, 0⟩ = some km) (hnn : ∃ k, μ ⟨nl, ng, 0⟩ = some k) :
    Sim base bio w0 M0 bk0 nt L { s with h := { e with os := e.os ++ [ro] } :: { r with os := [] } :: s.h } M (upd μ ⟨nl, ng, e.os.length⟩ km)
      (fun b => if β b = some ⟨ml, mg, 0⟩ then some ⟨nl, ng, e.os.length⟩ else β b) a w := by
  obtain ⟨el, eg⟩ := efind_lg he
  obtain ⟨rl, rg⟩ := efind_lg hr
  have hfresh : μ ⟨nl, ng, e.os.length⟩ = none := h.kids nl ng e he hne _ (Nat.le_refl _)
  have hle := NLe.upd km hfresh
  have hmo : hobj s.h ⟨ml, mg, 0⟩ = some ro := by unfold hobj; simp [hr, hro]
  obtain ⟨k1, hk1, hcm, hbm⟩ := h.objs _ _ hmo
  rw [hkm] at hk1
  cases hk1
  have hlen : 0 < e.os.length := by cases hos : e.os with | nil => exact absurd hos hne | cons => simp
  have fnd : ∀ m : Nm, ∀ o2, hobj ({ e with os := e.os ++ [ro] } :: { r with os := [] } :: s.h) m = some o2 →
      (m = ⟨nl, ng, e.os.length⟩ ∧ o2 = ro) ∨ (hobj s.h m = some o2 ∧ m ≠ ⟨ml, mg, 0⟩ ∧ m ≠ ⟨nl, ng, e.os.length⟩) := by
    intro m o2 hm
    rw [hobj_cons] at hm
    split at hm
    · rename_i eq
      obtain ⟨e1, e2⟩ := eq
      simp only at e1 e2 hm
      rw [el] at e1
      rw [eg] at e2
      rcases Nat.lt_trichotomy m.j e.os.length with hj | hj | hj
      · rw [List.getElem?_append_left hj] at hm
        refine .inr ⟨by unfold hobj; rw [← e1, ← e2, he]; exact hm, fun e => ?_, fun e => ?_⟩
        · rw [e] at e1; exact hnm e1
        · rw [e] at hj; simp at hj
      · refine .inl ⟨by cases m; simp_all, ?_⟩
        rw [hj] at hm
        simp at hm
        exact hm.symm
      · rw [List.getElem?_eq_none (by simp; omega)] at hm; cases hm
    · rename_i eq
      rw [hobj_cons] at hm
      split at hm
      · simp at hm
      · rename_i eq2
        refine .inr ⟨hm, fun e => eq2 ?_, fun e => eq ?_⟩
        · subst e; exact ⟨rl, rg⟩
        · subst e; exact ⟨el, eg⟩
  have owner : ∀ m o2 k b, hobj s.h m = some o2 → m ≠ ⟨ml, mg, 0⟩ → μ m = some k → k.b = some b → (if β b = some ⟨ml, mg, 0⟩ then some (⟨nl, ng, e.os.length⟩ : Nm) else β b) = some m := by
    intro m o2 k b hm hne2 hk hb
    obtain ⟨k', h1, _, h3⟩ := h.objs m o2 hm
    rw [hk] at h1
    cases h1
    rw [h3 b hb, if_neg (by intro e; exact hne2 (Option.some.inj e))]
  refine { h with regs := fun t => (h.regs t).mono (MLe.refl _) hle, objs := ?objs, unf := ?unf, lt := ?lt, names := ?names, io0 := ?io0, kids := ?kids, bown := ?bown, ioz := ?ioz }
  case objs =>
    intro m o2 hm
    rcases fnd m o2 hm with ⟨rfl, rfl⟩ | ⟨h1, h2, h3⟩
    · refine ⟨km, upd_same .., hcm.mono (MLe.refl _) hle (fun _ _ => rfl), fun b hb => ?_⟩
      rw [hbm b hb, if_pos rfl]
    · obtain ⟨k, hk, hc, hb⟩ := h.objs m o2 h1
      exact ⟨k, hle _ _ hk, hc.mono (MLe.refl _) hle (fun _ _ => rfl), fun b hb => owner m o2 k b h1 h2 hk hb⟩
  case unf =>
    intro m o2 k b hm hz hk hb
    rcases fnd m o2 hm with ⟨rfl, rfl⟩ | ⟨h1, h2, h3⟩
    · rw [upd_same] at hk
      cases hk
      exact h.unf _ _ _ _ hmo hrz hkm hb
    · rw [upd_ne _ _ h3] at hk
      refine h.unf m o2 k b h1 ?_ hk hb
      rw [isFz_cons] at hz
      split at hz
      · rename_i eq
        obtain ⟨e1, e2⟩ := eq
        simp only at e1 e2 hz
        unfold isFz
        rw [← e1, ← e2, el, eg, he]
        rw [← e1, ← e2, el, eg] at hz
        exact hz
      · rw [isFz_cons] at hz
        split at hz
        · rename_i eq1 eq2
          obtain ⟨e1, e2⟩ := eq2
          simp only at e1 e2
          exfalso
          rw [hobj_cons, if_neg eq1, hobj_cons, if_pos ⟨e1, e2⟩] at hm
          simp at hm
        · exact hz
  case lt =>
    intro m k b hm hb
    unfold upd at hm
    split at hm
    · cases hm; exact h.lt _ _ _ hkm hb
    · exact h.lt m k b hm hb
  case names =>
    intro m k hm
    unfold upd at hm
    split at hm
    · rename_i e1
      subst e1
      obtain ⟨k0, hk0⟩ := hnn
      show ng < s.g ∨ ng = s.g ∧ nl ∈ L
      exact h.names ⟨nl, ng, 0⟩ k0 hk0
    · exact h.names m k hm
  case io0 =>
    intro j g
    rw [upd_ne _ _ (by intro e; injection e with e1; exact hn0 e1.symm)]
    exact h.io0 j g
  case kids =>
    intro l g e2 he2 hne2 j hj
    rw [efind_cons] at he2
    split at he2
    · rename_i eq
      obtain ⟨e1, e3⟩ := eq
      simp only at e1 e3
      cases he2
      rw [el] at e1
      rw [eg] at e3
      subst e1; subst e3
      simp only [List.length_append, List.length_singleton] at hj
      rw [upd_ne _ _ (by intro e; injection e with _ _ e4; omega)]
      exact h.kids nl ng e he hne j (by omega)
    · rename_i eq
      rw [efind_cons] at he2
      split at he2
      · cases he2; exact absurd rfl hne2
      · rw [upd_ne _ _ (by intro e; injection e with e1 e2; exact eq ⟨by rw [el, e1], by rw [eg, e2]⟩)]
        exact h.kids l g e2 he2 hne2 j hj
  case bown =>
    intro b m hb
    split at hb
    · rename_i e1
      rcases h.bown b _ e1 with h1 | ⟨_, h1⟩
      · exact .inl h1
      · injection h1 with h2; exact absurd h2 hm0
    · exact h.bown b m hb
  case ioz =>
    intro g
    refine ⟨(h.ioz g).1, fun e2 he2 => ?_⟩
    rw [efind_cons] at he2
    split at he2
    · rename_i eq
      obtain ⟨e1, _⟩ := eq
      simp only at e1
      rw [el] at e1
      exact absurd e1 hn0
    · rw [efind_cons] at he2
      split at he2
      · rename_i eq
        obtain ⟨e1, _⟩ := eq
        simp only at e1
        rw [rl] at e1
        exact absurd e1 hm0
      · exact (h.ioz g).2 e2 he2

/-- Names of a group under another label. -/
def mov (μ : NMap) (nl ng l g : Nat) (k : Blk) : NMap := fun m => if m.l = l ∧ m.g = g then (if m.j = 0 then some k else μ ⟨nl, ng, m.j⟩) else μ m

/-- What was appended to lies in the old block or in a new one; its group goes on under a new label. -/
theorem Sim.append (h : Sim base bio w0 M0 bk0 nt L s M μ β a w) {nl ng l : Nat} {e : Ent} {ob o' : Obj} {os : List Obj} {k k' : Blk} {w' : World}
    (hl1 : 1 ≤ l) (hl : l ∉ L) (hn0 : nl ≠ 0) (he : efind s.h nl ng = some e) (hos : e.os = ob :: os) (hz : isFz s.h s.z ⟨nl, ng, 0⟩ = false) (hk : μ ⟨nl, ng, 0⟩ = some k)
    (hold : ∀ b, b < w.heap.size → k.b ≠ some b → w'.heap[b]? = w.heap[b]?) (hblk : ∀ b, k'.b = some b → k.b = some b ∨ w.heap.size ≤ b) (hlt : ∀ b, k'.b = some b → b < w'.heap.size)
    (hsz : w.heap.size ≤ w'.heap.size) (hos' : w'.os = w.os) (htp : w'.tape = w.tape) (hout : w'.output = w.output)
    (hnf : ∀ b, (w.heap.size ≤ b ∨ k.b = some b) → ∀ c ty fr, w'.heap[b]? = some (.cells c ty fr) → fr = (0, 0))
    (hc : Cont M (mov μ nl ng l s.g k') w' k' o') :
    Sim base bio w0 M0 bk0 nt (l :: L) { s with h := { l := l, g := s.g, fz := false, os := o' :: os } :: { e with os := [] } :: s.h } M (mov μ nl ng l s.g k')
      (fun b => if k'.b = some b then some ⟨l, s.g, 0⟩ else match β b with | some m => if m.l = nl ∧ m.g = ng then some ⟨l, s.g, m.j⟩ else some m | none => none) a w' := by
  obtain ⟨el, eg⟩ := efind_lg he
  have hno : hobj s.h ⟨nl, ng, 0⟩ = some ob := by unfold hobj; simp [he, hos]
  obtain ⟨k1, hk1, hc1, hb1⟩ := h.objs _ _ hno
  rw [hk] at hk1
  cases hk1
  have hle : NLe μ (mov μ nl ng l s.g k') := by
    intro m km hm
    unfold mov
    by_cases e1 : m.l = l ∧ m.g = s.g
    · have := h.fresh hl m.j
      have em : m = ⟨l, s.g, m.j⟩ := by cases m; simp_all
      rw [← em] at this
      rw [this] at hm; cases hm
    · rw [if_neg e1]; exact hm
  have hMb : ∀ b, k.b = some b → M b = none := fun b hb => h.unf _ _ _ _ hno hz hk hb
  have hfzg : ∀ m : Nm, m.l = nl → m.g = ng → isFz s.h s.z m = false := by
    intro m e1 e2
    unfold isFz at hz ⊢
    rw [e1, e2]
    exact hz
  -- a live object other than the one appended to lies in another block, below the new ones
  have apart : ∀ m o2 km b, hobj s.h m = some o2 → m ≠ ⟨nl, ng, 0⟩ → μ m = some km → km.b = some b → k.b ≠ some b ∧ b < w.heap.size ∧ β b = some m := by
    intro m o2 km b hm hne hkm hb
    obtain ⟨k2, h1, _, h3⟩ := h.objs m o2 hm
    rw [hkm] at h1
    cases h1
    refine ⟨fun e => ?_, h.lt m km b hkm hb, h3 b hb⟩
    have := hb1 b e
    rw [h3 b hb] at this
    exact hne (Option.some.inj this)
  have notnew : ∀ m o2 km b, hobj s.h m = some o2 → m ≠ ⟨nl, ng, 0⟩ → μ m = some km → km.b = some b → k'.b ≠ some b := by
    intro m o2 km b hm hne hkm hb e
    obtain ⟨h1, h2, _⟩ := apart m o2 km b hm hne hkm hb
    rcases hblk b e with h3 | h3
    · exact h1 h3
    · omega
  have fnd : ∀ m : Nm, ∀ o2, hobj ({ l := l, g := s.g, fz := false, os := o' :: os } :: { e with os := [] } :: s.h) m = some o2 →
      (m = ⟨l, s.g, 0⟩ ∧ o2 = o') ∨ (∃ j, m = ⟨l, s.g, j + 1⟩ ∧ hobj s.h ⟨nl, ng, j + 1⟩ = some o2) ∨ (hobj s.h m = some o2 ∧ ¬ (m.l = nl ∧ m.g = ng) ∧ ¬ (m.l = l ∧ m.g = s.g)) := by
    intro m o2 hm
    rw [hobj_cons] at hm
    split at hm
    · rename_i eq
      obtain ⟨e1, e2⟩ := eq
      simp only at e1 e2 hm
      cases hj : m.j with
      | zero =>
        rw [hj] at hm
        simp at hm
        exact .inl ⟨by cases m; simp_all, hm.symm⟩
      | succ j =>
        rw [hj] at hm
        simp at hm
        refine .inr (.inl ⟨j, by cases m; simp_all, ?_⟩)
        unfold hobj
        simp [he, hos, hm]
    · rename_i eq
      rw [hobj_cons] at hm
      split at hm
      · simp at hm
      · rename_i eq2
        exact .inr (.inr ⟨hm, fun ⟨e1, e2⟩ => eq2 ⟨by rw [el, e1], by rw [eg, e2]⟩, fun ⟨e1, e2⟩ => eq ⟨e1.symm, e2.symm⟩⟩)
  refine { h with regs := fun t => (h.regs t).mono (MLe.refl _) hle, objs := ?objs, unf := ?unf, lt := ?lt, names := ?names, min := ?min, os := hos'.trans h.os, tape := htp.trans h.tape, out := hout.trans h.out, grow := Nat.le_trans h.grow hsz, nofz := ?nofz, frame := ?frame, io0 := ?io0, kids := ?kids, bown := ?bown, ioz := ?ioz }
  case nofz =>
    intro b2 hb2 c2 ty2 fr2 hx2
    by_cases e : w.heap.size ≤ b2 ∨ k.b = some b2
    · exact hnf b2 e c2 ty2 fr2 hx2
    · rw [hold b2 (by omega) (fun e2 => e (.inr e2))] at hx2; exact h.nofz b2 hb2 c2 ty2 fr2 hx2
  case objs =>
    intro m o2 hm
    rcases fnd m o2 hm with ⟨rfl, rfl⟩ | ⟨j, rfl, h1⟩ | ⟨h1, h2, h3⟩
    · exact ⟨k', by simp [mov], hc, fun b hb => by rw [if_pos hb]⟩
    · obtain ⟨k2, hk2, hc2, hb2⟩ := h.objs _ _ h1
      refine ⟨k2, by simp [mov, hk2], hc2.mono (MLe.refl _) hle (fun b hb => ?_), fun b hb => ?_⟩
      · obtain ⟨q1, q2, _⟩ := apart _ _ _ b h1 (by intro e; injection e with _ _ e3; omega) hk2 hb
        exact hold b q2 q1
      · rw [if_neg (notnew _ _ _ b h1 (by intro e; injection e with _ _ e3; omega) hk2 hb), hb2 b hb]
        simp
    · obtain ⟨k2, hk2, hc2, hb2⟩ := h.objs _ _ h1
      have hne : m ≠ ⟨nl, ng, 0⟩ := fun e => h2 (by subst e; exact ⟨rfl, rfl⟩)
      refine ⟨k2, hle _ _ hk2, hc2.mono (MLe.refl _) hle (fun b hb => ?_), fun b hb => ?_⟩
      · obtain ⟨q1, q2, _⟩ := apart _ _ _ b h1 hne hk2 hb
        exact hold b q2 q1
      · rw [if_neg (notnew _ _ _ b h1 hne hk2 hb), hb2 b hb]
        simp [h2]
  case unf =>
    intro m o2 km b hm hzm hkm hb
    rcases fnd m o2 hm with ⟨rfl, rfl⟩ | ⟨j, rfl, h1⟩ | ⟨h1, h2, h3⟩
    · simp [mov] at hkm
      subst hkm
      rcases hblk b hb with h3 | h3
      · exact hMb b h3
      · exact h.mlt h3
    · simp [mov] at hkm
      exact h.unf _ _ _ _ h1 (hfzg _ rfl rfl) hkm hb
    · have hkm' : μ m = some km := by
        unfold mov at hkm
        rw [if_neg h3] at hkm
        exact hkm
      refine h.unf m o2 km b h1 ?_ hkm' hb
      rw [isFz_cons, if_neg (fun ⟨e1, e2⟩ => h3 ⟨e1.symm, e2.symm⟩), isFz_cons, if_neg (fun ⟨e1, e2⟩ => h2 ⟨by rw [← e1, el], by rw [← e2, eg]⟩)] at hzm
      exact hzm
  case lt =>
    intro m km b hm hb
    unfold mov at hm
    split at hm
    · split at hm
      · cases hm; exact hlt b hb
      · exact Nat.lt_of_lt_of_le (h.lt _ _ _ hm hb) hsz
    · exact Nat.lt_of_lt_of_le (h.lt _ _ _ hm hb) hsz
  case names =>
    intro m km hm
    unfold mov at hm
    split at hm
    · rename_i e1; exact .inr ⟨e1.2, by simp [e1.1]⟩
    · exact (h.names m km hm).imp id fun ⟨e1, e2⟩ => ⟨e1, by simp [e2]⟩
  case min =>
    intro b c hb
    obtain ⟨ty, fr, hh⟩ := h.min b c hb
    have hbl : b < w.heap.size := by
      rcases Nat.lt_or_ge b w.heap.size with h' | h'
      · exact h'
      · rw [Array.getElem?_eq_none h'] at hh; cases hh
    exact ⟨ty, fr, by rw [hold b hbl (fun e => by rw [hMb b e] at hb; cases hb)]; exact hh⟩
  case frame =>
    intro b hb hi
    rw [hold b (Nat.lt_of_lt_of_le hb h.grow) (fun e => ?_)]
    · exact h.frame b hb hi
    · rcases h.bown b _ (hb1 b e) with h1 | ⟨_, h1⟩
      · omega
      · injection h1 with h2; exact hn0 h2
  case io0 =>
    intro j g
    unfold mov
    rw [if_neg (by simp; omega)]
    exact h.io0 j g
  case kids =>
    intro l2 g2 e2 he2 hne2 j hj
    rw [efind_cons] at he2
    split at he2
    · rename_i eq
      obtain ⟨e1, e3⟩ := eq
      simp only at e1 e3
      cases he2
      subst e1; subst e3
      simp only [List.length_cons] at hj
      have := h.kids nl ng e he (by rw [hos]; simp) j (by rw [hos]; simpa using hj)
      simp only [mov, and_self, if_true]
      rw [if_neg (by omega)]
      exact this
    · rename_i eq
      rw [efind_cons] at he2
      split at he2
      · cases he2; exact absurd rfl hne2
      · unfold mov
        rw [if_neg (fun ⟨e1, e3⟩ => eq ⟨e1.symm, e3.symm⟩)]
        exact h.kids l2 g2 e2 he2 hne2 j hj
  case bown =>
    intro b m hb
    split at hb
    · rename_i e1
      cases hb
      rcases hblk b e1 with h3 | h3
      · rcases h.bown b _ (hb1 b h3) with h1 | ⟨_, h1⟩
        · exact .inl h1
        · injection h1 with h2; exact absurd h2 hn0
      · exact .inl (Nat.le_trans h.grow h3)
    · split at hb
      · rename_i m' hm'
        split at hb
        · rename_i e2
          rcases h.bown b _ hm' with h1 | ⟨_, h1⟩
          · exact .inl h1
          · rw [h1] at e2; exact absurd e2.1.symm hn0
        · cases hb; exact h.bown b _ hm'
      · cases hb
  case ioz =>
    intro g
    refine ⟨(h.ioz g).1, fun e2 he2 => ?_⟩
    rw [efind_cons] at he2
    split at he2
    · rename_i eq
      obtain ⟨e1, _⟩ := eq
      simp only at e1
      omega
    · rw [efind_cons] at he2
      split at he2
      · rename_i eq
        obtain ⟨e1, _⟩ := eq
        simp only at e1
        rw [el] at e1
        exact absurd e1 hn0
      · exact (h.ioz g).2 e2 he2

end
end Go.Proofs.Ytbdknlejnacmgaa.Pi
