/-
  Code, functions: what our machine reckons is what the program does.
-/
import Derived.Test.YtbdknlejnacmgaaPiV
namespace Go.Proofs.Ytbdknlejnacmgaa.Pi
open Go
set_option linter.unusedVariables false
set_option linter.unusedSimpArgs false

section
variable {P : Program} {base : Nat} {bio : Option Nat} {w0 : World} {M0 : Mem} {bk0 : Option Blk} {nt : Nat} {L : List Nat} {s : St} {M : Mem} {μ : NMap} {β : Nat → Option Nm} {a : Act} {w : World}
variable {Q : Exit → Act → World → Prop} {F : CallF}

theorem rget_map (f : Nat → PV) (n : Nat) : ∀ l : List Nat, rget (l.map fun m => (m, f m)) n = f n ∨ rget (l.map fun m => (m, f m)) n = .any
  | [] => .inr rfl
  | m :: l => by
    simp only [List.map_cons, rget_cons]
    by_cases h : m = n
    · subst h; exact .inl (if_pos rfl)
    · rw [if_neg h]; exact rget_map f n l

theorem lfind_efind {h : List Ent} {l : Nat} {e : Ent} (he : lfind h l = some e) : e.l = l ∧ efind h l e.g = some e := by
  induction h with
  | nil => cases he
  | cons x h ih =>
    simp only [lfind, Bool.cond_eq_ite, beq_iff_eq] at he
    split at he
    · rename_i hx
      cases he
      exact ⟨hx, by rw [efind_cons, if_pos ⟨hx, rfl⟩]⟩
    · rename_i hx
      obtain ⟨h1, h2⟩ := ih he
      exact ⟨h1, by rw [efind_cons, if_neg (fun h => hx h.1)]; exact h2⟩

theorem efind_mem {h : List Ent} {l g : Nat} {e : Ent} (he : efind h l g = some e) : e ∈ h := by
  induction h with
  | nil => cases he
  | cons x h ih =>
    rw [efind_cons] at he
    split at he
    · cases he; simp
    · exact List.mem_cons_of_mem _ (ih he)

theorem restrict_find {live liveO : List Nat} {l g : Nat} {e : Ent} (he : efind (s.restrict live liveO).h l g = some e) :
    ∃ e', efind s.h l g = some e' ∧ e = { e' with fz := e'.fz || zin s.z e'.l e'.g } := by
  obtain ⟨h1, h2⟩ := efind_lg he
  obtain ⟨l', hl', hm⟩ := List.mem_filterMap.1 (efind_mem he)
  obtain ⟨e', he', rfl⟩ := Option.map_eq_some_iff.1 hm
  obtain ⟨g1, g2⟩ := lfind_efind he'
  simp only at h1 h2
  subst h1
  subst h2
  rw [← g1] at g2
  exact ⟨e', g2, rfl⟩

/-- Between regions: what is not looked at any more is let go. -/
theorem Sim.restrict (h : Sim base bio w0 M0 bk0 nt L s M μ β a w) (live liveO : List Nat) : Sim base bio w0 M0 bk0 nt [] (s.restrict live liveO) M μ β a w := by
  have hobj' : ∀ n o, hobj (s.restrict live liveO).h n = some o → hobj s.h n = some o ∧ (isFz (s.restrict live liveO).h (s.restrict live liveO).z n = false → isFz s.h s.z n = false) := by
    intro n o hn
    obtain ⟨e, he, ho⟩ := hobj_some hn
    obtain ⟨e', he', rfl⟩ := restrict_find he
    obtain ⟨el, eg⟩ := efind_lg he'
    refine ⟨by unfold hobj; rw [he']; exact ho, fun hz => ?_⟩
    unfold isFz at hz ⊢
    rw [he] at hz
    rw [he']
    simp only [Option.map_some, Option.getD_some, Bool.or_eq_false_iff] at hz ⊢
    rw [el, eg] at hz
    exact hz.1
  refine { h with regs := fun t => ?_, objs := fun n o hn => h.objs n o (hobj' n o hn).1, unf := fun n o k b hn hz hk hb => h.unf n o k b (hobj' n o hn).1 ((hobj' n o hn).2 hz) hk hb,
                  names := fun n k hn => .inl ?_, pos := ?_, kids := fun l g e he hne j hj => ?_, ioz := fun g => ⟨rfl, fun e he => ?_⟩ }
  · rcases rget_map (fun n => rget s.t n) t live with e | e
    · show Rep M μ (rget (live.map fun n => (n, rget s.t n)) t) _
      rw [e]; exact h.regs t
    · show Rep M μ (rget (live.map fun n => (n, rget s.t n)) t) _
      rw [e]; exact .any
  · show n.g < s.g + 1
    rcases h.names n k hn with h1 | ⟨h1, _⟩ <;> omega
  · show 1 ≤ s.g + 1
    omega
  · obtain ⟨e', he', rfl⟩ := restrict_find he
    exact h.kids l g e' he' hne j hj
  · obtain ⟨e', he', rfl⟩ := restrict_find he
    obtain ⟨el, eg⟩ := efind_lg he'
    obtain ⟨h1, h2⟩ := h.ioz g
    show (e'.fz || zin s.z e'.l e'.g) = false
    rw [h2 e' he', el, eg, h1]
    rfl

/-! ### Code -/
def PEx.exit : PEx → Exit
  | .n => .normal
  | .x id => .exit id
  | .r => .ret

theorem wp_loop_n {c : Code} (I : Nat → Act → World → Prop) (n : Nat) (h₀ : I n a w)
    (round : ∀ n a w, I n a w → c.wp P (Exit.then (fun a' w' => ∃ m, m < n ∧ I m a' w') Q) a w) : (Code.loop c).wp P Q a w := by
  intro b k cs
  have key : ∀ n a w, I n a w → ∃ e a' w', Q e a' w' ∧ Arrives P (lone (b.at a (.code c :: .inLoop c :: k)) cs w) b k cs e a' w' := by
    intro n
    induction n using Nat.strongRecOn with
    | _ n ih =>
      intro a w hI
      obtain ⟨e, a₁, w₁, hq, harr⟩ := round n a w hI b (.inLoop c :: k) cs
      cases e with
      | normal =>
        obtain ⟨m, hlt, hI₁⟩ := hq
        obtain ⟨e₂, a₂, w₂, hq₂, harr₂⟩ := ih m hlt a₁ w₁ hI₁
        exact ⟨e₂, a₂, w₂, hq₂, .of_steps (Steps.trans harr (.one step_inLoop)) harr₂⟩
      | exit id => exact ⟨_, a₁, w₁, hq, .pass (x := .inLoop c) rfl (fun _ _ => .inl (by simp)) harr⟩
      | goto l => exact ⟨_, a₁, w₁, hq, .pass (x := .inLoop c) rfl (fun _ _ => .inl (by simp)) harr⟩
      | ret => exact ⟨_, a₁, w₁, hq, .pass (x := .inLoop c) rfl (fun _ _ => .inl (by simp)) harr⟩
      | panic ch => exact ⟨_, a₁, w₁, hq, .pass (x := .inLoop c) rfl (fun _ _ => .inl (by simp)) harr⟩
      | outgrown => exact ⟨_, a₁, w₁, hq, .pass (x := .inLoop c) rfl (fun _ _ => .inl (by simp)) harr⟩
  obtain ⟨e, a', w', hq, harr⟩ := key n a w h₀
  exact ⟨e, a', w', hq, .of_steps (.one step_loop) harr⟩

theorem left_full (n : Nat) : left n (Array.replicate n false) = List.range n := by
  unfold left
  refine List.filter_eq_self.2 fun i hi => ?_
  have : i < n := by simpa using hi
  simp [Array.getD_eq_getD_getElem?, this]

theorem filterMap_range {α : Type} : ∀ (l : List α), (List.range l.length).filterMap (l[·]?) = l := by
  intro l
  apply List.ext_getElem?
  intro i
  have : ∀ (l : List α), (List.range l.length).filterMap (l[·]?) = l := by
    intro l
    induction l with
    | nil => rfl
    | cons x l ih =>
      rw [List.length_cons, List.range_succ_eq_map, List.filterMap_cons]
      simp only [List.getElem?_cons_zero, List.filterMap_map]
      congr 1
  rw [this]

theorem nodup_pairs : ∀ {ps : List POper}, nodupB (ps.flatMap fun p => p.op.cl) = true → (∀ (i j : Nat) (p q : POper), ps[i]? = some p → ps[j]? = some q → i ≠ j → ∀ l ∈ p.op.cl, l ∉ q.op.cl) ∧ ∀ (i : Nat) (p : POper), ps[i]? = some p → nodupB p.op.cl = true
  | [], _ => ⟨fun i j p q h => by simp at h, fun i p h => by simp at h⟩
  | x :: ps, h => by
    rw [List.flatMap_cons] at h
    obtain ⟨n1, n2, n3⟩ := nodup_mem h
    obtain ⟨h1, h2⟩ := nodup_pairs n2
    refine ⟨fun i j p q hp hq hne l hl hl2 => ?_, fun i p hp => ?_⟩
    · cases i with
      | zero =>
        cases j with
        | zero => exact hne rfl
        | succ j =>
          simp at hp hq
          subst hp
          exact n3 l hl (List.mem_flatMap.2 ⟨q, List.mem_of_getElem? hq, hl2⟩)
      | succ i =>
        cases j with
        | zero =>
          simp at hp hq
          subst hq
          exact n3 l hl2 (List.mem_flatMap.2 ⟨p, List.mem_of_getElem? hp, hl⟩)
        | succ j =>
          simp at hp hq
          exact h1 i j p q hp hq (by omega) l hl hl2
    · cases i with
      | zero => simp at hp; subst hp; exact n1
      | succ i => simp at hp; exact h2 i p hp

theorem reg_sound (hG : Good P F) (hm : P.follows .mixedOrders = true) {id : Nat} {ops : Array Oper} {draw : Bool} {ps : List POper} (hs : Sim base bio w0 M0 bk0 nt [] s M μ β a w) (ok : okReg P nt ops ps draw = true) {s' : St} (hr : runOps F ps s = some s')
    (hQ : Whenever base bio w0 M0 bk0 nt s' (Q .normal)) : (Code.region id ops draw).wp P Q a w := by
  simp only [okReg, Bool.and_eq_true] at ok
  obtain ⟨⟨ok1, hnd⟩, ok3⟩ := ok
  obtain ⟨hl, hok⟩ := okOpers_get ok1
  have hl : ops.size = ps.length := by rw [← hl]; exact Array.length_toList.symm
  have hok : ∀ (j : Nat) (p : POper), ps[j]? = some p → ∃ o, ops[j]? = some o ∧ okOper P nt ops o p = true := fun j p hj => by
    obtain ⟨o, h1, h2⟩ := hok j p hj
    exact ⟨o, by simpa using h1, h2⟩
  cases draw with
  | false =>
    refine wp_region ?_
    rw [hl, List.range_eq_range']
    exact ops_seq hG ps 0 hs (fun j p hj => by simpa using hok j p hj) hnd (fun l _ h => by simp at h) hr hQ
  | true =>
    refine wp_region_any hm ?_
    obtain ⟨n1, n2⟩ := nodup_pairs hnd
    refine ops_any hG hl hok (by simpa using ok3) n1 n2 ops.size _ (by simp) (by rw [left_full]; simp) (hs.world (w' := { w with drawn := w.drawn + 1 }) rfl rfl rfl rfl) (fun i _ p _ l _ h => by simp at h) (s' := s') ?_ hQ
    rw [left_full, hl, filterMap_range]
    exact hr

def WhenL (base : Nat) (bio : Option Nat) (w0 : World) (M0 : Mem) (bk0 : Option Blk) (nt : Nat) (s : St) (K : Act → World → Prop) : Prop :=
  ∀ M μ β a w, Sim base bio w0 M0 bk0 nt [] s M μ β a w → K a w

theorem code_sound (hG : Good P F) (hm : P.follows .mixedOrders = true) (N : Nat) : ∀ (pc : PCode) (c : Code) (s s' : St) (x : PEx) (Q : Exit → Act → World → Prop) (M : Mem) (μ : NMap) (β : Nat → Option Nm) (a : Act) (w : World), okCode P nt c pc = true → evC F N pc s = some (x, s') →
    Sim base bio w0 M0 bk0 nt [] s M μ β a w → WhenL base bio w0 M0 bk0 nt s' (Q x.exit) → c.wp P Q a w
  | .skip, c, s, s', x, Q, M, μ, β, a, w, ok, he, hs, hQ => by
    cases c <;> simp [okCode] at ok
    simp only [evC, Option.some.injEq, Prod.mk.injEq] at he
    obtain ⟨rfl, rfl⟩ := he
    exact wp_skip (hQ _ _ _ _ _ hs)
  | .reg ps draw live liveO, c, s, s', x, Q, M, μ, β, a, w, ok, he, hs, hQ => by
    cases c <;> simp [okCode] at ok
    rename_i id ops draw'
    obtain ⟨rfl, ok⟩ := ok
    simp only [evC] at he
    obtain ⟨s1, h1, h2⟩ := Option.map_eq_some_iff.1 he
    simp only [Prod.mk.injEq] at h2
    obtain ⟨rfl, rfl⟩ := h2
    exact reg_sound hG hm hs ok h1 fun L M μ β a w h => hQ _ _ _ _ _ (h.restrict live liveO)
  | .seq p q, c, s, s', x, Q, M, μ, β, a, w, ok, he, hs, hQ => by
    cases c <;> simp [okCode] at ok
    rename_i c1 c2
    simp only [evC] at he
    split at he
    · rename_i s1 h1
      exact wp_seq (code_sound hG hm N p c1 s s1 .n _ M μ β a w ok.1 h1 hs fun M μ β a w h => code_sound hG hm N q c2 s1 s' x Q M μ β a w ok.2 he h hQ)
    · rename_i hne
      refine wp_seq (code_sound hG hm N p c1 s s' x _ M μ β a w ok.1 he hs fun M μ β a w h => ?_)
      cases x with
      | n => exact absurd he (hne s')
      | x id => exact hQ _ _ _ _ _ h
      | r => exact hQ _ _ _ _ _ h
  | .cond y p q, c, s, s', x, Q, M, μ, β, a, w, ok, he, hs, hQ => by
    cases c <;> simp [okCode] at ok
    rename_i oc c1 c2
    obtain ⟨⟨ok1, ok2⟩, ok3⟩ := ok
    have hr := okArg_rep hs.regs ok1
    simp only [evC] at he
    split at he
    · rename_i hb
      rw [hb] at hr
      generalize hv : a.eval oc = v at hr
      cases hr
      exact wp_cond_true hv (code_sound hG hm N p c1 s s' x Q M μ β a w ok2 he hs hQ)
    · rename_i hb
      rw [hb] at hr
      generalize hv : a.eval oc = v at hr
      cases hr
      exact wp_cond_false hv (code_sound hG hm N q c2 s s' x Q M μ β a w ok3 he hs hQ)
    · cases he
  | .block id p, c, s, s', x, Q, M, μ, β, a, w, ok, he, hs, hQ => by
    cases c <;> simp [okCode] at ok
    rename_i id' c1
    obtain ⟨rfl, ok⟩ := ok
    simp only [evC] at he
    split at he
    · rename_i i s1 h1
      cases hi : (i == id') with
      | true =>
        rw [hi] at he
        simp only [cond_true, Option.some.injEq, Prod.mk.injEq] at he
        obtain ⟨rfl, rfl⟩ := he
        simp only [beq_iff_eq] at hi
        subst hi
        refine wp_block (code_sound hG hm N p c1 s s1 (.x i) _ M μ β a w ok h1 hs fun M μ β a w h => ?_)
        show Exit.inBlock i Q (.exit i) a w
        simp only [Exit.inBlock, if_true]
        exact hQ _ _ _ _ _ h
      | false =>
        rw [hi] at he
        simp only [cond_false, Option.some.injEq, Prod.mk.injEq] at he
        obtain ⟨rfl, rfl⟩ := he
        have hi : i ≠ id' := by simpa using hi
        refine wp_block (code_sound hG hm N p c1 s s1 (.x i) _ M μ β a w ok h1 hs fun M μ β a w h => ?_)
        show Exit.inBlock id' Q (.exit i) a w
        simp only [Exit.inBlock, if_neg hi]
        exact hQ _ _ _ _ _ h
    · rename_i hne
      refine wp_block (code_sound hG hm N p c1 s s' x _ M μ β a w ok he hs fun M μ β a w h => ?_)
      cases x with
      | n => exact hQ _ _ _ _ _ h
      | x id => exact absurd he (hne id s')
      | r => exact hQ _ _ _ _ _ h
  | .loop p, c, s, s', x, Q, M, μ, β, a, w, ok, he, hs, hQ => by
    cases c <;> simp [okCode] at ok
    rename_i c1
    simp only [evC] at he
    refine wp_loop_n (fun n a w => ∃ s1 M μ β, loopN (evC F N p) n s1 = some (x, s') ∧ Sim base bio w0 M0 bk0 nt [] s1 M μ β a w) N ⟨s, M, μ, β, he, hs⟩ (fun n a w hI => ?_)
    obtain ⟨s1, M, μ, β, h1, h2⟩ := hI
    cases n with
    | zero => simp [loopN] at h1
    | succ n =>
      simp only [loopN] at h1
      split at h1
      · rename_i s2 h3
        exact code_sound hG hm N p c1 s1 s2 .n _ M μ β a w ok h3 h2 fun M μ β a w h => ⟨n, Nat.lt_succ_self n, s2, M, μ, β, h1, h⟩
      · rename_i hne
        refine code_sound hG hm N p c1 s1 s' x _ M μ β a w ok h1 h2 fun M μ β a w h => ?_
        cases x with
        | n => exact absurd h1 (hne s')
        | x id => exact hQ _ _ _ _ _ h
        | r => exact hQ _ _ _ _ _ h
  | .exit id, c, s, s', x, Q, M, μ, β, a, w, ok, he, hs, hQ => by
    cases c <;> simp [okCode] at ok
    subst ok
    simp only [evC, Option.some.injEq, Prod.mk.injEq] at he
    obtain ⟨rfl, rfl⟩ := he
    exact wp_exit (hQ _ _ _ _ _ hs)
  | .ret, c, s, s', x, Q, M, μ, β, a, w, ok, he, hs, hQ => by
    cases c <;> simp [okCode] at ok
    simp only [evC, Option.some.injEq, Prod.mk.injEq] at he
    obtain ⟨rfl, rfl⟩ := he
    exact wp_ret (hQ _ _ _ _ _ hs)
  | .bad, c, s, s', x, Q, M, μ, β, a, w, ok, he, hs, hQ => by
    simp [evC] at he

end
end Go.Proofs.Ytbdknlejnacmgaa.Pi
