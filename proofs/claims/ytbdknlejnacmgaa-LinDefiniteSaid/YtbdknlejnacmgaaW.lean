import Derived.Test.YtbdknlejnacmgaaPiA

section
/-
  Reckoning on our machine by rewriting: the call function in the limit of fuel; one rule for each operation; rules for code.
-/
namespace Go.Proofs.Ytbdknlejnacmgaa.Pi.W
open Go
set_option linter.unusedVariables false
set_option linter.unusedSimpArgs false

/-- With fuel enough. -/
def Evt (p : Nat → Nat → Prop) : Prop := ∃ n0, ∀ N k, n0 ≤ N → n0 ≤ k → p N k

theorem Evt.all {p : Nat → Nat → Prop} (h : ∀ N k, p N k) : Evt p := ⟨0, fun N k _ _ => h N k⟩
theorem Evt.mono {p q : Nat → Nat → Prop} (h : Evt p) (k : ∀ N k, p N k → q N k) : Evt q := let ⟨n, h⟩ := h; ⟨n, fun N m h1 h2 => k N m (h N m h1 h2)⟩
theorem Evt.and {p q : Nat → Nat → Prop} (h : Evt p) (k : Evt q) : Evt fun N m => p N m ∧ q N m :=
  let ⟨n, h⟩ := h; let ⟨m, k⟩ := k; ⟨max n m, fun N l h1 h2 => ⟨h N l (by omega) (by omega), k N l (by omega) (by omega)⟩⟩

section
variable {T : Nat → Option PFunc}

def Runs (T : Nat → Option PFunc) (f : Nat) (args : List PV) (io : Option Obj) (r : Ret) : Prop := Evt fun N k => callN T N k f args io = some r

theorem Runs.out {f : Nat} {args : List PV} {io : Option Obj} {r : Ret} (h : Runs T f args io r) : ∃ N k, callN T N k f args io = some r :=
  let ⟨n, h⟩ := h; ⟨n, n, h n n (Nat.le_refl _) (Nat.le_refl _)⟩

/-- Code that comes to an end, where Q holds. -/
def Wp (T : Nat → Option PFunc) (c : PCode) (s : St) (Q : PEx → St → Prop) : Prop := ∃ x s', Evt (fun N k => evC (callN T N k) N c s = some (x, s')) ∧ Q x s'
def WpOps (T : Nat → Option PFunc) (ops : List POper) (s : St) (Q : St → Prop) : Prop := ∃ s', Evt (fun N k => runOps (callN T N k) ops s = some s') ∧ Q s'
def WpOp (T : Nat → Option PFunc) (o : POper) (s : St) (Q : Eff → Prop) : Prop := ∃ e, Evt (fun N k => evGd (callN T N k) s o = some e) ∧ Q e

theorem Wp.mono {c : PCode} {s : St} {Q Q' : PEx → St → Prop} (h : Wp T c s Q) (k : ∀ x s, Q x s → Q' x s) : Wp T c s Q' := let ⟨x, s', h, q⟩ := h; ⟨x, s', h, k _ _ q⟩

theorem wp_skip {s : St} {Q : PEx → St → Prop} (h : Q .n s) : Wp T .skip s Q := ⟨.n, s, Evt.all fun _ _ => rfl, h⟩
theorem wp_exit {s : St} {Q : PEx → St → Prop} {id : Nat} (h : Q (.x id) s) : Wp T (.exit id) s Q := ⟨.x id, s, Evt.all fun _ _ => rfl, h⟩
theorem wp_ret {s : St} {Q : PEx → St → Prop} (h : Q .r s) : Wp T .ret s Q := ⟨.r, s, Evt.all fun _ _ => rfl, h⟩
theorem wp_reg {s : St} {Q : PEx → St → Prop} {ops : List POper} {draw : Bool} {l lo : List Nat} (h : WpOps T ops s fun s' => Q .n (s'.restrict l lo)) : Wp T (.reg ops draw l lo) s Q := by
  obtain ⟨s', h, q⟩ := h
  exact ⟨.n, _, h.mono fun N k e => by simp only [evC, e, Option.map_some], q⟩
theorem wp_seq {s : St} {Q : PEx → St → Prop} {a b : PCode} (h : Wp T a s fun x s' => match x with | .n => Wp T b s' Q | x => Q x s') : Wp T (.seq a b) s Q := by
  obtain ⟨x, s', h, q⟩ := h
  cases x with
  | n =>
    obtain ⟨x2, s2, h2, q2⟩ := q
    exact ⟨x2, s2, (h.and h2).mono fun N k e => by simp only [evC, e.1, e.2], q2⟩
  | x id => exact ⟨.x id, s', h.mono fun N k e => by simp only [evC, e], q⟩
  | r => exact ⟨.r, s', h.mono fun N k e => by simp only [evC, e], q⟩
theorem wp_cond_t {s : St} {Q : PEx → St → Prop} {c : PArg} {a b : PCode} (hc : s.ev c = .bool true) (h : Wp T a s Q) : Wp T (.cond c a b) s Q := by
  obtain ⟨x, s', h, q⟩ := h
  exact ⟨x, s', h.mono fun N k e => by simp only [evC, hc, e], q⟩
theorem wp_cond_f {s : St} {Q : PEx → St → Prop} {c : PArg} {a b : PCode} (hc : s.ev c = .bool false) (h : Wp T b s Q) : Wp T (.cond c a b) s Q := by
  obtain ⟨x, s', h, q⟩ := h
  exact ⟨x, s', h.mono fun N k e => by simp only [evC, hc, e], q⟩
theorem wp_cond {s : St} {Q : PEx → St → Prop} {c : PArg} {a b : PCode} {t : Bool} (hc : s.ev c = .bool t) (h1 : t = true → Wp T a s Q) (h2 : t = false → Wp T b s Q) : Wp T (.cond c a b) s Q := by
  cases t
  · exact wp_cond_f hc (h2 rfl)
  · exact wp_cond_t hc (h1 rfl)
theorem wp_block {s : St} {Q : PEx → St → Prop} {id : Nat} {a : PCode} (h : Wp T a s fun x s' => match x with | .x i => if i = id then Q .n s' else Q (.x i) s' | x => Q x s') : Wp T (.block id a) s Q := by
  obtain ⟨x, s', h, q⟩ := h
  cases x with
  | n => exact ⟨.n, s', h.mono fun N k e => by simp only [evC, e], q⟩
  | r => exact ⟨.r, s', h.mono fun N k e => by simp only [evC, e], q⟩
  | x i =>
    by_cases hi : i = id
    · simp only [hi, if_true] at q
      exact ⟨.n, s', h.mono fun N k e => by simp [evC, e, hi], q⟩
    · simp only [hi, if_false] at q
      exact ⟨.x i, s', h.mono fun N k e => by simp only [evC, e, beq_eq_false_iff_ne.2 hi, cond_false], q⟩

/-- Rounds: by a measure that falls. -/
theorem wp_loop {a : PCode} {Q : PEx → St → Prop} (I : Nat → St → Prop) (n : Nat) {s : St} (h0 : I n s)
    (round : ∀ n s, I n s → Wp T a s fun x s' => match x with | .n => ∃ m, m < n ∧ I m s' | x => Q x s') : Wp T (.loop a) s Q := by
  have key : ∀ n s, I n s → ∃ x s', (∃ n0, ∀ N k j, n0 ≤ N → n0 ≤ k → n0 ≤ j → loopN (evC (callN T N k) N a) j s = some (x, s')) ∧ Q x s' := by
    intro n
    induction n using Nat.strongRecOn with
    | _ n ih =>
      intro s hI
      obtain ⟨x, s1, ⟨m0, h⟩, q⟩ := round n s hI
      cases x with
      | n =>
        obtain ⟨m, hm, hI1⟩ := q
        obtain ⟨x2, s2, ⟨m1, h2⟩, q2⟩ := ih m hm s1 hI1
        refine ⟨x2, s2, ⟨max m0 m1 + 1, fun N k j h3 h4 h5 => ?_⟩, q2⟩
        cases j with
        | zero => omega
        | succ j =>
          simp only [loopN, h N k (by omega) (by omega)]
          exact h2 N k j (by omega) (by omega) (by omega)
      | x id =>
        refine ⟨.x id, s1, ⟨m0 + 1, fun N k j h3 h4 h5 => ?_⟩, q⟩
        cases j with
        | zero => omega
        | succ j => simp only [loopN, h N k (by omega) (by omega)]
      | r =>
        refine ⟨.r, s1, ⟨m0 + 1, fun N k j h3 h4 h5 => ?_⟩, q⟩
        cases j with
        | zero => omega
        | succ j => simp only [loopN, h N k (by omega) (by omega)]
  obtain ⟨x, s', ⟨n0, h⟩, q⟩ := key n s h0
  exact ⟨x, s', ⟨n0, fun N k h1 h2 => h N k N h1 h2 h1⟩, q⟩

theorem wpOps_nil {s : St} {Q : St → Prop} (h : Q s) : WpOps T [] s Q := ⟨s, Evt.all fun _ _ => rfl, h⟩
theorem wpOps_cons {s : St} {Q : St → Prop} {o : POper} {r : List POper} (h : WpOp T o s fun e => WpOps T r (s.app o.d e) Q) : WpOps T (o :: r) s Q := by
  obtain ⟨e, h, s', h2, q⟩ := h
  exact ⟨s', (h.and h2).mono fun N k e => by simp only [runOps, e.1, Option.bind_some, e.2], q⟩
/-- An operation that calls nothing. -/
theorem wpOp_plain {s : St} {Q : Eff → Prop} {o : POper} {e : Eff} (h : ∀ F, evGd F s o = some e) (q : Q e) : WpOp T o s Q := ⟨e, Evt.all fun _ _ => h _, q⟩
/-- A call, nothing to change. -/
theorem wpOp_call {s : St} {Q : Eff → Prop} {d : Option Nat} {f : PArg} {al : List PArg} {io imp wl : Option Nat} {av : List Nat} {n : Nat} {cap : List PV} {qs : List PV} {zs : List (Nat × Nat)} {r : Ret} {e : Eff}
    (hf : s.ev f = .fn n cap) (hq : fzl (fzv s.h) (al.map s.ev ++ cap) = some (qs, zs)) (hz : (zs.all fun x => okAv av x.1) = true) (hio : io = none) (hr : Runs T n qs none r) (ht : takeIn s imp r zs [] = some e) (q : Q e) :
    WpOp T ⟨d, .call f al io imp, none, wl, av⟩ s Q := by
  subst hio
  refine ⟨e, hr.mono fun N k e => ?_, q⟩
  simp [evGd, evOp, evCall, hf, hq, hz, e, ht]

/-- A function's run, by its body's. -/
theorem runs_of {f : Nat} {pf : PFunc} {args : List PV} {io : Option Obj} {r : Ret} (hT : T f = some pf) (hn : args.length = pf.np)
    (h : Wp T pf.body { t := zipArgs 0 args, h := ioEnts io, z := [], g := 1 } fun x s => (x = .n ∨ x = .r) ∧ ((mapM' (resVal s) pf.res).bind fun vs => fin pf.own vs s io) = some r) : Runs T f args io r := by
  obtain ⟨x, s', ⟨n0, h⟩, hx, q⟩ := h
  refine ⟨n0 + 1, fun N k h1 h2 => ?_⟩
  cases k with
  | zero => omega
  | succ k =>
    have := h N k (by omega) (by omega)
    simp only [callN, hT, Option.bind_some, evFn, hn, beq_self_eq_true, cond_true, this]
    rcases hx with rfl | rfl
    · exact q
    · exact q

end
section
variable {T : Nat → Option PFunc}

theorem Runs.uniq {f : Nat} {a : List PV} {io : Option Obj} {r r' : Ret} (h : Runs T f a io r) (h' : Runs T f a io r') : r = r' := by
  obtain ⟨n, h⟩ := h
  obtain ⟨m, h'⟩ := h'
  have e1 : callN T (max n m) (max n m) f a io = some r := h (max n m) (max n m) (by omega) (by omega)
  have e2 : callN T (max n m) (max n m) f a io = some r' := h' (max n m) (max n m) (by omega) (by omega)
  rw [e1] at e2
  exact Option.some.inj e2

open Classical in
/-- What a call hands back, with fuel enough. -/
noncomputable def lim (T : Nat → Option PFunc) : CallF := fun f a io => if h : ∃ r, Runs T f a io r then some h.choose else none

theorem Runs.lim {f : Nat} {a : List PV} {io : Option Obj} {r : Ret} (h : Runs T f a io r) : lim T f a io = some r := by
  have hh : ∃ r, Runs T f a io r := ⟨r, h⟩
  unfold W.lim
  rw [dif_pos hh]
  exact congrArg some (hh.choose_spec.uniq h)

theorem runs_of_lim {f : Nat} {a : List PV} {io : Option Obj} {r : Ret} (h : lim T f a io = some r) : Runs T f a io r := by
  unfold W.lim at h
  split at h
  · rename_i hh
    have := hh.choose_spec
    cases h
    exact this
  · cases h

theorem bindCall {f : Nat} {a : List PV} {io : Option Obj} {α : Type} {g : Ret → Option α} {e : α} (h : (lim T f a io).bind g = some e) : Evt fun N k => (callN T N k f a io).bind g = some e := by
  obtain ⟨r, h1, h2⟩ := Option.bind_eq_some_iff.1 h
  exact (runs_of_lim h1).mono fun N k e => by rw [e]; exact h2

theorem evCall_lim {s : St} {av : List Nat} {wl : Option Nat} {f : PV} {args : List PV} {io imp : Option Nat} {e : Eff} (h : evCall (lim T) s av wl f args io imp = some e) :
    Evt fun N k => evCall (callN T N k) s av wl f args io imp = some e := by
  cases f with
  | fn k cap =>
    simp only [evCall] at h ⊢
    split at h
    · rename_i n sz off len p _
      cases h1 : okAv av n.l <;> simp only [h1, cond_false, cond_true] at h ⊢
      · cases h
      cases h2 : isFz s.h s.z n <;> simp only [h2, cond_false, cond_true] at h ⊢
      · obtain ⟨q, h3, h⟩ := Option.bind_eq_some_iff.1 h
        simp only [h3, Option.bind_some]
        cases h4 : (q.2.all fun x => okAv av x.1 && !(x.1 == n.l && x.2 == n.g)) && okW wl n.l <;> simp only [h4, cond_false, cond_true] at h ⊢
        · cases h
        obtain ⟨o, h5, h⟩ := Option.bind_eq_some_iff.1 h
        simp only [h5, Option.bind_some]
        cases h6 : o.pure && decide (off + len ≤ o.xs.length) <;> simp only [h6, cond_false, cond_true] at h ⊢
        · cases h
        exact bindCall h
      · obtain ⟨q, h3, h⟩ := Option.bind_eq_some_iff.1 h
        simp only [h3, Option.bind_some]
        cases h4 : (q.2.all fun x => okAv av x.1) <;> simp only [h4, cond_false, cond_true] at h ⊢
        · cases h
        exact bindCall h
    · obtain ⟨q, h3, h⟩ := Option.bind_eq_some_iff.1 h
      simp only [h3, Option.bind_some]
      cases h4 : (q.2.all fun x => okAv av x.1) <;> simp only [h4, cond_false, cond_true] at h ⊢
      · cases h
      exact bindCall h
  | _ => simp [evCall] at h

theorem evOp_lim {s : St} {o : POper} {e : Eff} (h : evOp (lim T) s o = some e) : Evt fun N k => evOp (callN T N k) s o = some e := by
  obtain ⟨d, op, gd, wl, av⟩ := o
  cases op with
  | call f args io imp => exact evCall_lim h
  | _ => exact Evt.all fun N k => h

theorem evGd_lim {s : St} {o : POper} {e : Eff} (h : evGd (lim T) s o = some e) : Evt fun N k => evGd (callN T N k) s o = some e := by
  obtain ⟨d, op, gd, wl, av⟩ := o
  cases gd with
  | none => exact evOp_lim h
  | some p =>
    obtain ⟨t, want⟩ := p
    simp only [evGd] at h ⊢
    cases h2 : rget s.t t <;> simp only [h2] at h ⊢ <;> try (cases h; done)
    rename_i b
    cases hb : b == want <;> simp only [hb, cond_false, cond_true] at h ⊢
    · exact Evt.all fun _ _ => h
    · exact evOp_lim h

theorem runOps_lim : ∀ {ops : List POper} {s s' : St}, runOps (lim T) ops s = some s' → Evt fun N k => runOps (callN T N k) ops s = some s'
  | [], s, s', h => Evt.all fun _ _ => h
  | o :: r, s, s', h => by
    obtain ⟨e, h1, h2⟩ := Option.bind_eq_some_iff.1 h
    exact ((evGd_lim h1).and (runOps_lim h2)).mono fun N k e => by simp only [runOps, e.1, Option.bind_some, e.2]

/-! ### Code, with what comes behind -/
def kS (T : Nat → Option PFunc) (b : PCode) (Q : PEx → St → Prop) (x : PEx) (s : St) : Prop := match x with | .n => Wp T b s Q | x => Q x s
def kB (id : Nat) (Q : PEx → St → Prop) (x : PEx) (s : St) : Prop := match x with | .x i => if i = id then Q .n s else Q (.x i) s | x => Q x s
def kL (P : St → Prop) (Q : PEx → St → Prop) (x : PEx) (s : St) : Prop := match x with | .n => P s | x => Q x s
def kF (res : List PRes) (own : Bool) (io : Option Obj) (r : Ret) (x : PEx) (s : St) : Prop := (x = .n ∨ x = .r) ∧ ((mapM' (resVal s) res).bind fun vs => fin own vs s io) = some r

variable {s s' : St} {Q : PEx → St → Prop} {a b : PCode} {id i : Nat}

theorem w_seq (h : Wp T a s (kS T b Q)) : Wp T (.seq a b) s Q := wp_seq (h.mono fun x s h => by cases x <;> exact h)
theorem w_block (h : Wp T a s (kB id Q)) : Wp T (.block id a) s Q := wp_block (h.mono fun x s h => by cases x <;> exact h)
theorem w_loop (I : Nat → St → Prop) (n : Nat) (h0 : I n s) (round : ∀ n s, I n s → Wp T a s (kL (fun s' => ∃ m, m < n ∧ I m s') Q)) : Wp T (.loop a) s Q :=
  wp_loop I n h0 fun n s hI => (round n s hI).mono fun x s h => by cases x <;> exact h

theorem w_skipS (h : Wp T b s Q) : Wp T .skip s (kS T b Q) := wp_skip h
theorem w_skipB (h : Wp T .skip s Q) : Wp T .skip s (kB id Q) := by
  obtain ⟨x, s', ⟨n0, h⟩, q⟩ := h
  have e := h n0 n0 (Nat.le_refl _) (Nat.le_refl _)
  simp only [evC, Option.some.injEq, Prod.mk.injEq] at e
  obtain ⟨rfl, rfl⟩ := e
  exact wp_skip q
theorem w_skipL {P : St → Prop} (h : P s) : Wp T .skip s (kL P Q) := wp_skip h
theorem exit_inv (h : Wp T (.exit i) s Q) : Q (.x i) s := by
  obtain ⟨x, s', ⟨n0, h⟩, q⟩ := h
  have e := h n0 n0 (Nat.le_refl _) (Nat.le_refl _)
  simp only [evC, Option.some.injEq, Prod.mk.injEq] at e
  obtain ⟨rfl, rfl⟩ := e
  exact q
theorem skip_inv (h : Wp T .skip s Q) : Q .n s := by
  obtain ⟨x, s', ⟨n0, h⟩, q⟩ := h
  have e := h n0 n0 (Nat.le_refl _) (Nat.le_refl _)
  simp only [evC, Option.some.injEq, Prod.mk.injEq] at e
  obtain ⟨rfl, rfl⟩ := e
  exact q
theorem ret_inv (h : Wp T .ret s Q) : Q .r s := by
  obtain ⟨x, s', ⟨n0, h⟩, q⟩ := h
  have e := h n0 n0 (Nat.le_refl _) (Nat.le_refl _)
  simp only [evC, Option.some.injEq, Prod.mk.injEq] at e
  obtain ⟨rfl, rfl⟩ := e
  exact q
theorem w_exitS (h : Wp T (.exit i) s Q) : Wp T (.exit i) s (kS T b Q) := wp_exit (show Q (.x i) s from exit_inv h)
theorem w_exitL {P : St → Prop} (h : Wp T (.exit i) s Q) : Wp T (.exit i) s (kL P Q) := wp_exit (show Q (.x i) s from exit_inv h)
theorem w_exitB (h : Wp T .skip s Q) : Wp T (.exit id) s (kB id Q) := wp_exit (by simp only [kB, if_true]; exact skip_inv h)
theorem w_exitN (hn : (i == id) = false) (h : Wp T (.exit i) s Q) : Wp T (.exit i) s (kB id Q) := wp_exit (by simp only [kB, if_neg (beq_eq_false_iff_ne.1 hn)]; exact exit_inv h)
theorem w_retS (h : Wp T .ret s Q) : Wp T .ret s (kS T b Q) := wp_ret (show Q .r s from ret_inv h)
theorem w_retL {P : St → Prop} (h : Wp T .ret s Q) : Wp T .ret s (kL P Q) := wp_ret (show Q .r s from ret_inv h)
theorem w_retB (h : Wp T .ret s Q) : Wp T .ret s (kB id Q) := wp_ret (show Q .r s from ret_inv h)

/-- The state behind a region. -/
noncomputable def rgn (F : CallF) (ops : List POper) (s : St) (l lo : List Nat) : Option St := (runOps F ops s).map fun s' => s'.restrict l lo

theorem w_reg {ops : List POper} {d : Bool} {l lo : List Nat} (h : rgn (lim T) ops s l lo = some s') (q : Wp T .skip s' Q) : Wp T (.reg ops d l lo) s Q := by
  unfold rgn at h
  obtain ⟨s1, h1, rfl⟩ := Option.map_eq_some_iff.1 h
  exact ⟨.n, _, (runOps_lim h1).mono fun N k e => by simp only [evC, e, Option.map_some], skip_inv q⟩
theorem w_regS {ops : List POper} {d : Bool} {l lo : List Nat} (h : rgn (lim T) ops s l lo = some s') (q : Wp T b s' Q) : Wp T (.reg ops d l lo) s (kS T b Q) := w_reg h (w_skipS q)
theorem w_cond {c : PArg} {t : Bool} (hc : s.ev c = .bool t) (h1 : t = true → Wp T a s Q) (h2 : t = false → Wp T b s Q) : Wp T (.cond c a b) s Q := wp_cond hc h1 h2
theorem w_condT {c : PArg} {v : PV} (hc : s.ev c = v) (hv : v = .bool true) (h : Wp T a s Q) : Wp T (.cond c a b) s Q := wp_cond_t (hc.trans hv) h
theorem w_condF {c : PArg} {v : PV} (hc : s.ev c = v) (hv : v = .bool false) (h : Wp T b s Q) : Wp T (.cond c a b) s Q := wp_cond_f (hc.trans hv) h
/-- A cut: what holds between two pieces. -/
theorem w_cut (R : PEx → St → Prop) (h : Wp T a s R) (k : ∀ x s, R x s → Q x s) : Wp T a s Q := h.mono k

theorem runs_w {f np : Nat} {res : List PRes} {own : Bool} {body : PCode} {args : List PV} {io : Option Obj} {r : Ret} (hT : T f = some ⟨np, res, own, body⟩) (hn : args.length = np)
    (h : Wp T body { t := zipArgs 0 args, h := ioEnts io, z := [], g := 1 } (kF res own io r)) : lim T f args io = some r :=
  (runs_of hT hn (h.mono fun x s h => h)).lim
theorem w_fin {res : List PRes} {own : Bool} {io : Option Obj} {r : Ret} (h : ((mapM' (resVal s) res).bind fun vs => fin own vs s io) = some r) : Wp T .ret s (kF res own io r) := wp_ret ⟨.inr rfl, h⟩
theorem w_finN {res : List PRes} {own : Bool} {io : Option Obj} {r : Ret} (h : ((mapM' (resVal s) res).bind fun vs => fin own vs s io) = some r) : Wp T .skip s (kF res own io r) := wp_skip ⟨.inl rfl, h⟩
/-- .. some r with P. -/
def kE (res : List PRes) (own : Bool) (io : Option Obj) (P : Ret → Prop) (x : PEx) (s : St) : Prop := ∃ r, kF res own io r x s ∧ P r
theorem runs_ex {f np : Nat} {res : List PRes} {own : Bool} {body : PCode} {args : List PV} {io : Option Obj} {P : Ret → Prop} (hT : T f = some ⟨np, res, own, body⟩) (hn : args.length = np)
    (h : Wp T body { t := zipArgs 0 args, h := ioEnts io, z := [], g := 1 } (kE res own io P)) : ∃ r, lim T f args io = some r ∧ P r := by
  obtain ⟨x, s', h1, r, h2, h3⟩ := h
  exact ⟨r, runs_w hT hn ⟨x, s', h1, h2⟩, h3⟩
theorem w_ex {res : List PRes} {own : Bool} {io : Option Obj} {P : Ret → Prop} (r : Ret) (h : ((mapM' (resVal s) res).bind fun vs => fin own vs s io) = some r) (hP : P r) : Wp T .ret s (kE res own io P) := wp_ret ⟨r, ⟨.inr rfl, h⟩, hP⟩
end

attribute [irreducible] Wp
/-! ### Rewriting: nothing is looked at behind what is not reckoned yet -/
/-- (So that it is not taken for one by reckoning alone.) -/
theorem nrfl {α : Sort _} {a b : α} (h : a = b) : a = b := h
def thn {α β : Type} (a : Option α) (f : α → Option β) : Option β := a.bind f
theorem thn_some {α β : Type} (a : α) (f : α → Option β) : thn (some a) f = f a := nrfl rfl
@[congr] theorem thn_congr {α β : Type} {a b : Option α} {f : α → Option β} (h : a = b) : thn a f = thn b f := by rw [h]
def sel {α : Type} (b : Bool) (x y : Option α) : Option α := bif b then x else y
theorem sel_true {α : Type} (x y : Option α) : sel true x y = x := nrfl rfl
theorem sel_false {α : Type} (x y : Option α) : sel false x y = y := nrfl rfl
@[congr] theorem sel_congr {α : Type} {b c : Bool} {x y : Option α} (h : b = c) : sel b x y = sel c x y := by rw [h]
/-- Only if. -/
def req {α : Type} (b : Bool) (x : Option α) : Option α := bif b then x else none
theorem req_true {α : Type} (x : Option α) : req true x = x := nrfl rfl
@[congr] theorem req_congr {α : Type} {b c : Bool} {x : Option α} (h : b = c) : req b x = req c x := by rw [h]
theorem req_eq {α : Type} (b : Bool) (x : Option α) : (bif b then x else none) = req b x := rfl

attribute [go_sem] thn_some sel_true sel_false req_true
end Go.Proofs.Ytbdknlejnacmgaa.Pi.W
end

section
/-
  Reckoning by rewriting: a rule for each operation.
-/
namespace Go.Proofs.Ytbdknlejnacmgaa.Pi.W
open Go
set_option linter.unusedVariables false
set_option linter.unusedSimpArgs false

/-! ### Slots and objects -/
def csel {α : Type} (b : Bool) (x y : α) : α := bif b then x else y
theorem csel_true {α : Type} (x y : α) : csel true x y = x := nrfl rfl
theorem csel_false {α : Type} (x y : α) : csel false x y = y := nrfl rfl
@[congr] theorem csel_congr {α : Type} {b c : Bool} {x y : α} (h : b = c) : csel b x y = csel c x y := by rw [h]
theorem rget_nil (n : Nat) : rget [] n = .any := nrfl rfl
theorem rget_cons (m n : Nat) (v : PV) (r : List (Nat × PV)) : rget ((m, v) :: r) n = csel (m == n) v (rget r n) := nrfl rfl
theorem efind_nil (l g : Nat) : efind [] l g = none := nrfl rfl
theorem efind_cons (l' g' : Nat) (fz : Bool) (os : List Obj) (r : List Ent) (l g : Nat) : efind (⟨l', g', fz, os⟩ :: r) l g = csel (l' == l && g' == g) (some ⟨l', g', fz, os⟩) (efind r l g) := nrfl rfl
theorem lfind_nil (l : Nat) : lfind [] l = none := nrfl rfl
theorem lfind_cons (l' g' : Nat) (fz : Bool) (os : List Obj) (r : List Ent) (l : Nat) : lfind (⟨l', g', fz, os⟩ :: r) l = csel (l' == l) (some ⟨l', g', fz, os⟩) (lfind r l) := nrfl rfl
def osAt (e : Ent) (j : Nat) : Option Obj := e.os[j]?
theorem osAt_mk (l g : Nat) (fz : Bool) (os : List Obj) (j : Nat) : osAt ⟨l, g, fz, os⟩ j = os[j]? := nrfl rfl
theorem hobj_eq (h : List Ent) (l g j : Nat) : hobj h ⟨l, g, j⟩ = thn (efind h l g) fun e => osAt e j := nrfl rfl
theorem zin_nil (l g : Nat) : zin [] l g = false := nrfl rfl
theorem zin_cons (a b l g : Nat) (r : List (Nat × Nat)) : zin ((a, b) :: r) l g = ((a == l && b == g) || zin r l g) := nrfl rfl
def isFz1 (e : Option Ent) (b : Bool) : Bool := (e.map (·.fz)).getD true || b
theorem isFz1_some (l g : Nat) (fz : Bool) (os : List Obj) (b : Bool) : isFz1 (some ⟨l, g, fz, os⟩) b = (fz || b) := nrfl rfl
theorem isFz_eq (h : List Ent) (z : List (Nat × Nat)) (l g j : Nat) : isFz h z ⟨l, g, j⟩ = isFz1 (efind h l g) (zin z l g) := nrfl rfl
def putE (e : Ent) (j : Nat) (o : Obj) : Ent := { e with os := e.os.set j o }
theorem putE_mk (l g : Nat) (fz : Bool) (os : List Obj) (j : Nat) (o : Obj) : putE ⟨l, g, fz, os⟩ j o = ⟨l, g, fz, os.set j o⟩ := nrfl rfl
theorem get_0 {α : Type} (x : α) (l : List α) : (x :: l)[0]? = some x := nrfl rfl
theorem get_1 {α : Type} (x y : α) (l : List α) : (x :: y :: l)[1]? = some y := nrfl rfl
theorem get_2 {α : Type} (x y z : α) (l : List α) : (x :: y :: z :: l)[2]? = some z := nrfl rfl
theorem put_eq (h : List Ent) (l g j : Nat) (o : Obj) : put h ⟨l, g, j⟩ o = thn (efind h l g) fun e => some (putE e j o) := by
  unfold put thn; cases efind h l g <;> rfl
theorem okAv_nil (l : Nat) : okAv [] l = true := nrfl rfl
theorem okAv_cons (a : Nat) (r : List Nat) (l : Nat) : okAv (a :: r) l = (!(l == a) && okAv r l) := by unfold okAv; rw [List.contains_cons, Bool.not_or]
theorem okW_none (l : Nat) : okW none l = true := nrfl rfl
theorem okW_some (w l : Nat) : okW (some w) l = (w == l) := nrfl rfl

attribute [go_sem] csel_true csel_false rget_nil rget_cons efind_nil efind_cons lfind_nil lfind_cons osAt_mk hobj_eq zin_nil zin_cons isFz1_some isFz_eq putE_mk put_eq okAv_nil okAv_cons okW_none okW_some
attribute [go_sem] Nat.reduceBEq beq_self_eq_true Bool.and_self Bool.false_and Bool.true_and Bool.and_true Bool.and_false Bool.or_false Bool.false_or Bool.or_true Bool.true_or Bool.not_true Bool.not_false Nat.reduceAdd Nat.reduceLeDiff decide_true decide_false List.all_nil List.all_cons get_0 get_1 get_2 List.set_cons_zero Nat.le_refl

/-! ### Values -/
def evA (t : List (Nat × PV)) : PArg → PV
  | .t n => rget t n
  | .c v => v
theorem evA_t (t : List (Nat × PV)) (n : Nat) : evA t (.t n) = rget t n := nrfl rfl
theorem evA_c (t : List (Nat × PV)) (v : PV) : evA t (.c v) = v := nrfl rfl
theorem ev_eq (t : List (Nat × PV)) (h : List Ent) (z : List (Nat × Nat)) (g : Nat) : St.ev ⟨t, h, z, g⟩ = evA t := by
  funext x; cases x <;> rfl
def psh (d : Option Nat) (v : PV) (t : List (Nat × PV)) : List (Nat × PV) := match d with | some d => (d, v) :: t | none => t
theorem psh_some (d : Nat) (v : PV) (t : List (Nat × PV)) : psh (some d) v t = (d, v) :: t := nrfl rfl
theorem psh_none (v : PV) (t : List (Nat × PV)) : psh none v t = t := nrfl rfl
theorem nat?_cast (k : IntKind) (n : Nat) : nat? (.int k (n : Int)) = some n := by simp [nat?]
theorem nat?_0 (k : IntKind) : nat? (.int k 0) = some 0 := nrfl rfl
theorem nat?_1 (k : IntKind) : nat? (.int k 1) = some 1 := nrfl rfl
theorem nat?_2 (k : IntKind) : nat? (.int k 2) = some 2 := nrfl rfl
theorem nat?_suc (k : IntKind) (n : Nat) : nat? (.int k ((n : Int) + 1)) = some (n + 1) := nat?_cast k (n + 1)
def pk (n : Nat) (agg : Bool) (ys : List PV) : Option PV := bif ys.length == n then (bif agg then some (.agg ys) else (match ys with | [y] => some y | _ => none)) else none
theorem pk_1 (y : PV) : pk 1 false [y] = some y := nrfl rfl
theorem pk_agg (n : Nat) (ys : List PV) : pk n true ys = req (ys.length == n) (some (.agg ys)) := nrfl rfl
theorem cellsOf_agg (cs : List PV) : cellsOf (.agg cs) = cs := nrfl rfl
theorem cellsOf_int (k : IntKind) (n : Int) : cellsOf (.int k n) = [.int k n] := nrfl rfl
theorem cellsOf_bool (b : Bool) : cellsOf (.bool b) = [.bool b] := nrfl rfl
theorem cellsOf_str (l : List Nat) : cellsOf (.str l) = [.str l] := nrfl rfl
theorem cellsOf_view (xs : List (List PV)) : cellsOf (.view xs) = [.view xs] := nrfl rfl
theorem cellsOf_nil0 : cellsOf .nil0 = [.nil0] := nrfl rfl
theorem cellsOf_own (n : Nm) (sz off len : Nat) : cellsOf (.own n sz off len) = [.own n sz off len] := nrfl rfl
theorem cellsOf_fn (f : Nat) (c : List PV) : cellsOf (.fn f c) = [.fn f c] := nrfl rfl
theorem flat_int (k : IntKind) (n : Int) : flat (.int k n) = true := nrfl rfl
theorem flat_bool (b : Bool) : flat (.bool b) = true := nrfl rfl
theorem flat_str (l : List Nat) : flat (.str l) = true := nrfl rfl
theorem flat_view (xs : List (List PV)) : flat (.view xs) = true := nrfl rfl
theorem flat_nil0 : flat .nil0 = true := nrfl rfl
theorem flat_own (n : Nm) (sz off len : Nat) : flat (.own n sz off len) = true := nrfl rfl
theorem flat_fn (f : Nat) (c : List PV) : flat (.fn f c) = true := nrfl rfl
theorem pu0_int (k : IntKind) (n : Int) : pu0 (.int k n) = true := nrfl rfl
theorem pu0_bool (b : Bool) : pu0 (.bool b) = true := nrfl rfl
theorem pu0_str (l : List Nat) : pu0 (.str l) = true := nrfl rfl
theorem pu0_view (xs : List (List PV)) : pu0 (.view xs) = true := nrfl rfl
theorem pu0_nil0 : pu0 .nil0 = true := nrfl rfl
theorem pu0_own (n : Nm) (sz off len : Nat) : pu0 (.own n sz off len) = false := nrfl rfl
theorem setAt_0 {α : Type} (x : List α) (y : List α) (h : y.length = x.length) : setAt x 0 y = y := by simp [setAt, h]

theorem zipArgs_nil (i : Nat) : zipArgs i [] = [] := nrfl rfl
theorem zipArgs_cons (i : Nat) (a : PV) (r : List PV) : zipArgs i (a :: r) = (i, a) :: zipArgs (i + 1) r := nrfl rfl
theorem ioEnts_none : ioEnts none = [] := nrfl rfl
theorem ioEnts_some (o : Obj) : ioEnts (some o) = [⟨0, 0, false, [o]⟩] := nrfl rfl
theorem setAt_nil {α : Type} (l : List α) : setAt l 0 [] = l := by simp [setAt]
theorem setAt_cons {α : Type} (a x : α) (l y : List α) : setAt (a :: l) 0 (x :: y) = x :: setAt l 0 y := by simp [setAt]
theorem setAt_succ {α : Type} (a : α) (k : Nat) (l y : List α) : setAt (a :: l) (k + 1) y = a :: setAt l k y := by
  unfold setAt
  rw [show k + 1 + y.length = (k + y.length) + 1 by omega]
  rfl
attribute [go_sem] setAt_nil setAt_cons setAt_succ
attribute [go_sem] zipArgs_nil zipArgs_cons ioEnts_none ioEnts_some evA_t evA_c ev_eq psh_some psh_none nat?_cast nat?_0 nat?_1 nat?_2 nat?_suc pk_1 pk_agg cellsOf_agg cellsOf_int cellsOf_bool cellsOf_str cellsOf_view cellsOf_nil0 cellsOf_own cellsOf_fn
  flat_int flat_bool flat_str flat_view flat_nil0 flat_own flat_fn pu0_int pu0_bool pu0_str pu0_view pu0_nil0 pu0_own

/-! ### The operations -/
section
variable (F : CallF) (d : Option Nat) (wl : Option Nat) (av : List Nat) (r : List POper) (t : List (Nat × PV)) (h : List Ent) (z : List (Nat × Nat)) (g : Nat)

def gdo {α : Type} (v : PV) (w : Bool) (x y : Option α) : Option α := match v with | .bool b => sel (b == w) x y | _ => none
theorem gdo_bool {α : Type} (b w : Bool) (x y : Option α) : gdo (.bool b) w x y = sel (b == w) x y := nrfl rfl
@[congr] theorem gdo_congr {α : Type} {v v' : PV} {w : Bool} {x y : Option α} (h : v = v') : gdo v w x y = gdo v' w x y := by rw [h]

theorem ro_nil (s : St) : runOps F [] s = some s := nrfl rfl
theorem ro_gd (op : POp) (k : Nat) (w : Bool) : runOps F (⟨d, op, some (k, w), wl, av⟩ :: r) ⟨t, h, z, g⟩ = gdo (rget t k) w (runOps F (⟨d, op, none, wl, av⟩ :: r) ⟨t, h, z, g⟩) (runOps F r ⟨psh d .any t, h, z, g⟩) := by
  simp only [runOps, evGd, gdo]
  cases rget t k with
  | bool b => simp only [sel]; cases b == w <;> first | rfl | (cases d <;> rfl)
  | _ => rfl
theorem ro_mv (x : PArg) : runOps F (⟨d, .mv x, none, wl, av⟩ :: r) ⟨t, h, z, g⟩ = runOps F r ⟨psh d (evA t x) t, h, z, g⟩ := by cases d <;> cases x <;> rfl
theorem ro_nils (l sz : Nat) : runOps F (⟨d, .nils l sz, none, wl, av⟩ :: r) ⟨t, h, z, g⟩ = req (decide (1 ≤ l)) (runOps F r ⟨psh d (.own ⟨l, g, 0⟩ sz 0 0) t, ⟨l, g, false, [⟨[], true⟩]⟩ :: h, z, g⟩) := by
  simp only [runOps, evGd, evOp, req]; cases decide (1 ≤ l) <;> cases d <;> rfl
theorem ro_pick (c a b : PArg) : runOps F (⟨d, .pick c a b, none, wl, av⟩ :: r) ⟨t, h, z, g⟩ = gdo (evA t c) true (runOps F r ⟨psh d (evA t a) t, h, z, g⟩) (runOps F r ⟨psh d (evA t b) t, h, z, g⟩) := by
  simp only [runOps, evGd, evOp, gdo, ev_eq]
  cases evA t c with
  | bool q => cases q <;> cases d <;> rfl
  | _ => rfl
theorem ro_alloc (l : Nat) (cells : List PV) (nils : List (Nat × Nat × Nat)) : runOps F (⟨d, .alloc l cells nils, none, wl, av⟩ :: r) ⟨t, h, z, g⟩ =
    req (decide (1 ≤ l) && nils.all fun x => decide (1 ≤ x.2.1)) (runOps F r ⟨psh d (.optr ⟨l, g, 0⟩ 0 0) t, ⟨l, g, false, [⟨[nilSet g nils cells], nils.isEmpty && (nilSet g nils cells).all pu0⟩]⟩ :: (nilEnts g nils ++ h), z, g⟩) := by
  simp only [runOps, evGd, evOp, req]
  cases (decide (1 ≤ l) && nils.all fun x => decide (1 ≤ x.2.1)) <;> cases d <;> rfl
theorem ro_box (l : Nat) (x : PArg) : runOps F (⟨d, .box l x, none, wl, av⟩ :: r) ⟨t, h, z, g⟩ =
    req (decide (1 ≤ l) && (cellsOf (evA t x)).all flat) (runOps F r ⟨psh d (.optr ⟨l, g, 0⟩ 0 0) t, ⟨l, g, false, [⟨[cellsOf (evA t x)], (cellsOf (evA t x)).all pu0⟩]⟩ :: h, z, g⟩) := by
  simp only [runOps, evGd, evOp, req, ev_eq]
  cases (decide (1 ≤ l) && (cellsOf (evA t x)).all flat) <;> cases d <;> rfl
def ldv (n : Nat) (agg : Bool) (p : PV) : Option PV :=
  match p with
  | .optr nm i c => req (okAv av nm.l) (thn (hobj h nm) fun ob => thn (ob.xs[i]?) fun x => pk n agg ((x.drop c).take n))
  | .vptr x => pk n agg (x.take n)
  | _ => none
theorem ldv_optr (n : Nat) (agg : Bool) (nm : Nm) (i c : Nat) : ldv av h n agg (.optr nm i c) = req (okAv av nm.l) (thn (hobj h nm) fun ob => thn (ob.xs[i]?) fun x => pk n agg ((x.drop c).take n)) := nrfl rfl
theorem ldv_vptr (n : Nat) (agg : Bool) (x : List PV) : ldv av h n agg (.vptr x) = pk n agg (x.take n) := nrfl rfl
theorem ro_load (n : Nat) (agg : Bool) (a : PArg) : runOps F (⟨d, .load n agg a, none, wl, av⟩ :: r) ⟨t, h, z, g⟩ = thn (ldv av h n agg (evA t a)) fun v => runOps F r ⟨psh d v t, h, z, g⟩ := by
  have key : ∀ ys : List PV, ((bif ys.length == n then (bif agg then some { v := .agg ys } else (match ys with | [y] => some { v := y } | _ => none)) else none) : Option Eff).bind (fun e => runOps F r (St.app ⟨t, h, z, g⟩ d e))
      = thn (pk n agg ys) fun v => runOps F r ⟨psh d v t, h, z, g⟩ := by
    intro ys
    unfold pk
    cases (ys.length == n)
    · rfl
    · cases agg
      · match ys with
        | [] => rfl
        | [y] => cases d <;> rfl
        | _ :: _ :: _ => rfl
      · cases d <;> rfl
  simp only [runOps, evGd, evOp, ev_eq]
  cases evA t a with
  | optr nm i c =>
    simp only [ldv, req]
    cases okAv av nm.l
    · rfl
    · simp only [cond_true]
      cases hobj h nm with
      | none => rfl
      | some ob =>
        simp only [Option.bind_some, thn_some]
        cases ob.xs[i]? with
        | none => rfl
        | some x =>
          simp only [Option.bind_some, thn_some]
          exact key _
  | vptr x => exact key _
  | _ => rfl
def evSt (n : Nat) (a v : PV) : Option Ent :=
  match a with
  | .optr nm i c => req (okAv av nm.l && okW wl nm.l && !isFz h z nm && (cellsOf v).length == n && (cellsOf v).all flat)
      (thn (hobj h nm) fun o => thn (o.xs[i]?) fun x => req (decide (c + n ≤ x.length)) (put h nm ⟨o.xs.set i (setAt x c (cellsOf v)), o.pure && (cellsOf v).all pu0⟩))
  | _ => none
theorem evSt_optr (n : Nat) (nm : Nm) (i c : Nat) (v : PV) : evSt wl av h z n (.optr nm i c) v = req (okAv av nm.l && okW wl nm.l && !isFz h z nm && (cellsOf v).length == n && (cellsOf v).all flat)
      (thn (hobj h nm) fun o => thn (o.xs[i]?) fun x => req (decide (c + n ≤ x.length)) (put h nm ⟨o.xs.set i (setAt x c (cellsOf v)), o.pure && (cellsOf v).all pu0⟩)) := rfl
theorem evStore_eq (n : Nat) (a v : PV) : evStore ⟨t, h, z, g⟩ av wl n a v = (evSt wl av h z n a v).map fun e => { v := .any, up := [e] } := by
  cases a with
  | optr nm i c =>
    simp only [evStore, evSt, req]
    cases (okAv av nm.l && okW wl nm.l && !isFz h z nm && (cellsOf v).length == n && (cellsOf v).all flat)
    · rfl
    · simp only [cond_true]
      cases hobj h nm with
      | none => rfl
      | some o =>
        simp only [Option.bind_some, thn_some]
        cases o.xs[i]? with
        | none => rfl
        | some x =>
          simp only [Option.bind_some, thn_some]
          cases decide (c + n ≤ x.length) <;> rfl
  | _ => rfl
theorem ro_store (n : Nat) (a v : PArg) : runOps F (⟨d, .store n a v, none, wl, av⟩ :: r) ⟨t, h, z, g⟩ = thn (evSt wl av h z n (evA t a) (evA t v)) fun e => runOps F r ⟨psh d .any t, e :: h, z, g⟩ := by
  simp only [runOps, evGd, evOp, ev_eq, evStore_eq, thn]
  cases evSt wl av h z n (evA t a) (evA t v) <;> cases d <;> rfl
theorem ro_bin (tag : Nat) (op : BinOp) (x y : PArg) : runOps F (⟨d, .bin tag op x y, none, wl, av⟩ :: r) ⟨t, h, z, g⟩ = thn (bbin tag op (evA t x) (evA t y)) fun v => runOps F r ⟨psh d v t, h, z, g⟩ := by
  simp only [runOps, evGd, evOp, ev_eq, thn]
  cases bbin tag op (evA t x) (evA t y) <;> cases d <;> rfl
theorem ro_un (op : UnOp) (x : PArg) : runOps F (⟨d, .un op x, none, wl, av⟩ :: r) ⟨t, h, z, g⟩ = thn (bun op (evA t x)) fun v => runOps F r ⟨psh d v t, h, z, g⟩ := by
  simp only [runOps, evGd, evOp, ev_eq, thn]
  cases bun op (evA t x) <;> cases d <;> rfl
def cnv (k : IntKind) (x : PV) : Option PV := match x with | .int _ n => some (.int k (k.wrap n)) | _ => none
theorem cnv_int (k k' : IntKind) (n : Int) : cnv k (.int k' n) = some (.int k (k.wrap n)) := nrfl rfl
theorem ro_conv (k : IntKind) (x : PArg) : runOps F (⟨d, .conv k x, none, wl, av⟩ :: r) ⟨t, h, z, g⟩ = thn (cnv k (evA t x)) fun v => runOps F r ⟨psh d v t, h, z, g⟩ := by
  simp only [runOps, evGd, evOp, ev_eq, cnv]
  cases evA t x <;> cases d <;> rfl
theorem ro_tostr (x : PArg) : runOps F (⟨d, .tostr x, none, wl, av⟩ :: r) ⟨t, h, z, g⟩ = thn (elems h av (evA t x)) fun xs => thn (strBytes xs) fun l => runOps F r ⟨psh d (.str l) t, h, z, g⟩ := by
  simp only [runOps, evGd, evOp, ev_eq, thn]
  cases elems h av (evA t x) with
  | none => rfl
  | some xs => simp only [Option.bind_some]; cases strBytes xs <;> cases d <;> rfl
theorem ro_clos (f : Nat) (cap : List PArg) : runOps F (⟨d, .clos f cap, none, wl, av⟩ :: r) ⟨t, h, z, g⟩ = runOps F r ⟨psh d (.fn f (cap.map (evA t))) t, h, z, g⟩ := by
  simp only [runOps, evGd, evOp, ev_eq]; cases d <;> rfl
theorem ro_make (l : Nat) (zero : List PV) (bytes : Nat) (n c : PArg) : runOps F (⟨d, .make l zero bytes n c, none, wl, av⟩ :: r) ⟨t, h, z, g⟩ =
    thn (nat? (evA t n)) fun m => thn (nat? (evA t c)) fun k => req (decide (1 ≤ l) && decide (m ≤ k) && decide (bytes * k ≤ 140737488355328))
      (runOps F r ⟨psh d (.own ⟨l, g, 0⟩ zero.length 0 m) t, ⟨l, g, false, [⟨List.replicate m zero, zero.all pu0⟩]⟩ :: h, z, g⟩) := by
  simp only [runOps, evGd, evOp, ev_eq, thn]
  cases nat? (evA t n) with
  | none => rfl
  | some m =>
    simp only [Option.bind_some]
    cases nat? (evA t c) with
    | none => rfl
    | some k =>
      simp only [Option.bind_some, req]
      cases (decide (1 ≤ l) && decide (m ≤ k) && decide (bytes * k ≤ 140737488355328)) <;> cases d <;> rfl
def bndA (t : List (Nat × PV)) (d : Nat) : Option PArg → Option Nat
  | none => some d
  | some x => nat? (evA t x)
theorem bndA_none (n : Nat) : bndA t n none = some n := nrfl rfl
theorem bndA_some (n : Nat) (x : PArg) : bndA t n (some x) = nat? (evA t x) := nrfl rfl
theorem bnd_eq (n : Nat) (x : Option PArg) : bnd ⟨t, h, z, g⟩ n x = bndA t n x := by cases x <;> simp [bnd, bndA, ev_eq]
def slc (str : Bool) (sz : Nat) (x : PV) (lo hi mx : Option PArg) : Option PV :=
  match x with
  | .view xs => thn (bndA t xs.length hi) fun b => thn (bndA t 0 lo) fun a => req (!str && decide (a ≤ b) && decide (b ≤ xs.length) && ((xs[0]?).map fun x => x.length == sz).getD true)
      (match mx with
       | none => some (.view ((xs.take b).drop a))
       | some m => thn (nat? (evA t m)) fun k => req (decide (k = b)) (sel (decide (a = b)) (some .nil0) (some (.view ((xs.take b).drop a)))))
  | .own n zs off len => thn (bndA t len hi) fun b => thn (bndA t 0 lo) fun a => req (!str && zs == sz && decide (a ≤ b) && decide (b ≤ len))
      (match mx with
       | none => some (.own n sz (off + a) (b - a))
       | some m => thn (nat? (evA t m)) fun k => req (decide (k = b) && decide (a = b)) (some .nil0))
  | .nil0 => thn (bndA t 0 hi) fun b => thn (bndA t 0 lo) fun a => req (!str && decide (a = 0) && decide (b = 0)) (match mx with | none => some .nil0 | some m => thn (nat? (evA t m)) fun k => req (decide (k = 0)) (some .nil0))
  | .str l => thn (bndA t l.length hi) fun b => thn (bndA t 0 lo) fun a => req (str && decide (a ≤ b) && decide (b ≤ l.length) && mx.isNone) (some (.str ((l.take b).drop a)))
  | _ => none
theorem slc_own (str : Bool) (sz : Nat) (n : Nm) (zs off len : Nat) (lo hi : Option PArg) : slc t str sz (.own n zs off len) lo hi none = thn (bndA t len hi) fun b => thn (bndA t 0 lo) fun a => req (!str && zs == sz && decide (a ≤ b) && decide (b ≤ len)) (some (.own n sz (off + a) (b - a))) := nrfl rfl
theorem slc_str (str : Bool) (sz : Nat) (l : List Nat) (lo hi : Option PArg) : slc t str sz (.str l) lo hi none = thn (bndA t l.length hi) fun b => thn (bndA t 0 lo) fun a => req (str && decide (a ≤ b) && decide (b ≤ l.length)) (some (.str ((l.take b).drop a))) := by
  simp only [slc, Option.isNone_none, Bool.and_true]
theorem map_thn {α : Type} (a : Option α) (f : α → Option PV) (q : α → Option Eff) (e : ∀ x, q x = (f x).map fun v => { v := v }) : a.bind q = (thn a f).map fun v => { v := v } := by
  cases a with
  | none => rfl
  | some x => exact e x
theorem map_req (b : Bool) (x : Option PV) (q : Option Eff) (e : q = x.map fun v => { v := v }) : (bif b then q else none) = (req b x).map fun v => { v := v } := by cases b; rfl; exact e
theorem map_sel (b : Bool) (x y : Option PV) (q q' : Option Eff) (e : q = x.map fun v => { v := v }) (e' : q' = y.map fun v => { v := v }) : (bif b then q else q') = (sel b x y).map fun v => { v := v } := by cases b; exact e'; exact e
theorem ro_slice (str : Bool) (sz : Nat) (x : PArg) (lo hi mx : Option PArg) : runOps F (⟨d, .slice str sz x lo hi mx, none, wl, av⟩ :: r) ⟨t, h, z, g⟩ = thn (slc t str sz (evA t x) lo hi mx) fun v => runOps F r ⟨psh d v t, h, z, g⟩ := by
  have e : evOp F ⟨t, h, z, g⟩ ⟨d, .slice str sz x lo hi mx, none, wl, av⟩ = (slc t str sz (evA t x) lo hi mx).map fun v => { v := v } := by
    simp only [evOp, ev_eq, slc, bnd_eq]
    cases evA t x with
    | view xs => exact map_thn _ _ _ fun b => map_thn _ _ _ fun a => map_req _ _ _ (by cases mx; rfl; exact map_thn _ _ _ fun k => map_req _ _ _ (map_sel _ _ _ _ _ rfl rfl))
    | own n zs off len => exact map_thn _ _ _ fun b => map_thn _ _ _ fun a => map_req _ _ _ (by cases mx; rfl; exact map_thn _ _ _ fun k => map_req _ _ _ rfl)
    | nil0 => exact map_thn _ _ _ fun b => map_thn _ _ _ fun a => map_req _ _ _ (by cases mx; rfl; exact map_thn _ _ _ fun k => map_req _ _ _ rfl)
    | str l => exact map_thn _ _ _ fun b => map_thn _ _ _ fun a => map_req _ _ _ rfl
    | _ => rfl
  simp only [runOps, evGd, e]
  cases slc t str sz (evA t x) lo hi mx <;> cases d <;> rfl
def fld (c : Nat) (x : PV) : Option PV := match x with | .optr nm i c0 => some (.optr nm i (c0 + c)) | .vptr y => some (.vptr (y.drop c)) | _ => none
theorem fld_optr (c : Nat) (nm : Nm) (i c0 : Nat) : fld c (.optr nm i c0) = some (.optr nm i (c0 + c)) := nrfl rfl
theorem fld_vptr (c : Nat) (y : List PV) : fld c (.vptr y) = some (.vptr (y.drop c)) := nrfl rfl
theorem ro_field (c n : Nat) (x : PArg) : runOps F (⟨d, .field c n x, none, wl, av⟩ :: r) ⟨t, h, z, g⟩ = thn (fld c (evA t x)) fun v => runOps F r ⟨psh d v t, h, z, g⟩ := by
  simp only [runOps, evGd, evOp, ev_eq, fld]
  cases evA t x <;> cases d <;> rfl
def gtf (c n : Nat) (agg : Bool) (x : PV) : Option PV := match x with | .agg cs => pk n agg ((cs.drop c).take n) | _ => none
theorem gtf_agg (c n : Nat) (agg : Bool) (cs : List PV) : gtf c n agg (.agg cs) = pk n agg ((cs.drop c).take n) := nrfl rfl
theorem ro_getf (c n : Nat) (agg : Bool) (x : PArg) : runOps F (⟨d, .getf c n agg x, none, wl, av⟩ :: r) ⟨t, h, z, g⟩ = thn (gtf c n agg (evA t x)) fun v => runOps F r ⟨psh d v t, h, z, g⟩ := by
  simp only [runOps, evGd, evOp, ev_eq, gtf]
  cases evA t x with
  | agg cs =>
    simp only [pk]
    generalize (cs.drop c).take n = ys
    cases (ys.length == n)
    · rfl
    · cases agg
      · match ys with
        | [] => rfl
        | [y] => cases d <;> rfl
        | _ :: _ :: _ => rfl
      · cases d <;> rfl
  | _ => rfl
def ixv (sz : Nat) (x : PV) (k : Nat) : Option PV :=
  match x with
  | .view xs => thn (xs[k]?) fun y => req (y.length == sz && decide (1 ≤ sz)) (some (.vptr y))
  | .own n zs off len => req (decide (k < len) && zs == sz) (some (.optr n (off + k) 0))
  | _ => none
theorem ixv_view (sz : Nat) (xs : List (List PV)) (k : Nat) : ixv sz (.view xs) k = thn (xs[k]?) fun y => req (y.length == sz && decide (1 ≤ sz)) (some (.vptr y)) := nrfl rfl
theorem ixv_own (sz : Nat) (n : Nm) (zs off len k : Nat) : ixv sz (.own n zs off len) k = req (decide (k < len) && zs == sz) (some (.optr n (off + k) 0)) := nrfl rfl
theorem ro_idx (sz : Nat) (x i : PArg) : runOps F (⟨d, .idx sz x i, none, wl, av⟩ :: r) ⟨t, h, z, g⟩ = thn (nat? (evA t i)) fun k => thn (ixv sz (evA t x) k) fun v => runOps F r ⟨psh d v t, h, z, g⟩ := by
  simp only [runOps, evGd, evOp, ev_eq, thn]
  cases nat? (evA t i) with
  | none => rfl
  | some k =>
    simp only [Option.bind_some, ixv]
    cases evA t x with
    | view xs =>
      simp only [thn, req]
      cases xs[k]? with
      | none => rfl
      | some y => simp only [Option.bind_some]; cases (y.length == sz && decide (1 ≤ sz)) <;> cases d <;> rfl
    | own n zs off len => simp only [req]; cases (decide (k < len) && zs == sz) <;> cases d <;> rfl
    | _ => rfl
def sxv (x : PV) (k : Nat) : Option PV := match x with | .str l => (l[k]?).map fun (c : Nat) => PV.int .u8 (c : Int) | _ => none
theorem sxv_str (l : List Nat) (k : Nat) : sxv (.str l) k = (l[k]?).map fun (c : Nat) => PV.int .u8 (c : Int) := nrfl rfl
theorem ro_sidx (x i : PArg) : runOps F (⟨d, .sidx x i, none, wl, av⟩ :: r) ⟨t, h, z, g⟩ = thn (nat? (evA t i)) fun k => thn (sxv (evA t x) k) fun v => runOps F r ⟨psh d v t, h, z, g⟩ := by
  simp only [runOps, evGd, evOp, ev_eq, thn]
  cases nat? (evA t i) with
  | none => rfl
  | some k =>
    simp only [Option.bind_some, sxv]
    cases evA t x with
    | str l => simp only; cases l[k]? <;> cases d <;> rfl
    | _ => rfl
def exv (x : PV) (i : Nat) : Option PV := match x with | .tuple vs => vs[i]? | _ => none
theorem exv_tuple (vs : List PV) (i : Nat) : exv (.tuple vs) i = vs[i]? := nrfl rfl
theorem ro_ext (x : PArg) (i : Nat) : runOps F (⟨d, .ext x i, none, wl, av⟩ :: r) ⟨t, h, z, g⟩ = thn (exv (evA t x) i) fun v => runOps F r ⟨psh d v t, h, z, g⟩ := by
  simp only [runOps, evGd, evOp, ev_eq, thn, exv]
  cases evA t x with
  | tuple vs => simp only; cases vs[i]? <;> cases d <;> rfl
  | _ => rfl
def ptp (t : List (Nat × PV)) (cs : List PV) : List (Nat × Nat × PArg) → Option (List PV)
  | [] => some cs
  | (off, sz, x) :: r => req ((cellsOf (evA t x)).length == sz && decide (off + sz ≤ cs.length) && (cellsOf (evA t x)).all flat) (ptp t (setAt cs off (cellsOf (evA t x))) r)
theorem ptp_nil (cs : List PV) : ptp t cs [] = some cs := nrfl rfl
theorem ptp_cons (cs : List PV) (off sz : Nat) (x : PArg) (q : List (Nat × Nat × PArg)) : ptp t cs ((off, sz, x) :: q) = req ((cellsOf (evA t x)).length == sz && decide (off + sz ≤ cs.length) && (cellsOf (evA t x)).all flat) (ptp t (setAt cs off (cellsOf (evA t x))) q) := nrfl rfl
theorem ptp_eq : ∀ (q : List (Nat × Nat × PArg)) (cs : List PV), putParts ⟨t, h, z, g⟩ cs q = ptp t cs q
  | [], cs => rfl
  | (off, sz, x) :: q, cs => by simp only [putParts, ptp, ev_eq, ptp_eq q, req]
theorem ro_build (zero : List PV) (parts : List (Nat × Nat × PArg)) : runOps F (⟨d, .build zero parts, none, wl, av⟩ :: r) ⟨t, h, z, g⟩ = thn (ptp t zero parts) fun cs => runOps F r ⟨psh d (.agg cs) t, h, z, g⟩ := by
  simp only [runOps, evGd, evOp, ptp_eq, thn]
  cases ptp t zero parts <;> cases d <;> rfl
def ltv (t : List (Nat × PV)) : List PArg → List (List PV)
  | [] => []
  | x :: r => cellsOf (evA t x) :: ltv t r
theorem ltv_nil : ltv t [] = [] := nrfl rfl
theorem ltv_cons (x : PArg) (q : List PArg) : ltv t (x :: q) = cellsOf (evA t x) :: ltv t q := nrfl rfl
theorem ltv_eq : ∀ q : List PArg, (q.map fun x => cellsOf (evA t x)) = ltv t q
  | [] => rfl
  | x :: q => by simp only [List.map, ltv, ltv_eq q]
theorem ro_lits (l sz len : Nat) (parts : List PArg) : runOps F (⟨d, .lits l sz len parts, none, wl, av⟩ :: r) ⟨t, h, z, g⟩ =
    req (decide (1 ≤ l) && (ltv t parts).length == len && fits sz (ltv t parts) && (ltv t parts).all (·.all flat)) (runOps F r ⟨psh d (.own ⟨l, g, 0⟩ sz 0 len) t, ⟨l, g, false, [⟨ltv t parts, (ltv t parts).all (·.all pu0)⟩]⟩ :: h, z, g⟩) := by
  simp only [runOps, evGd, evOp, ev_eq, ltv_eq, req]
  cases (decide (1 ≤ l) && (ltv t parts).length == len && fits sz (ltv t parts) && (ltv t parts).all (·.all flat)) <;> cases d <;> rfl
def lnv (str : Bool) (x : PV) : Option Nat := bif str then (match x with | .str l => some l.length | _ => none) else slen x
theorem lnv_str (l : List Nat) : lnv true (.str l) = some l.length := nrfl rfl
theorem lnv_view (xs : List (List PV)) : lnv false (.view xs) = some xs.length := nrfl rfl
theorem lnv_nil0 : lnv false .nil0 = some 0 := nrfl rfl
theorem lnv_own (n : Nm) (sz off len : Nat) : lnv false (.own n sz off len) = some len := nrfl rfl
theorem ro_len (str : Bool) (x : PArg) : runOps F (⟨d, .len str x, none, wl, av⟩ :: r) ⟨t, h, z, g⟩ = thn (lnv str (evA t x)) fun n => runOps F r ⟨psh d (.int .i64 (n : Nat)) t, h, z, g⟩ := by
  simp only [runOps, evGd, evOp, ev_eq]
  cases str
  · simp only [lnv, cond_false]
    cases slen (evA t x) <;> cases d <;> rfl
  · simp only [lnv, cond_true]
    cases evA t x <;> cases d <;> rfl
def stp (d : Option Nat) (t : List (Nat × PV)) (h : List Ent) (z : List (Nat × Nat)) (g : Nat) (e : Eff) : St := ⟨psh d e.v t, e.up ++ h, e.z ++ z, g⟩
theorem stp_mk (v : PV) (up : List Ent) (z' : List (Nat × Nat)) : stp d t h z g ⟨v, up, z'⟩ = ⟨psh d v t, up ++ h, z' ++ z, g⟩ := nrfl rfl
theorem app_eq (e : Eff) : St.app ⟨t, h, z, g⟩ d e = stp d t h z g e := by cases d <;> rfl
theorem ro_app (l sz bytes : Nat) (x y : PArg) : runOps F (⟨d, .app l sz bytes x y, none, wl, av⟩ :: r) ⟨t, h, z, g⟩ = thn (evApp ⟨[], h, z, g⟩ av wl l sz bytes (evA t x) (evA t y)) fun e => runOps F r (stp d t h z g e) := by
  simp only [runOps, evGd, evOp, ev_eq, thn, app_eq]
  rfl
def cpv (sz : Nat) (x y : PV) : Option (PV × Ent) :=
  match x with
  | .own n zs off len => thn (elems h av y) fun ys => req (okAv av n.l && okW wl n.l && !isFz h z n && zs == sz && fits sz ys && ys.all (·.all pu0))
      (thn (hobj h n) fun ob => req (decide (off + len ≤ ob.xs.length)) (thn (put h n ⟨setAt ob.xs off (ys.take len), ob.pure⟩) fun e => some (.int .i64 ((ys.take len).length : Nat), e)))
  | _ => none
theorem cpv_own (sz : Nat) (n : Nm) (zs off len : Nat) (y : PV) : cpv wl av h z sz (.own n zs off len) y = thn (elems h av y) fun ys => req (okAv av n.l && okW wl n.l && !isFz h z n && zs == sz && fits sz ys && ys.all (·.all pu0))
      (thn (hobj h n) fun ob => req (decide (off + len ≤ ob.xs.length)) (thn (put h n ⟨setAt ob.xs off (ys.take len), ob.pure⟩) fun e => some (.int .i64 ((ys.take len).length : Nat), e))) := rfl
theorem ro_copy (sz : Nat) (x y : PArg) : runOps F (⟨d, .copy sz x y, none, wl, av⟩ :: r) ⟨t, h, z, g⟩ = thn (cpv wl av h z sz (evA t x) (evA t y)) fun e => runOps F r ⟨psh d e.1 t, e.2 :: h, z, g⟩ := by
  simp only [runOps, evGd, evOp, ev_eq, thn]
  cases evA t x with
  | own n zs off len =>
    simp only [cpv]
    cases elems h av (evA t y) with
    | none => rfl
    | some ys =>
      simp only [Option.bind_some, thn_some, req]
      cases (okAv av n.l && okW wl n.l && !isFz h z n && zs == sz && fits sz ys && ys.all (·.all pu0))
      · rfl
      · simp only [cond_true]
        cases hobj h n with
        | none => rfl
        | some ob =>
          simp only [Option.bind_some, thn_some]
          cases decide (off + len ≤ ob.xs.length)
          · rfl
          · simp only [cond_true]
            cases put h n ⟨setAt ob.xs off (ys.take len), ob.pure⟩ <;> cases d <;> rfl
  | _ => rfl
theorem ro_mm (mx : Bool) (xs : List PArg) : runOps F (⟨d, .mm mx xs, none, wl, av⟩ :: r) ⟨t, h, z, g⟩ = thn (sel mx (maxInts (xs.map (evA t))) (minInts (xs.map (evA t)))) fun v => runOps F r ⟨psh d v t, h, z, g⟩ := by
  simp only [runOps, evGd, evOp, ev_eq, thn, sel]
  cases mx
  · simp only [cond_false, Bool.false_eq_true, if_false]
    cases minInts (xs.map (evA t)) <;> cases d <;> rfl
  · simp only [cond_true, if_true]
    cases maxInts (xs.map (evA t)) <;> cases d <;> rfl
def evCl (F : CallF) (h : List Ent) (z : List (Nat × Nat)) (g : Nat) (av : List Nat) (wl : Option Nat) (f : PV) (args : List PV) (io imp : Option Nat) : Option Eff := evCall F ⟨[], h, z, g⟩ av wl f args io imp
theorem takeIn_t (imp : Option Nat) (q : Ret) (zz : List (Nat × Nat)) (up : List Ent) : takeIn ⟨t, h, z, g⟩ imp q zz up = takeIn ⟨[], h, z, g⟩ imp q zz up := nrfl rfl
theorem ro_call (f : PArg) (args : List PArg) (io imp : Option Nat) : runOps F (⟨d, .call f args io imp, none, wl, av⟩ :: r) ⟨t, h, z, g⟩ = thn (evCl F h z g av wl (evA t f) (args.map (evA t)) io imp) fun e => runOps F r (stp d t h z g e) := by
  simp only [runOps, evGd, evOp, ev_eq, thn, app_eq]
  rfl

/-! ### The end of a region -/
def tkeep (t : List (Nat × PV)) : List Nat → List (Nat × PV)
  | [] => []
  | n :: l => (n, rget t n) :: tkeep t l
theorem tkeep_nil : tkeep t [] = [] := nrfl rfl
theorem tkeep_cons (n : Nat) (l : List Nat) : tkeep t (n :: l) = (n, rget t n) :: tkeep t l := nrfl rfl
def hk1 (e : Option Ent) (z : List (Nat × Nat)) (r : List Ent) : List Ent := match e with | none => r | some e => { e with fz := e.fz || zin z e.l e.g } :: r
theorem hk1_none (q : List Ent) : hk1 none z q = q := nrfl rfl
theorem hk1_some (l g' : Nat) (fz : Bool) (os : List Obj) (q : List Ent) : hk1 (some ⟨l, g', fz, os⟩) z q = ⟨l, g', fz || zin z l g', os⟩ :: q := nrfl rfl
def hkeep (h : List Ent) (z : List (Nat × Nat)) : List Nat → List Ent
  | [] => []
  | l :: lo => hk1 (lfind h l) z (hkeep h z lo)
theorem hkeep_nil : hkeep h z [] = [] := nrfl rfl
theorem hkeep_cons (l : Nat) (lo : List Nat) : hkeep h z (l :: lo) = hk1 (lfind h l) z (hkeep h z lo) := nrfl rfl
def rst (l lo : List Nat) (s : St) : St := ⟨tkeep s.t l, hkeep s.h s.z lo, [], s.g + 1⟩
theorem rst_mk (l lo : List Nat) : rst l lo ⟨t, h, z, g⟩ = ⟨tkeep t l, hkeep h z lo, [], g + 1⟩ := nrfl rfl
theorem tkeep_eq : ∀ l : List Nat, (l.map fun n => (n, rget t n)) = tkeep t l
  | [] => rfl
  | n :: l => by simp only [List.map, tkeep, tkeep_eq l]
theorem hkeep_eq : ∀ lo : List Nat, (lo.filterMap fun l => (lfind h l).map fun e => { e with fz := e.fz || zin z e.l e.g }) = hkeep h z lo
  | [] => rfl
  | l :: lo => by
    rw [List.filterMap_cons, hkeep, ← hkeep_eq lo]
    cases lfind h l <;> rfl
theorem rgn_eq (ops : List POper) (s : St) (l lo : List Nat) : rgn F ops s l lo = thn (runOps F ops s) fun s' => some (rst l lo s') := by
  unfold rgn thn
  cases runOps F ops s with
  | none => rfl
  | some s' => simp only [Option.map_some, Option.bind_some, St.restrict, tkeep_eq, hkeep_eq, rst]

/-! ### Calls -/
theorem fzl_nil (f : PV → Option (PV × List (Nat × Nat))) : fzl f [] = some ([], []) := nrfl rfl
theorem fzl_cons (f : PV → Option (PV × List (Nat × Nat))) (a : PV) (q : List PV) : fzl f (a :: q) = thn (f a) fun b => thn (fzl f q) fun l => some (b.1 :: l.1, b.2 ++ l.2) := nrfl rfl
theorem fzv_int (k : IntKind) (n : Int) : fzv h (.int k n) = some (.int k n, []) := nrfl rfl
theorem fzv_bool (b : Bool) : fzv h (.bool b) = some (.bool b, []) := nrfl rfl
theorem fzv_str (l : List Nat) : fzv h (.str l) = some (.str l, []) := nrfl rfl
theorem fzv_view (xs : List (List PV)) : fzv h (.view xs) = some (.view xs, []) := nrfl rfl
theorem fzv_nil0 : fzv h .nil0 = some (.nil0, []) := nrfl rfl
theorem fzv_vptr (x : List PV) : fzv h (.vptr x) = some (.vptr x, []) := nrfl rfl
theorem fzv_agg (cs : List PV) : fzv h (.agg cs) = thn (fzl (fz2 h) cs) fun q => some (.agg q.1, q.2) := by
  simp only [fzv, thn]; cases fzl (fz2 h) cs <;> rfl
theorem fz2_int (k : IntKind) (n : Int) : fz2 h (.int k n) = some (.int k n, []) := nrfl rfl
theorem fz2_bool (b : Bool) : fz2 h (.bool b) = some (.bool b, []) := nrfl rfl
theorem fz2_str (l : List Nat) : fz2 h (.str l) = some (.str l, []) := nrfl rfl
theorem fz2_view (xs : List (List PV)) : fz2 h (.view xs) = some (.view xs, []) := nrfl rfl
theorem fz2_nil0 : fz2 h .nil0 = some (.nil0, []) := nrfl rfl
def fzown (o : Obj) (h : List Ent) (l g off len : Nat) : Option (PV × List (Nat × Nat)) :=
  req (decide (off + len ≤ o.xs.length)) (sel o.pure (some (.view ((o.xs.drop off).take len), [(l, g)])) ((fzll (fz0 h) ((o.xs.drop off).take len)).map fun q => (.view q.1, (l, g) :: q.2)))
theorem fz2_own (l g' j sz off len : Nat) : fz2 h (.own ⟨l, g', j⟩ sz off len) = sel (l == 0) none (thn (hobj h ⟨l, g', j⟩) fun o => fzown o h l g' off len) := by
  simp only [fz2, fz1, pu0, cond_false, rel0, sel, thn, fzown, req]
  cases (l == 0) <;> rfl
theorem fzv_own (l g' j sz off len : Nat) : fzv h (.own ⟨l, g', j⟩ sz off len) = fz2 h (.own ⟨l, g', j⟩ sz off len) := nrfl rfl
theorem fzown_pure (xs : List (List PV)) (l g' off len : Nat) : fzown ⟨xs, true⟩ h l g' off len = req (decide (off + len ≤ xs.length)) (some (.view ((xs.drop off).take len), [(l, g')])) := nrfl rfl
theorem fzown_deep (xs : List (List PV)) (l g' off len : Nat) : fzown ⟨xs, false⟩ h l g' off len = req (decide (off + len ≤ xs.length)) (thn (fzll (fz0 h) ((xs.drop off).take len)) fun q => some (.view q.1, (l, g') :: q.2)) := by
  simp only [fzown, sel, cond_false, thn]
  cases fzll (fz0 h) ((xs.drop off).take len) <;> rfl
theorem fzv_fn (f : Nat) (cap : List PV) : fzv h (.fn f cap) = sel (cap.all pu00) (some (.fn f cap, [])) (thn (fzl (fzc h) cap) fun q => some (.fn f q.1, q.2)) := by
  simp only [fzv, fz2, pu0, sel, thn]
  cases cap.all pu00
  · simp only [cond_false]; cases fzl (fzc h) cap <;> rfl
  · rfl
theorem fzc_optr (n : Nm) (i c : Nat) : fzc h (.optr n i c) = fzo h n i c := nrfl rfl
theorem fzv_optr (n : Nm) (i c : Nat) : fzv h (.optr n i c) = fzo h n i c := nrfl rfl
theorem fzo_eq (l g' j i c : Nat) : fzo h ⟨l, g', j⟩ i c = sel (l == 0) none (thn (hobj h ⟨l, g', j⟩) fun o => thn (o.xs[i]?) fun x => sel o.pure (some (.vptr (x.drop c), [(l, g')])) (thn (fzl (fz1 h) (x.drop c)) fun q => some (.vptr q.1, (l, g') :: q.2))) := by
  simp only [fzo, rel0, sel, thn]
  cases (l == 0)
  · simp only [cond_false]
    cases hobj h ⟨l, g', j⟩ with
    | none => rfl
    | some o =>
      simp only [Option.bind_some]
      cases o.xs[i]? with
      | none => rfl
      | some x =>
        simp only [Option.bind_some]
        cases o.pure
        · simp only [cond_false]; cases fzl (fz1 h) (x.drop c) <;> rfl
        · rfl
  · rfl
theorem fzc_vptr (x : List PV) : fzc h (.vptr x) = some (.vptr x, []) := nrfl rfl
theorem pu0_fn (f : Nat) (cap : List PV) : pu0 (.fn f cap) = cap.all pu00 := nrfl rfl
theorem fz1_int (k : IntKind) (n : Int) : fz1 h (.int k n) = some (.int k n, []) := nrfl rfl
theorem fz1_bool (b : Bool) : fz1 h (.bool b) = some (.bool b, []) := nrfl rfl
theorem fz1_view (xs : List (List PV)) : fz1 h (.view xs) = some (.view xs, []) := nrfl rfl
theorem fz1_nil0 : fz1 h .nil0 = some (.nil0, []) := nrfl rfl
theorem fz1_own (l g' j sz off len : Nat) : fz1 h (.own ⟨l, g', j⟩ sz off len) = fz2 h (.own ⟨l, g', j⟩ sz off len) := nrfl rfl
theorem pu00_int (k : IntKind) (n : Int) : pu00 (.int k n) = true := nrfl rfl
theorem pu00_bool (b : Bool) : pu00 (.bool b) = true := nrfl rfl
theorem pu00_str (l : List Nat) : pu00 (.str l) = true := nrfl rfl
theorem pu00_view (xs : List (List PV)) : pu00 (.view xs) = true := nrfl rfl
theorem pu00_nil0 : pu00 .nil0 = true := nrfl rfl
theorem pu00_vptr (x : List PV) : pu00 (.vptr x) = true := nrfl rfl
theorem pu00_optr (n : Nm) (i c : Nat) : pu00 (.optr n i c) = false := nrfl rfl
theorem pu00_own (n : Nm) (sz off len : Nat) : pu00 (.own n sz off len) = false := nrfl rfl
theorem evCl_none (k : Nat) (cap args : List PV) (imp : Option Nat) : evCl F h z g av wl (.fn k cap) args none imp = thn (fzl (fzv h) (args ++ cap)) fun q => req (q.2.all fun x => okAv av x.1) (thn (F k q.1 none) fun y => takeIn ⟨[], h, z, g⟩ imp y q.2 []) := by
  simp only [evCl, evCall, Option.bind_none]
  rfl
theorem takeIn_nil (imp : Option Nat) (vs : List PV) (io : Option Obj) (zz : List (Nat × Nat)) (up : List Ent) (s : St) : takeIn s imp ⟨vs, [], io⟩ zz up = some ⟨one vs, up, zz⟩ := nrfl rfl
theorem takeIn_own (l : Nat) (vs : List PV) (o : Obj) (os : List Obj) (io : Option Obj) (zz : List (Nat × Nat)) (up : List Ent) : takeIn ⟨t, h, z, g⟩ (some l) ⟨vs, o :: os, io⟩ zz up =
    req (decide (1 ≤ l)) (some ⟨ren 1 0 l g (one vs), ⟨l, g, false, (o :: os).map (renO 1 0 l g)⟩ :: up, zz⟩) := rfl
theorem takeIn_fz (vs : List PV) (o : Obj) (os : List Obj) (io : Option Obj) (zz : List (Nat × Nat)) (up : List Ent) (s : St) : takeIn s none ⟨vs, o :: os, io⟩ zz up = thn (fzv [⟨1, 0, false, o :: os⟩] (one vs)) fun x => some ⟨x.1, up, zz⟩ := by
  simp only [takeIn, thn]; cases fzv [⟨1, 0, false, o :: os⟩] (one vs) <;> rfl
theorem one_1 (v : PV) : one [v] = v := nrfl rfl
theorem one_2 (v w : PV) (vs : List PV) : one (v :: w :: vs) = .tuple (v :: w :: vs) := nrfl rfl
theorem ren_own (l g' l' g'' j sz off len : Nat) : ren l g' l' g'' (.own ⟨l, g', j⟩ sz off len) = .own ⟨l', g'', j⟩ sz off len := by simp [ren]
theorem renO_pure (xs : List (List PV)) (l g' l' g'' : Nat) : renO l g' l' g'' ⟨xs, true⟩ = ⟨xs, true⟩ := nrfl rfl

/-! ### What a function hands back -/
def fini (res : List PRes) (own : Bool) (io : Option Obj) (s : St) : Option Ret := thn (mapM' (resVal s) res) fun vs => fin own vs s io
theorem w_fini {T : Nat → Option PFunc} {s : St} {res : List PRes} {own : Bool} {io : Option Obj} {r : Ret} (h : fini res own io s = some r) : Wp T .ret s (kF res own io r) := w_fin h
theorem w_finiN {T : Nat → Option PFunc} {s : St} {res : List PRes} {own : Bool} {io : Option Obj} {r : Ret} (h : fini res own io s = some r) : Wp T .skip s (kF res own io r) := w_finN h
theorem w_exi {T : Nat → Option PFunc} {s : St} {res : List PRes} {own : Bool} {io : Option Obj} {P : Ret → Prop} {r : Ret} (h : fini res own io s = some r) (hP : P r) : Wp T .ret s (kE res own io P) := w_ex r h hP
theorem mr_nil (s : St) : mapM' (resVal s) [] = some [] := nrfl rfl
theorem mr_tmp (n : Nat) (q : List PRes) : mapM' (resVal ⟨t, h, z, g⟩) (.tmp n :: q) = thn (mapM' (resVal ⟨t, h, z, g⟩) q) fun l => some (rget t n :: l) := nrfl rfl
def rsv (n : Nat) (agg : Bool) (p : PV) : Option PV := match p with | .optr nm i c => ldv [] h n agg (.optr nm i c) | _ => none
theorem rsv_optr (n : Nat) (agg : Bool) (nm : Nm) (i c : Nat) : rsv h n agg (.optr nm i c) = ldv [] h n agg (.optr nm i c) := nrfl rfl
theorem mr_cell (k n : Nat) (agg : Bool) (q : List PRes) : mapM' (resVal ⟨t, h, z, g⟩) (.cell k n agg :: q) = thn (rsv h n agg (rget t k)) fun v => thn (mapM' (resVal ⟨t, h, z, g⟩) q) fun l => some (v :: l) := by
  have e : resVal ⟨t, h, z, g⟩ (.cell k n agg) = rsv h n agg (rget t k) := by
    simp only [resVal, rsv]
    cases rget t k with
    | optr nm i c =>
      simp only [ldv, okAv_nil, req_true]
      cases hobj h nm with
      | none => rfl
      | some ob =>
        simp only [Option.bind_some, thn_some]
        cases ob.xs[i]? <;> rfl
    | _ => rfl
  simp only [mapM', e, thn]
theorem fin_f (vs : List PV) : fin false vs ⟨t, h, z, g⟩ none = thn (fzl (fzv h) vs) fun q => some ⟨q.1, [], none⟩ := by
  simp only [fin, finIo, thn]
theorem fin_io (vs : List PV) (o : Obj) : fin false vs ⟨t, h, z, g⟩ (some o) = thn (fzl (fzv h) vs) fun q => thn (hobj h ⟨0, 0, 0⟩) fun o' => req o'.pure (some ⟨q.1, [], some o'⟩) := by
  simp only [fin, finIo, thn, req]
def osok (l g : Nat) (len : Nat) (e : Ent) : Bool := ((e.os[0]?).map fun o => o.xs.length == len).getD false && e.os.all fun o => o.pure || o.xs.all (·.all fun p => pu0 p || inGroup l g p)
theorem osok_pure (l g' len l1 g1 : Nat) (fz : Bool) (xs : List (List PV)) : osok l g' len ⟨l1, g1, fz, [⟨xs, true⟩]⟩ = decide (xs.length = len) := by simp [osok]; rfl
def osren (l g : Nat) (e : Ent) : List Obj := e.os.map (renO l g 1 0)
theorem osren_mk (l g' l1 g1 : Nat) (fz : Bool) (os : List Obj) : osren l g' ⟨l1, g1, fz, os⟩ = os.map (renO l g' 1 0) := nrfl rfl
theorem fin_own (l g' sz len : Nat) : fin true [.own ⟨l, g', 0⟩ sz 0 len] ⟨t, h, z, g⟩ none = thn (efind h l g') fun e => req (!isFz h z ⟨l, g', 0⟩ && !(l == 0) && osok l g' len e) (some ⟨[.own ⟨1, 0, 0⟩ sz 0 len], osren l g' e, none⟩) := by
  simp only [fin, finIo, thn, req, osok, osren, beq_self_eq_true, Bool.and_true, Bool.and_assoc]
theorem fin_own_io (l g' sz len : Nat) (o : Obj) : fin true [.own ⟨l, g', 0⟩ sz 0 len] ⟨t, h, z, g⟩ (some o) = thn (efind h l g') fun e => req (!isFz h z ⟨l, g', 0⟩ && !(l == 0) && osok l g' len e) (thn (hobj h ⟨0, 0, 0⟩) fun o' => req o'.pure (some ⟨[.own ⟨1, 0, 0⟩ sz 0 len], osren l g' e, some o'⟩)) := by
  simp only [fin, finIo, thn, req, osok, osren, beq_self_eq_true, Bool.and_true, Bool.and_assoc]
end

theorem nilSet_nil (g : Nat) (cs : List PV) : nilSet g [] cs = cs := nrfl rfl
theorem nilSet_cons (g i l sz : Nat) (ns : List (Nat × Nat × Nat)) (cs : List PV) : nilSet g ((i, l, sz) :: ns) cs = nilSet g ns (cs.set i (.own ⟨l, g, 0⟩ sz 0 0)) := nrfl rfl
theorem nilEnts_nil (g : Nat) : nilEnts g [] = [] := nrfl rfl
theorem nilEnts_cons (g i l sz : Nat) (ns : List (Nat × Nat × Nat)) : nilEnts g ((i, l, sz) :: ns) = ⟨l, g, false, [⟨[], true⟩]⟩ :: nilEnts g ns := nrfl rfl
attribute [go_sem] nilSet_nil nilSet_cons nilEnts_nil nilEnts_cons List.set_cons_succ  List.isEmpty_nil List.isEmpty_cons List.drop_succ_cons List.drop_zero List.take_succ_cons List.take_zero
attribute [go_sem] fini mr_nil mr_tmp rsv_optr mr_cell fin_f fin_io osok_pure osren_mk fin_own fin_own_io
attribute [go_sem] gdo_bool ro_nil ro_gd ro_mv ro_nils ro_pick ro_alloc ro_box ldv_optr ldv_vptr ro_load evSt_optr ro_store ro_bin ro_un cnv_int ro_conv ro_tostr ro_clos ro_make bndA_none bndA_some ro_slice fld_optr fld_vptr ro_field
  gtf_agg ro_getf ixv_view ixv_own ro_idx sxv_str ro_sidx exv_tuple ro_ext ptp_nil ptp_cons ro_build slc_own slc_str ltv_nil ltv_cons ro_lits lnv_str lnv_view lnv_nil0 lnv_own ro_len stp_mk ro_app cpv_own ro_copy ro_mm ro_call
  tkeep_nil tkeep_cons hk1_none hk1_some hkeep_nil hkeep_cons rst_mk rgn_eq
  fzl_nil fzl_cons fzv_int fzv_bool fzv_str fzv_view fzv_nil0 fzv_vptr fzv_agg fz2_int fz2_bool fz2_str fz2_view fz2_nil0 fz2_own fzv_own fzown_pure fzown_deep fzv_fn fzc_optr fzc_vptr pu0_fn fz1_int fz1_bool fz1_view fz1_nil0 fz1_own fzv_optr fzo_eq pu00_int pu00_bool pu00_str pu00_view pu00_nil0 pu00_vptr pu00_optr pu00_own
  evCl_none takeIn_nil takeIn_own takeIn_fz one_1 one_2 ren_own renO_pure
attribute [go_sem] List.map_cons List.map_nil List.nil_append List.cons_append List.append_nil beq_true beq_false Nat.add_zero Nat.zero_add
end Go.Proofs.Ytbdknlejnacmgaa.Pi.W
end

section
/-
  Reckoning by rewriting: arithmetic.
-/
namespace Go.Proofs.Ytbdknlejnacmgaa.Pi.W
open Go
set_option linter.unusedVariables false
set_option linter.unusedSimpArgs false

theorem wrap_i64 {n : Int} (h0 : -9223372036854775808 ≤ n) (h1 : n ≤ 9223372036854775807) : IntKind.i64.wrap n = n := by
  simp [IntKind.wrap, IntKind.bits, IntKind.signed]; split <;> omega
theorem wrap_u64 {n : Int} (h0 : 0 ≤ n) (h1 : n ≤ 18446744073709551615) : IntKind.u64.wrap n = n := by
  simp [IntKind.wrap, IntKind.bits, IntKind.signed]; omega
theorem wrap_u32 {n : Int} (h0 : 0 ≤ n) (h1 : n ≤ 4294967295) : IntKind.u32.wrap n = n := by
  simp [IntKind.wrap, IntKind.bits, IntKind.signed]; omega
theorem wrap_u8 {n : Int} (h0 : 0 ≤ n) (h1 : n ≤ 255) : IntKind.u8.wrap n = n := by
  simp [IntKind.wrap, IntKind.bits, IntKind.signed]; omega
theorem wrap_u64_mod (n : Int) : IntKind.u64.wrap n = n % 18446744073709551616 := by simp [IntKind.wrap, IntKind.bits, IntKind.signed]
theorem wrap_u32_mod (n : Int) : IntKind.u32.wrap n = n % 4294967296 := by simp [IntKind.wrap, IntKind.bits, IntKind.signed]
theorem wrap_u8_mod (n : Int) : IntKind.u8.wrap n = n % 256 := by simp [IntKind.wrap, IntKind.bits, IntKind.signed]

theorem bb_add (tag : Nat) (k : IntKind) (a b : Int) : bbin tag .add (.int k a) (.int k b) = some (.int k (k.wrap (a + b))) := by simp [bbin, bint]
theorem bb_sub (tag : Nat) (k : IntKind) (a b : Int) : bbin tag .sub (.int k a) (.int k b) = some (.int k (k.wrap (a - b))) := by simp [bbin, bint]
theorem bb_mul (tag : Nat) (k : IntKind) (a b : Int) : bbin tag .mul (.int k a) (.int k b) = some (.int k (k.wrap (a * b))) := by simp [bbin, bint]
theorem bb_quo (tag : Nat) (k : IntKind) (a b : Int) : bbin tag .quo (.int k a) (.int k b) = sel (decide (b = 0)) none (some (.int k (k.wrap (a.tdiv b)))) := by simp [bbin, bint, sel]; rfl
theorem bb_rem (tag : Nat) (k : IntKind) (a b : Int) : bbin tag .rem (.int k a) (.int k b) = sel (decide (b = 0)) none (some (.int k (a.tmod b))) := by simp [bbin, bint, sel]; rfl
/-- Bits of either. -/
def bor (k : IntKind) (a b : Int) : Int := k.wrap ((BitVec.ofInt k.bits a ||| BitVec.ofInt k.bits b).toNat)
theorem bb_or (tag : Nat) (k : IntKind) (a b : Int) : bbin tag .or (.int k a) (.int k b) = some (.int k (bor k a b)) := by simp [bbin, bint, bor]
theorem bb_shl (tag : Nat) (k k' : IntKind) (a b : Int) : bbin tag .shl (.int k a) (.int k' b) = sel (decide (b < 0)) none (some (.int k (k.wrap (a * 2 ^ (min b.toNat k.bits))))) := nrfl rfl
theorem bb_shr (tag : Nat) (k k' : IntKind) (a b : Int) : bbin tag .shr (.int k a) (.int k' b) = sel (decide (b < 0)) none (some (.int k (a.fdiv (2 ^ (min b.toNat k.bits))))) := nrfl rfl
theorem beq_dec (a b : Int) : (a == b) = decide (a = b) := by by_cases h : a = b <;> simp [h]
theorem bb_shr32 (tag : Nat) (k' : IntKind) (a : Int) : bbin tag .shr (.int .u64 a) (.int k' 32) = some (.int .u64 (a / 4294967296)) := by
  show some (PV.int .u64 (a.fdiv 4294967296)) = _
  rw [Int.fdiv_eq_ediv_of_nonneg _ (by omega)]
theorem bb_shr63 (tag : Nat) (k' : IntKind) (a : Int) : bbin tag .shr (.int .u64 a) (.int k' 63) = some (.int .u64 (a / 9223372036854775808)) := by
  show some (PV.int .u64 (a.fdiv 9223372036854775808)) = _
  rw [Int.fdiv_eq_ediv_of_nonneg _ (by omega)]
theorem bb_shr8 (tag : Nat) (k' : IntKind) (a : Int) : bbin tag .shr (.int .u32 a) (.int k' 8) = some (.int .u32 (a / 256)) := by
  show some (PV.int .u32 (a.fdiv 256)) = _
  rw [Int.fdiv_eq_ediv_of_nonneg _ (by omega)]
theorem bb_shr16 (tag : Nat) (k' : IntKind) (a : Int) : bbin tag .shr (.int .u32 a) (.int k' 16) = some (.int .u32 (a / 65536)) := by
  show some (PV.int .u32 (a.fdiv 65536)) = _
  rw [Int.fdiv_eq_ediv_of_nonneg _ (by omega)]
theorem bb_shl32 (tag : Nat) (k' : IntKind) (a : Int) : bbin tag .shl (.int .u64 a) (.int k' 32) = some (.int .u64 (IntKind.u64.wrap (a * 4294967296))) := nrfl rfl
/-- Shifts by fewer places than there are. -/
theorem bb_shlN (tag : Nat) (k' : IntKind) (a : Int) (n : Nat) (h : n ≤ 63) : bbin tag .shl (.int .u64 a) (.int k' (n : Int)) = some (.int .u64 (IntKind.u64.wrap (a * 2 ^ n))) := by
  have e : min (n : Int).toNat IntKind.u64.bits = n := by simp [IntKind.bits]; omega
  rw [bb_shl, e, show decide ((n : Int) < 0) = false from decide_eq_false (by omega)]
  rfl
theorem bb_shrN (tag : Nat) (k' : IntKind) (a : Int) (n : Nat) (h : n ≤ 31) : bbin tag .shr (.int .u32 a) (.int k' (n : Int)) = some (.int .u32 (a / 2 ^ n)) := by
  have e : min (n : Int).toNat IntKind.u32.bits = n := by simp [IntKind.bits]; omega
  rw [bb_shr, e, Int.fdiv_eq_ediv_of_nonneg _ (Int.le_of_lt (Int.pow_pos (by omega))), show decide ((n : Int) < 0) = false from decide_eq_false (by omega)]
  rfl
theorem tdiv_pos {a b : Int} (h : 0 ≤ a) : a.tdiv b = a / b := Int.tdiv_eq_ediv_of_nonneg h
theorem tmod_pos {a b : Int} (h : 0 ≤ a) : a.tmod b = a % b := Int.tmod_eq_emod_of_nonneg h
/-- Numbers put together of bits that do not meet. -/
theorem or_u64 {a b : Int} {n : Nat} (hn : n ≤ 64) (ha : 0 ≤ a) (hb : 0 ≤ b ∧ b < 2 ^ n) (h : a * 2 ^ n + b < 18446744073709551616) :
    bor .u64 (a * 2 ^ n) b = a * 2 ^ n + b := by
  unfold bor
  obtain ⟨x, rfl⟩ := Int.eq_ofNat_of_zero_le ha
  obtain ⟨y, rfl⟩ := Int.eq_ofNat_of_zero_le hb.1
  have e0 : ((x : Int) * 2 ^ n) = ((x * 2 ^ n : Nat) : Int) := by push_cast; rfl
  have hy : y < 2 ^ n := by have := hb.2; exact_mod_cast this
  rw [e0] at h ⊢
  have h' : x * 2 ^ n + y < 18446744073709551616 := by generalize x * 2 ^ n = p at h ⊢; omega
  have e : (BitVec.ofInt IntKind.u64.bits ((x * 2 ^ n : Nat) : Int) ||| BitVec.ofInt IntKind.u64.bits (y : Int)).toNat = x * 2 ^ n + y := by
    show (BitVec.ofInt 64 ((x * 2 ^ n : Nat) : Int) ||| BitVec.ofInt 64 (y : Int)).toNat = x * 2 ^ n + y
    rw [BitVec.ofInt_natCast, BitVec.ofInt_natCast, BitVec.toNat_or, BitVec.toNat_ofNat, BitVec.toNat_ofNat]
    rw [Nat.mod_eq_of_lt (show x * 2 ^ n < 2 ^ 64 by omega), Nat.mod_eq_of_lt (show y < 2 ^ 64 by omega)]
    rw [← Nat.shiftLeft_eq, ← Nat.shiftLeft_add_eq_or_of_lt hy, Nat.shiftLeft_eq]
  rw [e, wrap_u64 (by omega) (by omega)]
  push_cast; rfl
theorem or_u32 {a b : Int} {n : Nat} (hn : n ≤ 32) (ha : 0 ≤ a) (hb : 0 ≤ b ∧ b < 2 ^ n) (h : a * 2 ^ n + b < 4294967296) :
    bor .u32 (a * 2 ^ n) b = a * 2 ^ n + b := by
  unfold bor
  obtain ⟨x, rfl⟩ := Int.eq_ofNat_of_zero_le ha
  obtain ⟨y, rfl⟩ := Int.eq_ofNat_of_zero_le hb.1
  have e0 : ((x : Int) * 2 ^ n) = ((x * 2 ^ n : Nat) : Int) := by push_cast; rfl
  have hy : y < 2 ^ n := by have := hb.2; exact_mod_cast this
  rw [e0] at h ⊢
  have h' : x * 2 ^ n + y < 4294967296 := by generalize x * 2 ^ n = p at h ⊢; omega
  have e : (BitVec.ofInt IntKind.u32.bits ((x * 2 ^ n : Nat) : Int) ||| BitVec.ofInt IntKind.u32.bits (y : Int)).toNat = x * 2 ^ n + y := by
    show (BitVec.ofInt 32 ((x * 2 ^ n : Nat) : Int) ||| BitVec.ofInt 32 (y : Int)).toNat = x * 2 ^ n + y
    rw [BitVec.ofInt_natCast, BitVec.ofInt_natCast, BitVec.toNat_or, BitVec.toNat_ofNat, BitVec.toNat_ofNat]
    rw [Nat.mod_eq_of_lt (show x * 2 ^ n < 2 ^ 32 by omega), Nat.mod_eq_of_lt (show y < 2 ^ 32 by omega)]
    rw [← Nat.shiftLeft_eq, ← Nat.shiftLeft_add_eq_or_of_lt hy, Nat.shiftLeft_eq]
  rw [e, wrap_u32 (by omega) (by omega)]
  push_cast; rfl
theorem bor_comm (k : IntKind) (a b : Int) : bor k a b = bor k b a := by unfold bor; rw [BitVec.or_comm]
theorem max2 (k : IntKind) (a b : Int) : maxInts [.int k a, .int k b] = some (.int k (max a b)) := by simp [maxInts]
theorem min2 (k : IntKind) (a b : Int) : minInts [.int k a, .int k b] = some (.int k (min a b)) := by simp [minInts]
theorem bb_eql (tag : Nat) (k : IntKind) (a b : Int) : bbin tag .eql (.int k a) (.int k b) = some (.bool (decide (a = b))) := by simp [bbin, bint, bcmp, beq_dec]
theorem bb_neq (tag : Nat) (k : IntKind) (a b : Int) : bbin tag .neq (.int k a) (.int k b) = some (.bool (!decide (a = b))) := by simp [bbin, bint, bcmp, bne, beq_dec]
theorem bb_lss (tag : Nat) (k : IntKind) (a b : Int) : bbin tag .lss (.int k a) (.int k b) = some (.bool (decide (a < b))) := by simp [bbin, bint, bcmp]
theorem bb_leq (tag : Nat) (k : IntKind) (a b : Int) : bbin tag .leq (.int k a) (.int k b) = some (.bool (decide (a ≤ b))) := by simp [bbin, bint, bcmp]
theorem bb_gtr (tag : Nat) (k : IntKind) (a b : Int) : bbin tag .gtr (.int k a) (.int k b) = some (.bool (decide (b < a))) := by simp [bbin, bint, bcmp]
theorem bb_geq (tag : Nat) (k : IntKind) (a b : Int) : bbin tag .geq (.int k a) (.int k b) = some (.bool (decide (b ≤ a))) := by simp [bbin, bint, bcmp]
theorem bb_beq (a b : Bool) : bbin 1 .eql (.bool a) (.bool b) = some (.bool (a == b)) := nrfl rfl
theorem bb_bne (a b : Bool) : bbin 1 .neq (.bool a) (.bool b) = some (.bool (!(a == b))) := nrfl rfl
theorem bb_sadd (tag : Nat) (a b : List Nat) : bbin tag .add (.str a) (.str b) = req (decide (a.length + b.length ≤ 4611686018427387904)) (some (.str (a ++ b))) := nrfl rfl
theorem bb_seql (tag : Nat) (a b : List Nat) : bbin tag .eql (.str a) (.str b) = some (.bool (decide (a = b))) := nrfl rfl
theorem bb_sneq (tag : Nat) (a b : List Nat) : bbin tag .neq (.str a) (.str b) = some (.bool (!decide (a = b))) := nrfl rfl
theorem bu_not (b : Bool) : bun .not (.bool b) = some (.bool (!b)) := nrfl rfl
theorem bu_neg (k : IntKind) (a : Int) : bun .neg (.int k a) = some (.int k (k.wrap (-a))) := by simp [bun]

theorem dec_lt_nat (a b : Nat) : ((a : Int) < (b : Int)) = (a < b) := by simp
theorem dec_le_nat (a b : Nat) : ((a : Int) ≤ (b : Int)) = (a ≤ b) := by simp
theorem dec_eq_nat (a b : Nat) : ((a : Int) = (b : Int)) = (a = b) := propext ⟨fun h => by omega, fun h => by omega⟩

theorem nlt_T {a b : Nat} (h : a < b) : decide (a < b) = true := decide_eq_true h
theorem nlt_F {a b : Nat} (h : b ≤ a) : decide (a < b) = false := decide_eq_false (by omega)
theorem nle_T {a b : Nat} (h : a ≤ b) : decide (a ≤ b) = true := decide_eq_true h
theorem nle_F {a b : Nat} (h : b < a) : decide (a ≤ b) = false := decide_eq_false (by omega)
theorem neq_T {a b : Nat} (h : a = b) : decide (a = b) = true := decide_eq_true h
theorem neq_F {a b : Nat} (h : a ≠ b) : decide (a = b) = false := decide_eq_false h
theorem ilt_T {a b : Int} (h : a < b) : decide (a < b) = true := decide_eq_true h
theorem ilt_F {a b : Int} (h : b ≤ a) : decide (a < b) = false := decide_eq_false (by omega)
theorem ile_T {a b : Int} (h : a ≤ b) : decide (a ≤ b) = true := decide_eq_true h
theorem ile_F {a b : Int} (h : b < a) : decide (a ≤ b) = false := decide_eq_false (by omega)
theorem ieq_T {a b : Int} (h : a = b) : decide (a = b) = true := decide_eq_true h
theorem ieq_F {a b : Int} (h : a ≠ b) : decide (a = b) = false := decide_eq_false h
theorem cast_add (a b : Nat) : (a : Int) + (b : Int) = ((a + b : Nat) : Int) := (Int.natCast_add a b).symm
theorem cast_add1 (a : Nat) : (a : Int) + 1 = ((a + 1 : Nat) : Int) := rfl
attribute [go_sem] cast_add cast_add1
attribute [go_sem] nlt_T nlt_F nle_T nle_F neq_T neq_F ilt_T ilt_F ile_T ile_F ieq_T ieq_F
attribute [go_sem] wrap_i64 wrap_u64 wrap_u32 wrap_u8 bb_add bb_sub bb_mul bb_quo bb_rem bb_or max2 min2 bb_shr32 bb_shr63 bb_shr8 bb_shr16 bb_shl32 bb_shlN bb_shrN tdiv_pos tmod_pos bb_eql bb_neq bb_lss bb_leq bb_gtr bb_geq bb_beq bb_bne bb_sadd bb_seql bb_sneq bu_not bu_neg
  Int.reduceEq Int.reduceLT Int.reduceLE Nat.reduceLT Nat.reduceEqDiff Int.reduceSub Int.reduceAdd Int.reduceNeg Int.reduceMul dec_lt_nat dec_le_nat dec_eq_nat
attribute [go_sem low] wrap_u64_mod wrap_u32_mod wrap_u8_mod

end Go.Proofs.Ytbdknlejnacmgaa.Pi.W
end

section
/-
  Reckoning by rewriting: slices as lists.
-/
namespace Go.Proofs.Ytbdknlejnacmgaa.Pi.W
open Go
set_option linter.unusedVariables false
set_option linter.unusedSimpArgs false

section
variable {α : Type} (c : α → List PV) (e : Bool) (l : List α)

/-- A slice that is read only, as a list (e: an empty one is nil). -/
def sl (c : α → List PV) (e : Bool) (l : List α) : PV := if e && l.isEmpty then .nil0 else .view (l.map c)

theorem sl_f : sl c false l = .view (l.map c) := nrfl rfl
theorem sl_view : PV.view (l.map c) = sl c false l := nrfl rfl
theorem sl_cases : sl c e l = .view (l.map c) ∨ (l = [] ∧ e = true ∧ sl c e l = .nil0) := by
  cases e
  · exact .inl rfl
  · cases l
    · exact .inr ⟨rfl, rfl, rfl⟩
    · exact .inl rfl
theorem lnv_sl : lnv false (sl c e l) = some l.length := by
  rcases sl_cases c e l with h | ⟨rfl, rfl, h⟩ <;> rw [h] <;> simp [lnv, slen]
theorem ixv_sl (sz k : Nat) : ixv sz (sl c e l) k = thn (l[k]?) fun z => req ((c z).length == sz && decide (1 ≤ sz)) (some (.vptr (c z))) := by
  rcases sl_cases c e l with h | ⟨rfl, rfl, h⟩ <;> rw [h]
  · simp only [ixv, List.getElem?_map, thn]; cases l[k]? <;> rfl
  · rfl
theorem fz2_sl (h : List Ent) : fz2 h (sl c e l) = some (sl c e l, []) := by
  rcases sl_cases c e l with h | ⟨rfl, rfl, h⟩ <;> rw [h] <;> rfl
theorem fzv_sl (h : List Ent) : fzv h (sl c e l) = some (sl c e l, []) := by
  rcases sl_cases c e l with h | ⟨rfl, rfl, h⟩ <;> rw [h] <;> rfl
theorem fz1_sl (h : List Ent) : fz1 h (sl c e l) = some (sl c e l, []) := by
  rcases sl_cases c e l with h | ⟨rfl, rfl, h⟩ <;> rw [h] <;> rfl
theorem flat_sl : flat (sl c e l) = true := by
  rcases sl_cases c e l with h | ⟨rfl, rfl, h⟩ <;> rw [h] <;> rfl
theorem pu0_sl : pu0 (sl c e l) = true := by
  rcases sl_cases c e l with h | ⟨rfl, rfl, h⟩ <;> rw [h] <;> rfl
theorem pu00_sl : pu00 (sl c e l) = true := by
  rcases sl_cases c e l with h | ⟨rfl, rfl, h⟩ <;> rw [h] <;> rfl
theorem cellsOf_sl : cellsOf (sl c e l) = [sl c e l] := by
  rcases sl_cases c e l with h | ⟨rfl, rfl, h⟩ <;> rw [h] <;> rfl
theorem elems_sl (h : List Ent) (av : List Nat) : elems h av (sl c e l) = some (l.map c) := by
  rcases sl_cases c e l with h | ⟨rfl, rfl, h⟩ <;> rw [h] <;> rfl
theorem elems_own (h : List Ent) (av : List Nat) (nm : Nm) (sz off len : Nat) : elems h av (.own nm sz off len) = req (okAv av nm.l) (thn (hobj h nm) fun o => req (decide (off + len ≤ o.xs.length)) (some ((o.xs.drop off).take len))) := by
  simp only [elems, req, thn]
theorem elems_view (h : List Ent) (av : List Nat) (xs : List (List PV)) : elems h av (.view xs) = some xs := nrfl rfl
theorem elems_nil0 (h : List Ent) (av : List Nat) : elems h av .nil0 = some [] := nrfl rfl
theorem thn_map {β γ : Type} (f : α → β) (o : Option α) (k : β → Option γ) : thn (Option.map f o) k = thn o fun x => k (f x) := by cases o <;> rfl
theorem slc_sl (t : List (Nat × PV)) (sz : Nat) (lo hi : Option PArg) (hc : ∀ x, ((c x).length == sz) = true) : slc t false sz (sl c false l) lo hi none = thn (bndA t l.length hi) fun b => thn (bndA t 0 lo) fun a => req (decide (a ≤ b) && decide (b ≤ l.length)) (some (sl c false ((l.take b).drop a))) := by
  simp only [sl_f, slc, List.length_map]
  cases bndA t l.length hi with
  | none => rfl
  | some b =>
    simp only [thn_some]
    cases bndA t 0 lo with
    | none => rfl
    | some a =>
      simp only [thn_some]
      have e5 : ((List.map c l)[0]?.map fun x => x.length == sz).getD true = true := by
        cases l with
        | nil => rfl
        | cons x r => exact hc x
      rw [e5]
      simp only [Bool.not_false, Bool.true_and, Bool.and_true, List.map_take, List.map_drop]
theorem slc_sl3 (t : List (Nat × PV)) (sz : Nat) (lo : PArg) (hi mx : PArg) (hc : ∀ x, ((c x).length == sz) = true) : slc t false sz (sl c e l) none (some hi) (some mx) = thn (nat? (evA t hi)) fun b => thn (nat? (evA t mx)) fun k => req (decide (b ≤ l.length) && decide (k = b)) (some (sl c true (l.take b))) := by
  rcases sl_cases c e l with h | ⟨rfl, rfl, h⟩
  · rw [h]
    simp only [slc, List.length_map, bndA]
    cases nat? (evA t hi) with
    | none => rfl
    | some b =>
      simp only [thn_some]
      have e5 : ((List.map c l)[0]?.map fun x => x.length == sz).getD true = true := by
        cases l with
        | nil => rfl
        | cons x r => exact hc x
      rw [e5]
      cases nat? (evA t mx) with
      | none => simp [thn, req]
      | some k =>
        simp only [thn_some, Nat.zero_le, decide_true, Bool.not_false, Bool.true_and, Bool.and_true]
        by_cases hb : b ≤ l.length
        · by_cases hk : k = b
          · subst hk
            simp only [hb, decide_true, Bool.and_self, req_true, sel, List.drop_zero]
            cases k with
            | zero => rfl
            | succ k =>
              cases l with
              | nil => simp at hb
              | cons x r => rw [show decide (0 = k + 1) = false from rfl, ← List.map_take]; rfl
          · simp [hb, hk, req]
        · simp [hb, req]
  · rw [h]
    simp only [slc, bndA, List.length_nil]
    cases nat? (evA t hi) with
    | none => rfl
    | some b =>
      simp only [thn_some]
      cases nat? (evA t mx) with
      | none => simp [thn, req]
      | some k =>
        simp only [thn_some]
        cases b with
        | zero => cases k <;> rfl
        | succ b => simp [req]
theorem fits_map (sz : Nat) (hc : ∀ x, ((c x).length == sz) = true) : fits sz (l.map c) = true := by
  unfold fits; simp only [List.all_map, List.all_eq_true]; intro x _; exact hc x
theorem pure_map (hc : ∀ x, ((c x).all pu0) = true) : ((l.map c).all fun x => x.all pu0) = true := by
  simp only [List.all_map, List.all_eq_true]; intro x _; exact hc x
theorem flat_map (hc : ∀ x, ((c x).all flat) = true) : ((l.map c).all fun x => x.all flat) = true := by
  simp only [List.all_map, List.all_eq_true]; intro x _; exact hc x
theorem setAt_all {l1 l2 : List α} {n : Nat} (h : (l2.take n).length = l1.length) : setAt (l1.map c) 0 ((l2.map c).take n) = (l2.take n).map c := by
  unfold setAt; simp only [List.take_zero, List.nil_append, Nat.zero_add, List.map_take] at h ⊢
  rw [List.drop_eq_nil_of_le, List.append_nil]
  simp only [List.length_map, List.length_take] at h ⊢; omega
theorem take_map (n : Nat) : (l.map c).take n = (l.take n).map c := List.map_take.symm
theorem drop_map (n : Nat) : (l.map c).drop n = (l.drop n).map c := List.map_drop.symm
theorem setAt_map (m : List α) : setAt (l.map c) 0 (m.map c) = (m ++ l.drop m.length).map c := by simp [setAt]
theorem setAt_mapN (m : List α) (n : Nat) : setAt (l.map c) n (m.map c) = (setAt l n m).map c := by simp [setAt]
theorem drop_0 : List.drop 0 l = l := nrfl rfl
theorem at_done (a : List α) (x : α) (b : List α) (n : Nat) (h : n = a.length) : (a ++ x :: b)[n]? = some x := by subst h; simp
theorem set_done (a : List α) (x y : α) (b : List α) (n : Nat) (h : n = a.length) : (a ++ x :: b).set n y = a ++ y :: b := by subst h; simp
theorem at_done2 (a : List α) (x y : α) (b : List α) (n : Nat) (h : n = a.length + 1) : (a ++ x :: y :: b)[n]? = some y := by subst h; simp
theorem set_done2 (a : List α) (x y z : α) (b : List α) (n : Nat) (h : n = a.length + 1) : (a ++ x :: y :: b).set n z = a ++ x :: z :: b := by subst h; simp
end

/-! ### append; calls that change nothing -/
section
variable (F : CallF) (h : List Ent) (z : List (Nat × Nat)) (g : Nat) (av : List Nat) (wl : Option Nat)
def appY (l sz bytes : Nat) (x : PV) (ys : List (List PV)) : Option Eff :=
  bif decide (1 ≤ l) && fits sz ys && ys.all (·.all flat) then
    match x with
    | .nil0 => bif ys.isEmpty then some { v := .view [] } else
        bif decide (ys.length * bytes ≤ 140737488355328) && ys.all (·.all pu0) then
        some { v := .own ⟨l, g, 0⟩ sz 0 ys.length, up := [{ l := l, g := g, fz := false, os := [{ xs := ys, pure := true }] }] } else none
    | .own n zs 0 len => bif zs == sz && okAv av n.l && okW wl n.l && !isFz h z n && n.j == 0 && !(n.l == 0) && decide ((len + ys.length) * bytes ≤ 140737488355328) then
        (efind h n.l n.g).bind fun e =>
        match e.os with
        | ob :: os => bif ob.xs.length == len && (ob.pure || ob.xs.all (·.all (noSelf n.l n.g))) then
            (bif ys.all (·.all pu0) then
              some { v := .own ⟨l, g, 0⟩ sz 0 (len + ys.length), up := [{ l := l, g := g, fz := false, os := renO n.l n.g l g { xs := ob.xs ++ ys, pure := ob.pure } :: os }, { e with os := [] }] }
            else
              match ys with
              | [[.own m zm 0 k]] =>
                bif okAv av m.l && m.j == 0 && !isFz h z m && !(m.l == 0) && !(m.l == n.l) && !(m.l == l) && sz == 1 then
                  (efind h m.l m.g).bind fun r =>
                  match r.os with
                  | [ro] => bif ro.pure && ro.xs.length == k then
                      some { v := .own ⟨l, g, 0⟩ sz 0 (len + 1), up := [{ l := l, g := g, fz := false, os := { xs := ob.xs.map (fun x => x.map (ren n.l n.g l g)) ++ [[.own ⟨l, g, os.length + 1⟩ zm 0 k]], pure := false } :: (os ++ [ro]) }, { e with os := [] }, { r with os := [] }] } else none
                  | _ => none
                else none
              | _ => none)
            else none
        | _ => none
      else none
    | _ => none
  else none
theorem evApp_eq (l sz bytes : Nat) (x y : PV) : evApp ⟨[], h, z, g⟩ av wl l sz bytes x y = thn (elems h av y) fun ys => appY h z g av wl l sz bytes x ys := nrfl rfl
def app1 (e : Ent) (l1 g1 l g sz len : Nat) (ys : List (List PV)) : Option Eff :=
  match e.os with
  | ob :: os => bif ob.xs.length == len && (ob.pure || ob.xs.all (·.all (noSelf l1 g1))) then
      some { v := .own ⟨l, g, 0⟩ sz 0 (len + ys.length), up := [{ l := l, g := g, fz := false, os := renO l1 g1 l g { xs := ob.xs ++ ys, pure := ob.pure } :: os }, { e with os := [] }] } else none
  | _ => none
theorem app1_mk (l1 g1 l2 g2 : Nat) (fz : Bool) (xs : List (List PV)) (l sz len : Nat) (ys : List (List PV)) : app1 ⟨l1, g1, fz, [⟨xs, true⟩]⟩ l2 g2 l g sz len ys = req (decide (xs.length = len)) (some ⟨.own ⟨l, g, 0⟩ sz 0 (len + ys.length), [⟨l, g, false, [⟨xs ++ ys, true⟩]⟩, ⟨l1, g1, fz, []⟩], []⟩) := by
  simp only [app1, req, Bool.true_or, Bool.and_true]; rfl
/-- Elements that name no object, behind an object. -/
theorem appY_own (l sz bytes l1 g1 zs len : Nat) (ys : List (List PV)) (hp : (ys.all fun x => x.all pu0) = true) :
    appY h z g av wl l sz bytes (.own ⟨l1, g1, 0⟩ zs 0 len) ys = req (decide (1 ≤ l) && fits sz ys && ys.all (·.all flat) && (zs == sz && okAv av l1 && okW wl l1 && !isFz h z ⟨l1, g1, 0⟩ && !(l1 == 0) && decide ((len + ys.length) * bytes ≤ 140737488355328))) (thn (efind h l1 g1) fun e => app1 e l1 g1 l g sz len ys) := by
  simp only [appY, req, thn, app1, hp, Bool.and_true, cond_true, beq_self_eq_true]
  cases (decide (1 ≤ l) && fits sz ys && ys.all (·.all flat))
  · rfl
  · simp only [cond_true, Bool.true_and]
/-- A row behind rows. -/
def appR (e : Ent) (l1 g1 l sz len : Nat) (x : List PV) : Option Eff :=
  match e.os with
  | ob :: os => bif ob.xs.length == len && (ob.pure || ob.xs.all (·.all (noSelf l1 g1))) then
      (match x with
        | [.own m zm 0 k] =>
          bif okAv av m.l && m.j == 0 && !isFz h z m && !(m.l == 0) && !(m.l == l1) && !(m.l == l) && sz == 1 then
            (efind h m.l m.g).bind fun r =>
            match r.os with
            | [ro] => bif ro.pure && ro.xs.length == k then
                some { v := .own ⟨l, g, 0⟩ sz 0 (len + 1), up := [{ l := l, g := g, fz := false, os := { xs := ob.xs.map (fun x => x.map (ren l1 g1 l g)) ++ [[.own ⟨l, g, os.length + 1⟩ zm 0 k]], pure := false } :: (os ++ [ro]) }, { e with os := [] }, { r with os := [] }] } else none
            | _ => none
          else none
        | _ => none) else none
  | _ => none
/-- One element. -/
theorem appY_one (l sz bytes l1 g1 zs len : Nat) (x : List PV) :
    appY h z g av wl l sz bytes (.own ⟨l1, g1, 0⟩ zs 0 len) [x] = req (decide (1 ≤ l) && (x.length == sz) && x.all flat && (zs == sz && okAv av l1 && okW wl l1 && !isFz h z ⟨l1, g1, 0⟩ && !(l1 == 0) && decide ((len + 1) * bytes ≤ 140737488355328)))
      (sel (x.all pu0) (thn (efind h l1 g1) fun e => app1 e l1 g1 l g sz len [x]) (thn (efind h l1 g1) fun e => appR h z g av e l1 g1 l sz len x)) := by
  cases hp : x.all pu0
  · simp only [appY, req, thn, fits, List.all_cons, List.all_nil, Bool.and_true, List.length_singleton, hp, cond_false, sel, appR, beq_self_eq_true]
    cases (decide (1 ≤ l) && x.length == sz && x.all flat)
    · rfl
    · simp only [cond_true, Bool.true_and]
      cases (zs == sz && okAv av l1 && okW wl l1 && !isFz h z ⟨l1, g1, 0⟩ && !(l1 == 0) && decide ((len + 1) * bytes ≤ 140737488355328))
      · rfl
      · simp only [cond_true]
        cases efind h l1 g1 with
        | none => rfl
        | some e =>
          simp only [Option.bind_some]
          cases e.os with
          | nil => rfl
          | cons ob os =>
            simp only
            cases (ob.xs.length == len && (ob.pure || ob.xs.all (·.all (noSelf l1 g1))))
            · rfl
            · simp only [cond_true]
              split <;> split <;> simp_all
  · rw [appY_own _ _ _ _ _ _ _ _ _ _ _ _ _ (by simp [hp])]
    simp only [fits, List.all_cons, List.all_nil, Bool.and_true, List.length_singleton, sel, cond_true]
theorem appY_nil0 (l sz bytes : Nat) (ys : List (List PV)) : appY h z g av wl l sz bytes .nil0 ys = req (decide (1 ≤ l) && fits sz ys && ys.all (·.all flat)) (sel ys.isEmpty (some ⟨.view [], [], []⟩) (req (decide (ys.length * bytes ≤ 140737488355328) && ys.all (·.all pu0)) (some ⟨.own ⟨l, g, 0⟩ sz 0 ys.length, [⟨l, g, false, [⟨ys, true⟩]⟩], []⟩))) := nrfl rfl
theorem evCl_io {α : Type} (c : α → List PV) (e : Bool) (q : List α) (k : Nat) (cap args : List PV) (imp : Option Nat) : evCl F h z g av wl (.fn k cap) (sl c e q :: args) (some 0) imp = evCl F h z g av wl (.fn k cap) (sl c e q :: args) none imp := by
  simp only [evCl, evCall, Option.bind_none, Option.bind_some, List.cons_append, List.getElem?_cons_zero]
  rcases sl_cases c e q with h | ⟨rfl, rfl, h⟩ <;> rw [h]
end
/-- A call that may write an object of ours as it stands. -/
theorem evCl_own (F : CallF) (h : List Ent) (z : List (Nat × Nat)) (g : Nat) (av : List Nat) (wl : Option Nat) (k : Nat) (args : List PV) (imp : Option Nat) (l g' j sz off len : Nat) :
    evCl F h z g av wl (.fn k []) (.own ⟨l, g', j⟩ sz off len :: args) (some 0) imp = req (okAv av l) (sel (isFz h z ⟨l, g', j⟩)
      (thn (fzl (fzv h) (.own ⟨l, g', j⟩ sz off len :: args)) fun q => req (q.2.all fun x => okAv av x.1) (thn (F k q.1 none) fun r => takeIn ⟨[], h, z, g⟩ imp r q.2 []))
      (thn (fzl (fzv h) args) fun q =>
      req ((q.2.all fun x => okAv av x.1 && !(x.1 == l && x.2 == g')) && okW wl l) (thn (hobj h ⟨l, g', j⟩) fun o => req (o.pure && decide (off + len ≤ o.xs.length))
        (thn (F k (.own ⟨0, 0, 0⟩ sz off len :: q.1) (some o)) fun r => thn r.io fun o' => thn (put h ⟨l, g', j⟩ o') fun e => takeIn ⟨[], h, z, g⟩ imp r q.2 [e])))) := by
  simp only [evCl, evCall, List.append_nil, Option.bind_some, List.getElem?_cons_zero, List.set_cons_zero, req, sel]
  cases okAv av l
  · rfl
  · simp only [cond_true]
    cases isFz h z ⟨l, g', j⟩
    · simp only [cond_false, fzl, fzv_nil0, Option.bind_some]
      cases fzl (fzv h) args with
      | none => rfl
      | some q =>
        simp only [Option.bind_some, thn_some, List.nil_append]
        cases ((q.2.all fun x => okAv av x.1 && !(x.1 == l && x.2 == g')) && okW wl l)
        · rfl
        · simp only [cond_true, thn, List.set_cons_zero]
          cases hobj h ⟨l, g', j⟩ with
          | none => rfl
          | some o =>
            simp only [Option.bind_some]
            cases (o.pure && decide (off + len ≤ o.xs.length))
            · rfl
            · simp only [cond_true]
              cases F k (.own ⟨0, 0, 0⟩ sz off len :: q.1) (some o) with
              | none => rfl
              | some r =>
                simp only [Option.bind_some]
                cases r.io <;> rfl
    · rfl
/-- A row is laid into its place. -/
def evSR (wl : Option Nat) (av : List Nat) (h : List Ent) (z : List (Nat × Nat)) (g : Nat) (a v : PV) : Option Eff :=
  match a, v with
  | .optr nm i c, .own m sz off len => bif nm.l == m.l then evStore ⟨[], h, z, g⟩ av wl 1 (.optr nm i c) (.own m sz off len) else evStoreRow ⟨[], h, z, g⟩ av wl (.optr nm i c) (.own m sz off len)
  | a, v => evStore ⟨[], h, z, g⟩ av wl 1 a v
theorem ro_storeRow (F : CallF) (d wl : Option Nat) (av : List Nat) (r : List POper) (t : List (Nat × PV)) (h : List Ent) (z : List (Nat × Nat)) (g : Nat) (a v : PArg) : runOps F (⟨d, .storeRow a v, none, wl, av⟩ :: r) ⟨t, h, z, g⟩ = thn (evSR wl av h z g (evA t a) (evA t v)) fun e => runOps F r (stp d t h z g e) := by
  simp only [runOps, evGd, evOp, ev_eq, thn, app_eq]
  cases evA t a <;> cases evA t v <;> rfl
theorem evSR_view (wl : Option Nat) (av : List Nat) (h : List Ent) (z : List (Nat × Nat)) (g : Nat) (nm : Nm) (i c : Nat) (v : PV) (hv : pu0 v = true) : evSR wl av h z g (.optr nm i c) v = thn (evSt wl av h z 1 (.optr nm i c) v) fun e => some ⟨.any, [e], []⟩ := by
  have e : evSR wl av h z g (.optr nm i c) v = evStore ⟨[], h, z, g⟩ av wl 1 (.optr nm i c) v := by
    cases v <;> first | rfl | (simp [pu0] at hv; done)
  rw [e, evStore_eq]
  cases evSt wl av h z 1 (.optr nm i c) v <;> rfl
theorem evSR_same (wl : Option Nat) (av : List Nat) (h : List Ent) (z : List (Nat × Nat)) (g : Nat) (l g1 j i c g2 k sz off len : Nat) : evSR wl av h z g (.optr ⟨l, g1, j⟩ i c) (.own ⟨l, g2, k⟩ sz off len) = thn (evSt wl av h z 1 (.optr ⟨l, g1, j⟩ i c) (.own ⟨l, g2, k⟩ sz off len)) fun e => some ⟨.any, [e], []⟩ := by
  simp only [evSR, beq_self_eq_true, cond_true, evStore_eq]
  cases evSt wl av h z 1 (.optr ⟨l, g1, j⟩ i c) (.own ⟨l, g2, k⟩ sz off len) <;> rfl
/-- A row becomes a child. -/
def rowIn (e r : Ent) (l g i sz len : Nat) : Option Eff :=
  match e.os, r.os with
  | o :: os, [ro] => bif os.length == i && ro.pure && ro.xs.length == len then
      (o.xs[i]?).bind fun x => bif x.length == 1 then
        some { v := .any, up := [{ e with os := ({ xs := o.xs.set i [.own ⟨l, g, i + 1⟩ sz 0 len], pure := false } : Obj) :: (os ++ [ro]) }, { r with os := [] }] }
      else none
    else none
  | _, _ => none
theorem rowIn_mk (l0 g0 : Nat) (fz : Bool) (o : Obj) (os : List Obj) (m0 gm : Nat) (fzm : Bool) (rx : List (List PV)) (l g i sz len : Nat) : rowIn ⟨l0, g0, fz, o :: os⟩ ⟨m0, gm, fzm, [⟨rx, true⟩]⟩ l g i sz len =
    req (decide (os.length = i) && decide (rx.length = len)) (thn (o.xs[i]?) fun x => req (x.length == 1) (some ⟨.any, [⟨l0, g0, fz, ⟨o.xs.set i [.own ⟨l, g, i + 1⟩ sz 0 len], false⟩ :: (os ++ [⟨rx, true⟩])⟩, ⟨m0, gm, fzm, []⟩], []⟩)) := by
  simp only [rowIn, req, thn, Bool.and_true]
  rfl
theorem evSR_row (wl : Option Nat) (av : List Nat) (h : List Ent) (z : List (Nat × Nat)) (g : Nat) (l g1 i m g2 sz len : Nat) (hlm : (l == m) = false) : evSR wl av h z g (.optr ⟨l, g1, 0⟩ i 0) (.own ⟨m, g2, 0⟩ sz 0 len) =
    req (okAv av l && okW wl l && !isFz h z ⟨l, g1, 0⟩ && okAv av m && !isFz h z ⟨m, g2, 0⟩ && !(m == 0) && !(l == 0)) (thn (efind h l g1) fun e => thn (efind h m g2) fun r => rowIn e r l g1 i sz len) := by
  simp only [evSR, hlm, cond_false, evStoreRow, req, thn, rowIn, beq_self_eq_true, Bool.and_true, Bool.not_false]
  rfl
theorem bb_nil_own (n : Nm) (sz off len : Nat) (h : 0 < len) : bbin 3 .eql (.own n sz off len) .nil0 = some (.bool false) := by
  cases len with
  | zero => omega
  | succ len => rfl
theorem bb_nil {α : Type} (c : α → List PV) (e : Bool) (x : α) (l : List α) (hc : ∀ x, c x ≠ []) : bbin 3 .eql (sl c e (x :: l)) .nil0 = some (.bool false) := by
  have h : sl c e (x :: l) = .view (c x :: l.map c) := by cases e <;> rfl
  rw [h]
  have := hc x
  match hx : c x with
  | [] => exact absurd hx this
  | a :: b => rfl

/-! ### Cells of numbers -/
def u32c (z : Int) : List PV := [.int .u32 z]
def i64c (z : Int) : List PV := [.int .i64 z]
def u8c (z : Int) : List PV := [.int .u8 z]
theorem len_u32c (z : Int) : (u32c z).length = 1 := nrfl rfl
theorem len_i64c (z : Int) : (i64c z).length = 1 := nrfl rfl
theorem len_u8c (z : Int) : (u8c z).length = 1 := nrfl rfl
theorem pk_u32c (z : Int) : pk 1 false (List.take 1 (u32c z)) = some (.int .u32 z) := nrfl rfl
theorem pk_i64c (z : Int) : pk 1 false (List.take 1 (i64c z)) = some (.int .i64 z) := nrfl rfl
theorem pk_u8c (z : Int) : pk 1 false (List.take 1 (u8c z)) = some (.int .u8 z) := nrfl rfl
theorem setAt_u32c (z : Int) (v : PV) : setAt (u32c z) 0 [v] = [v] := nrfl rfl
theorem setAt_i64c (z : Int) (v : PV) : setAt (i64c z) 0 [v] = [v] := nrfl rfl
theorem setAt_u8c (z : Int) (v : PV) : setAt (u8c z) 0 [v] = [v] := nrfl rfl
theorem set_u32c (l : List Int) (i : Nat) (v : Int) : (l.map u32c).set i [.int .u32 v] = (l.set i v).map u32c := List.map_set.symm
theorem set_i64c (l : List Int) (i : Nat) (v : Int) : (l.map i64c).set i [.int .i64 v] = (l.set i v).map i64c := List.map_set.symm
theorem set_u8c (l : List Int) (i : Nat) (v : Int) : (l.map u8c).set i [.int .u8 v] = (l.set i v).map u8c := List.map_set.symm
theorem rep_u32c (n : Nat) (v : Int) : List.replicate n [PV.int .u32 v] = (List.replicate n v).map u32c := by rw [List.map_replicate]; rfl
theorem rep_i64c (n : Nat) (v : Int) : List.replicate n [PV.int .i64 v] = (List.replicate n v).map i64c := by rw [List.map_replicate]; rfl
theorem one_u32c (v : Int) : [[PV.int .u32 v]] = [v].map u32c := nrfl rfl
theorem one_i64c (v : Int) : [[PV.int .i64 v]] = [v].map i64c := nrfl rfl
theorem one_u8c (v : Int) : [[PV.int .u8 v]] = [v].map u8c := nrfl rfl
theorem two_u32c (v w : Int) : [[PV.int .u32 v], [PV.int .u32 w]] = [v, w].map u32c := nrfl rfl
theorem two_i64c (v w : Int) : [[PV.int .i64 v], [PV.int .i64 w]] = [v, w].map i64c := nrfl rfl
theorem fits_u32c (l : List Int) : fits 1 (l.map u32c) = true := fits_map _ _ _ fun _ => rfl
theorem fits_i64c (l : List Int) : fits 1 (l.map i64c) = true := fits_map _ _ _ fun _ => rfl
theorem fits_u8c (l : List Int) : fits 1 (l.map u8c) = true := fits_map _ _ _ fun _ => rfl
theorem pure_u32c (l : List Int) : ((l.map u32c).all fun x => x.all pu0) = true := pure_map _ _ fun _ => rfl
theorem pure_i64c (l : List Int) : ((l.map i64c).all fun x => x.all pu0) = true := pure_map _ _ fun _ => rfl
theorem pure_u8c (l : List Int) : ((l.map u8c).all fun x => x.all pu0) = true := pure_map _ _ fun _ => rfl
theorem flat_u32c (l : List Int) : ((l.map u32c).all fun x => x.all flat) = true := flat_map _ _ fun _ => rfl
theorem flat_i64c (l : List Int) : ((l.map i64c).all fun x => x.all flat) = true := flat_map _ _ fun _ => rfl
theorem flat_u8c (l : List Int) : ((l.map u8c).all fun x => x.all flat) = true := flat_map _ _ fun _ => rfl
theorem appY_u32 (h : List Ent) (z : List (Nat × Nat)) (g : Nat) (av : List Nat) (wl : Option Nat) (l bytes l1 g1 zs len : Nat) (ys : List Int) : appY h z g av wl l 1 bytes (.own ⟨l1, g1, 0⟩ zs 0 len) (ys.map u32c) = req (decide (1 ≤ l) && (zs == 1 && okAv av l1 && okW wl l1 && !isFz h z ⟨l1, g1, 0⟩ && !(l1 == 0) && decide ((len + ys.length) * bytes ≤ 140737488355328))) (thn (efind h l1 g1) fun e => app1 e l1 g1 l g 1 len (ys.map u32c)) := by
  rw [appY_own _ _ _ _ _ _ _ _ _ _ _ _ _ (pure_u32c ys), fits_u32c, flat_u32c, List.length_map, Bool.and_true, Bool.and_true]
theorem appY_i64 (h : List Ent) (z : List (Nat × Nat)) (g : Nat) (av : List Nat) (wl : Option Nat) (l bytes l1 g1 zs len : Nat) (ys : List Int) : appY h z g av wl l 1 bytes (.own ⟨l1, g1, 0⟩ zs 0 len) (ys.map i64c) = req (decide (1 ≤ l) && (zs == 1 && okAv av l1 && okW wl l1 && !isFz h z ⟨l1, g1, 0⟩ && !(l1 == 0) && decide ((len + ys.length) * bytes ≤ 140737488355328))) (thn (efind h l1 g1) fun e => app1 e l1 g1 l g 1 len (ys.map i64c)) := by
  rw [appY_own _ _ _ _ _ _ _ _ _ _ _ _ _ (pure_i64c ys), fits_i64c, flat_i64c, List.length_map, Bool.and_true, Bool.and_true]
theorem appY_u8 (h : List Ent) (z : List (Nat × Nat)) (g : Nat) (av : List Nat) (wl : Option Nat) (l bytes l1 g1 zs len : Nat) (ys : List Int) : appY h z g av wl l 1 bytes (.own ⟨l1, g1, 0⟩ zs 0 len) (ys.map u8c) = req (decide (1 ≤ l) && (zs == 1 && okAv av l1 && okW wl l1 && !isFz h z ⟨l1, g1, 0⟩ && !(l1 == 0) && decide ((len + ys.length) * bytes ≤ 140737488355328))) (thn (efind h l1 g1) fun e => app1 e l1 g1 l g 1 len (ys.map u8c)) := by
  rw [appY_own _ _ _ _ _ _ _ _ _ _ _ _ _ (pure_u8c ys), fits_u8c, flat_u8c, List.length_map, Bool.and_true, Bool.and_true]
theorem snoc_u32c (l : List Int) (v : Int) : l.map u32c ++ [[PV.int .u32 v]] = (l ++ [v]).map u32c := by rw [List.map_append]; rfl
theorem snoc_i64c (l : List Int) (v : Int) : l.map i64c ++ [[PV.int .i64 v]] = (l ++ [v]).map i64c := by rw [List.map_append]; rfl
theorem snoc_u8c (l : List Int) (v : Int) : l.map u8c ++ [[PV.int .u8 v]] = (l ++ [v]).map u8c := by rw [List.map_append]; rfl
theorem snoc_u32c' (l : List Int) (v : Int) : l.map u32c ++ [u32c v] = (l ++ [v]).map u32c := by rw [List.map_append]; rfl
theorem snoc_i64c' (l : List Int) (v : Int) : l.map i64c ++ [i64c v] = (l ++ [v]).map i64c := by rw [List.map_append]; rfl
theorem snoc_u8c' (l : List Int) (v : Int) : l.map u8c ++ [u8c v] = (l ++ [v]).map u8c := by rw [List.map_append]; rfl
attribute [go_sem] appY_one snoc_u32c snoc_i64c snoc_u8c snoc_u32c' snoc_i64c' snoc_u8c'
attribute [go_sem] appY_u32 appY_i64 appY_u8
theorem slc_u32c (t : List (Nat × PV)) (l : List Int) (lo hi : Option PArg) : slc t false 1 (sl u32c false l) lo hi none = thn (bndA t l.length hi) fun b => thn (bndA t 0 lo) fun a => req (decide (a ≤ b) && decide (b ≤ l.length)) (some (sl u32c false ((l.take b).drop a))) := slc_sl _ _ _ _ _ _ fun _ => rfl
theorem slc_i64c (t : List (Nat × PV)) (l : List Int) (lo hi : Option PArg) : slc t false 1 (sl i64c false l) lo hi none = thn (bndA t l.length hi) fun b => thn (bndA t 0 lo) fun a => req (decide (a ≤ b) && decide (b ≤ l.length)) (some (sl i64c false ((l.take b).drop a))) := slc_sl _ _ _ _ _ _ fun _ => rfl

theorem slc3_u32c (t : List (Nat × PV)) (e : Bool) (l : List Int) (hi mx : PArg) : slc t false 1 (sl u32c e l) none (some hi) (some mx) = thn (nat? (evA t hi)) fun b => thn (nat? (evA t mx)) fun k => req (decide (b ≤ l.length) && decide (k = b)) (some (sl u32c true (l.take b))) := slc_sl3 _ _ _ _ _ hi _ _ fun _ => rfl
theorem sl_nil0 {α : Type} (c : α → List PV) : sl c true [] = .nil0 := nrfl rfl
theorem bb_nil_u32 (e : Bool) (x : Int) (l : List Int) : bbin 3 .eql (sl u32c e (x :: l)) .nil0 = some (.bool false) := bb_nil _ _ _ _ fun _ h => by cases h
theorem bb_nil_u32' (e : Bool) (l : List Int) (h : 0 < l.length) : bbin 3 .eql (sl u32c e l) .nil0 = some (.bool false) := by
  cases l with
  | nil => simp at h
  | cons x l => exact bb_nil_u32 e x l
theorem view1_u32 (a : Int) : PV.view [[.int .u32 a]] = sl u32c false [a] := nrfl rfl
theorem view2_u32 (a b : Int) : PV.view [[.int .u32 a], [.int .u32 b]] = sl u32c false [a, b] := nrfl rfl
theorem view1_i64 (a : Int) : PV.view [[.int .i64 a]] = sl i64c false [a] := nrfl rfl
theorem view2_i64 (a b : Int) : PV.view [[.int .i64 a], [.int .i64 b]] = sl i64c false [a, b] := nrfl rfl
theorem fits_nil (sz : Nat) : fits sz [] = true := nrfl rfl
theorem fits_cons (sz : Nat) (x : List PV) (l : List (List PV)) : fits sz (x :: l) = (x.length == sz && fits sz l) := nrfl rfl
attribute [go_sem] view1_u32 view2_u32 view1_i64 view2_i64 fits_nil fits_cons
attribute [go_sem] bb_nil_own evCl_own ro_storeRow rowIn_mk evSR_same
attribute [go_sem] evApp_eq app1_mk appY_nil0 evCl_io bb_nil_u32 bb_nil_u32'
attribute [go_sem] sl_view slc3_u32c lnv_sl ixv_sl fz2_sl fzv_sl fz1_sl flat_sl pu0_sl pu00_sl cellsOf_sl elems_sl elems_own elems_view elems_nil0 thn_map List.getElem?_map List.length_map drop_0 List.take_length
  len_u32c len_i64c len_u8c pk_u32c pk_i64c pk_u8c setAt_u32c setAt_i64c setAt_u8c set_u32c set_i64c set_u8c rep_u32c rep_i64c fits_u32c fits_i64c fits_u8c pure_u32c pure_i64c pure_u8c flat_u32c flat_i64c flat_u8c slc_u32c slc_i64c
  List.length_replicate List.length_cons List.length_nil List.length_append List.length_set
attribute [go_sem low] setAt_mapN
attribute [go_sem] setAt_map at_done set_done at_done2 set_done2
attribute [go_sem] take_map drop_map

end Go.Proofs.Ytbdknlejnacmgaa.Pi.W
end

section
/-
  More fuel does no harm.
-/
namespace Go.Proofs.Ytbdknlejnacmgaa.Pi.W
open Go
set_option linter.unusedVariables false
set_option linter.unusedSimpArgs false

def FLe (F G : CallF) : Prop := ∀ f a io r, F f a io = some r → G f a io = some r

theorem bindLe {F G : CallF} (h : FLe F G) {f : Nat} {a : List PV} {io : Option Obj} {α : Type} {g : Ret → Option α} {e : α} (k : (F f a io).bind g = some e) : (G f a io).bind g = some e := by
  obtain ⟨r, h1, h2⟩ := Option.bind_eq_some_iff.1 k
  rw [h _ _ _ _ h1]; exact h2

theorem evCall_le {F G : CallF} (hl : FLe F G) {s : St} {av : List Nat} {wl : Option Nat} {f : PV} {args : List PV} {io imp : Option Nat} {e : Eff} (h : evCall F s av wl f args io imp = some e) : evCall G s av wl f args io imp = some e := by
  cases f with
  | fn k cap =>
    simp only [evCall] at h ⊢
    split at h
    · rename_i n sz off len p _
      cases h1 : okAv av n.l <;> simp only [h1, cond_false, cond_true] at h ⊢
      · cases h
      cases h2 : isFz s.h s.z n <;> simp only [h2, cond_false, cond_true] at h ⊢
      · obtain ⟨q, h3, h⟩ := Option.bind_eq_some_iff.1 h
        simp only [h3, Option.bind_some]
        cases h4 : (q.2.all fun x => okAv av x.1 && !(x.1 == n.l && x.2 == n.g)) && okW wl n.l <;> simp only [h4, cond_false, cond_true] at h ⊢
        · cases h
        obtain ⟨o, h5, h⟩ := Option.bind_eq_some_iff.1 h
        simp only [h5, Option.bind_some]
        cases h6 : o.pure && decide (off + len ≤ o.xs.length) <;> simp only [h6, cond_false, cond_true] at h ⊢
        · cases h
        exact bindLe hl h
      · obtain ⟨q, h3, h⟩ := Option.bind_eq_some_iff.1 h
        simp only [h3, Option.bind_some]
        cases h4 : (q.2.all fun x => okAv av x.1) <;> simp only [h4, cond_false, cond_true] at h ⊢
        · cases h
        exact bindLe hl h
    · obtain ⟨q, h3, h⟩ := Option.bind_eq_some_iff.1 h
      simp only [h3, Option.bind_some]
      cases h4 : (q.2.all fun x => okAv av x.1) <;> simp only [h4, cond_false, cond_true] at h ⊢
      · cases h
      exact bindLe hl h
  | _ => simp [evCall] at h

theorem evOp_le {F G : CallF} (hl : FLe F G) {s : St} {o : POper} {e : Eff} (h : evOp F s o = some e) : evOp G s o = some e := by
  obtain ⟨d, op, gd, wl, av⟩ := o
  cases op with
  | call f args io imp => exact evCall_le hl h
  | _ => exact h
theorem evGd_le {F G : CallF} (hl : FLe F G) {s : St} {o : POper} {e : Eff} (h : evGd F s o = some e) : evGd G s o = some e := by
  obtain ⟨d, op, gd, wl, av⟩ := o
  cases gd with
  | none => exact evOp_le hl h
  | some p =>
    obtain ⟨t, want⟩ := p
    simp only [evGd] at h ⊢
    cases h2 : rget s.t t <;> simp only [h2] at h ⊢ <;> try (cases h; done)
    rename_i b
    cases hb : b == want <;> simp only [hb, cond_false, cond_true] at h ⊢
    · exact h
    · exact evOp_le hl h
theorem runOps_le {F G : CallF} (hl : FLe F G) : ∀ {ops : List POper} {s s' : St}, runOps F ops s = some s' → runOps G ops s = some s'
  | [], s, s', h => h
  | o :: r, s, s', h => by
    obtain ⟨e, h1, h2⟩ := Option.bind_eq_some_iff.1 h
    simp only [runOps, evGd_le hl h1, Option.bind_some, runOps_le hl h2]
theorem loopN_le {f g : St → Option (PEx × St)} (h : ∀ s r, f s = some r → g s = some r) : ∀ {n m : Nat} {s : St} {r : PEx × St}, n ≤ m → loopN f n s = some r → loopN g m s = some r
  | 0, _, _, _, _, k => by simp [loopN] at k
  | n + 1, 0, _, _, hm, _ => by omega
  | n + 1, m + 1, s, r, hm, k => by
    simp only [loopN] at k ⊢
    cases hf : f s with
    | none => simp only [hf] at k; cases k
    | some q =>
      obtain ⟨x, s'⟩ := q
      rw [h s _ hf]
      cases x with
      | n => simp only [hf] at k ⊢; exact loopN_le h (by omega) k
      | x i => simp only [hf] at k ⊢; exact k
      | r => simp only [hf] at k ⊢; exact k
theorem evC_le {F G : CallF} (hl : FLe F G) {N M : Nat} (hN : N ≤ M) : ∀ (c : PCode) {s : St} {r : PEx × St}, evC F N c s = some r → evC G M c s = some r
  | .skip, _, _, h => h
  | .reg ops d l lo, s, r, h => by
    simp only [evC] at h ⊢
    obtain ⟨s', h1, h2⟩ := Option.map_eq_some_iff.1 h
    rw [runOps_le hl h1]; exact congrArg some h2
  | .seq a b, s, r, h => by
    simp only [evC] at h ⊢
    cases ha : evC F N a s with
    | none => simp only [ha] at h; cases h
    | some q =>
      obtain ⟨x, s'⟩ := q
      rw [evC_le hl hN a ha]
      cases x with
      | n => simp only [ha] at h ⊢; exact evC_le hl hN b h
      | x i => simp only [ha] at h ⊢; exact h
      | r => simp only [ha] at h ⊢; exact h
  | .cond c a b, s, r, h => by
    simp only [evC] at h ⊢
    cases hc : s.ev c <;> simp only [hc] at h ⊢ <;> try (cases h; done)
    rename_i t
    cases t
    · exact evC_le hl hN b h
    · exact evC_le hl hN a h
  | .block id a, s, r, h => by
    simp only [evC] at h ⊢
    cases ha : evC F N a s with
    | none => simp only [ha] at h; cases h
    | some q =>
      obtain ⟨x, s'⟩ := q
      rw [evC_le hl hN a ha]
      cases x with
      | n => simp only [ha] at h ⊢; exact h
      | x i => simp only [ha] at h ⊢; exact h
      | r => simp only [ha] at h ⊢; exact h
  | .loop a, s, r, h => by
    simp only [evC] at h ⊢
    exact loopN_le (fun s r k => evC_le hl hN a k) hN h
  | .exit id, _, _, h => h
  | .ret, _, _, h => h
  | .bad, _, _, h => by simp [evC] at h
theorem evFn_le {F G : CallF} (hl : FLe F G) {N M : Nat} (hN : N ≤ M) {pf : PFunc} {args : List PV} {io : Option Obj} {r : Ret} (h : evFn F N pf args io = some r) : evFn G M pf args io = some r := by
  simp only [evFn] at h ⊢
  cases hn : args.length == pf.np <;> simp only [hn, cond_false, cond_true] at h ⊢
  · cases h
  · cases hb : evC F N pf.body { t := zipArgs 0 args, h := ioEnts io, z := [], g := 1 } with
    | none => simp only [hb] at h; cases h
    | some q =>
      obtain ⟨x, s'⟩ := q
      rw [evC_le hl hN _ hb]
      simp only [hb] at h
      cases x <;> simp only at h ⊢ <;> exact h
theorem callN_le (T : Nat → Option PFunc) {N M : Nat} (hN : N ≤ M) : ∀ {k m : Nat}, k ≤ m → FLe (callN T N k) (callN T M m)
  | 0, _, _ => fun f a io r h => by simp [callN] at h
  | k + 1, 0, hm => by omega
  | k + 1, m + 1, hm => fun f a io r h => by
    simp only [callN] at h ⊢
    obtain ⟨pf, h1, h2⟩ := Option.bind_eq_some_iff.1 h
    rw [h1]
    exact evFn_le (callN_le T hN (by omega)) hN h2
/-- What a run with some fuel hands back, every run with more does. -/
theorem runs_callN {T : Nat → Option PFunc} {N k f : Nat} {a : List PV} {io : Option Obj} {r : Ret} (h : callN T N k f a io = some r) : Runs T f a io r :=
  ⟨max N k, fun M m h1 h2 => callN_le T (by omega) (by omega) f a io r h⟩
end Go.Proofs.Ytbdknlejnacmgaa.Pi.W
end
