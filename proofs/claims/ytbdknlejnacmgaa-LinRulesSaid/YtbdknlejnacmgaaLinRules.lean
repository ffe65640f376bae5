/-
  The law LinRules holds: whatever the rows, the places and the number, the program's law answers true and leaves its arguments as they were.
-/
import Derived.Test.YtbdknlejnacmgaaClose
import Derived.Test.YtbdknlejnacmgaaRX
import Derived.Test.YtbdknlejnacmgaaAwake
namespace Go.Proofs.Ytbdknlejnacmgaa.Rules
open Go Go.ChangeShapes Go.WideShapes Go.ChangeAt Go.RowKit Go.Proofs.Ytbdknlejnacmgaa.Pi Go.Proofs.Ytbdknlejnacmgaa.Pi.W Go.Proofs.Ytbdknlejnacmgaa.Close
set_option linter.unusedVariables false

theorem runs (zss yss : List (List Int)) (i k t : Int) (h1 : zss.length ≤ maxLen) (h2 : ∀ l ∈ zss, l.length ≤ maxLen ∧ ∀ z ∈ l, (Lit.int .i64 z).wf = true) (h3 : yss.length ≤ maxLen) (h4 : ∀ l ∈ yss, l.length ≤ maxLen ∧ ∀ z ∈ l, (Lit.int .i64 z).wf = true)
    (hi : (Lit.int .i64 i).wf = true) (hk : (Lit.int .i64 k).wf = true) (ht : (Lit.int .i64 t).wf = true) :
    ∃ N q, callN tab N q F_law07_LinRules [rows .i64 zss, rows .i64 yss, .int .i64 i, .int .i64 k, .int .i64 t] none = some ⟨[.bool true], [], none⟩ := by
  unfold maxLen at h1 h2 h3 h4
  refine (runs_of_lim ?_).out
  rw [rows_IR, rows_IR]
  exact linRules_lim awake_lim zss yss i k t (by omega) (fun l hl => by have := (h2 l hl).1; omega) (fun l hl z hz => wf_I64 ((h2 l hl).2 z hz)) (by omega) (fun l hl => by have := (h4 l hl).1; omega) (fun l hl z hz => wf_I64 ((h4 l hl).2 z hz)) (wf_I64 hi) (wf_I64 hk) (wf_I64 ht)

set_option maxRecDepth 100000 in
theorem lifted (os : Os) (started : os.Started) (H : Type) (enc : TypeId × Value → H) :
    ReturnsInHanded {} Try.checked os 5 .any (Rows.linRulesSpec.pre6 enc Try.prog Try.f5 Rows.linRulesRow.domain false) (Rows.linRulesSpec.post enc Try.prog Try.f5 false true false false) := by
  refine returnsInHanded_of_change (C := Try.checked) own started (by kernel_rfl) Try.func5
    (ChangeSpec.witness6 (enc := enc) (C := Try.checked) false ⟨#[], #[.slice none 0 0, .slice none 0 0, .int .i64 0, .int .i64 0, .int .i64 0], []⟩ 8 (by kernel_rfl) (by kernel_rfl) (by kernel_rfl) (by kernel_rfl)) ?_
  intro W base args ds gs before hval0 hW hcnd _
  have hval : ∀ (j : Nat) t v, Try.f5.params[j]? = some t → args[j]? = some v → Value.okWide Try.prog W .any base t v := hval0
  have hW' := hW
  obtain ⟨p, q, hA0, hV, rfl, hfz, hnd⟩ := hW
  have hA : DataW.TrodAll enc Try.prog W 0 (fun _ => true) true Try.f5.params.toList args.toList ds p := hA0
  rw [Try.params5] at hA hval
  obtain ⟨v0, vs0, d0, ds0, p0, q0, hargs, rfl, rfl, h0, r0⟩ := trodAll_cons hA
  obtain ⟨v1, vs1, d1, ds1, p1, q1, rfl, rfl, rfl, h1, r1⟩ := trodAll_cons r0
  obtain ⟨v2, vs2, d2, ds2, p2, q2, rfl, rfl, rfl, h2, r2⟩ := trodAll_cons r1
  obtain ⟨v3, vs3, d3, ds3, p3, q3, rfl, rfl, rfl, h3, r3⟩ := trodAll_cons r2
  obtain ⟨v4, vs4, d4, ds4, p4, q4, rfl, rfl, rfl, h4, r4⟩ := trodAll_cons r3
  obtain ⟨rfl, rfl, rfl⟩ := trodAll_nil r4
  obtain rfl : args = #[v0, v1, v2, v3, v4] := by cases args; simp_all
  obtain ⟨rfl, rfl⟩ := trodVars_none hV
  obtain ⟨zss, b1, b2, b3⟩ := arg_rows Try.underlying22 Try.underlying23 Try.underlying2 (by kernel_rfl) (by kernel_rfl) (hval 0 22 v0 rfl rfl) h0
  obtain ⟨yss, c1, c2, c3⟩ := arg_rows Try.underlying22 Try.underlying23 Try.underlying2 (by kernel_rfl) (by kernel_rfl) (hval 1 22 v1 rfl rfl) h1
  obtain ⟨i, rfl, rfl, rfl, wi⟩ := open_int Try.underlying3 (hval 2 3 v2 rfl rfl) h2
  obtain ⟨k, rfl, rfl, rfl, wk⟩ := open_int Try.underlying3 (hval 3 3 v3 rfl rfl) h3
  obtain ⟨t, rfl, rfl, rfl, wt⟩ := open_int Try.underlying2 (hval 4 2 v4 rfl rfl) h4
  obtain ⟨N, n, hrun⟩ := runs zss yss i k t b1 b2 c1 c2 wi wk wt
  have hlt := hW'.lt
  simp only [List.append_nil] at hW' hlt
  refine (law_calls (W := W) (runs_good N n) hrun (args := #[v0, v1, .int .i64 i, .int .i64 k, .int .i64 t]) rfl (fun j p v hp hv => ?_)).mono fun e W' ⟨he, hb, hn⟩ => ?_
  · match j with
    | 0 => simp at hp hv; subst hp; subst hv; exact b3
    | 1 => simp at hp hv; subst hp; subst hv; exact c3
    | 2 => simp at hp hv; subst hp; subst hv; exact .int _ _
    | 3 => simp at hp hv; subst hp; subst hv; exact .int _ _
    | 4 => simp at hp hv; subst hp; subst hv; exact .int _ _
    | j + 5 => simp at hp
  · subst he
    have same : ∀ x ∈ p0 ++ p1, W.sameAt W' x := fun x hx => hb.same (hlt x hx)
    refine ⟨_, rfl, post_of_same (pa := p0 ++ p1) (pv := []) hW' (fun _ _ _ => (trodAll_cons_mk (shut_bool Try.underlying4 _) trodAll_mk0)) (fun sp hsp => ?_) (fun _ _ => rfl) (by simp)
      (hb.frame _) (frozen_same hb hn) (ok_one (by kernel_rfl) rfl (okWide_bool_mk Try.underlying4 _))⟩
    have t0 := WideElems.Trod_stays (sp' := sp) laid (by kernel_rfl) (of_decide_eq_true (by kernel_rfl)) h0 (fun x hx => same x (by simp [hx])) (fun x hx => hsp x (by simp [hx]))
    have t1 := WideElems.Trod_stays (sp' := sp) laid (by kernel_rfl) (of_decide_eq_true (by kernel_rfl)) h1 (fun x hx => same x (by simp [hx])) (fun x hx => hsp x (by simp [hx]))
    have := trodAll_cons_mk t0 (trodAll_cons_mk t1 (trodAll_cons_mk (shut_int Try.underlying3 wi) (trodAll_cons_mk (shut_int Try.underlying3 wk) (trodAll_cons_mk (shut_int Try.underlying2 wt) trodAll_mk0))))
    simp only [List.append_nil] at this
    exact this

theorem over : Rows.linRulesRow.holds Try.pinned (OpenSpec.ofChange Rows.linRulesSpec) :=
  OpenClaim.holds_of_wide 5 Try.f5 rfl rfl rfl rfl rfl rfl rfl ⟨rfl, rfl, rfl, rfl, rfl⟩ rfl rfl rfl rfl rfl (by kernel_rfl) Try.func5 (by kernel_rfl)
    (of_decide_eq_true (by kernel_rfl)) (by unfold Func.isWrapper; first | (rw [if_pos (by decide +kernel)]; kernel_rfl) | (rw [if_neg (by decide +kernel)]; exact ⟨rfl, rfl⟩))
    (fun os started H enc _ => lifted os started H enc)

/-- THE STATEMENT. -/
theorem proved : Rows.LinRulesSaid := over
#print axioms proved

end Go.Proofs.Ytbdknlejnacmgaa.Rules
