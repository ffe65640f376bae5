/-
  The law LinDefinite holds: whatever the rows and the list, the program's law answers true and leaves its arguments as they were.
-/
import Derived.Test.YtbdknlejnacmgaaClose
import Derived.Test.YtbdknlejnacmgaaRI
import Derived.Test.YtbdknlejnacmgaaAwake
namespace Go.Proofs.Ytbdknlejnacmgaa.Defi
open Go Go.ChangeShapes Go.WideShapes Go.ChangeAt Go.RowKit Go.Proofs.Ytbdknlejnacmgaa.Pi Go.Proofs.Ytbdknlejnacmgaa.Pi.W Go.Proofs.Ytbdknlejnacmgaa.Close
set_option linter.unusedVariables false

theorem runs (zss : List (List Int)) (zs : List Int) (h1 : zss.length ≤ maxLen) (h2 : ∀ l ∈ zss, l.length ≤ maxLen ∧ ∀ z ∈ l, (Lit.int .i64 z).wf = true) (h3 : zs.length ≤ maxLen) (h4 : ∀ z ∈ zs, (Lit.int .i64 z).wf = true) :
    ∃ N k, callN tab N k F_law07_LinDefinite [rows .i64 zss, ints .i64 zs] none = some ⟨[.bool true], [], none⟩ := by
  unfold maxLen at h1 h2 h3
  refine (runs_of_lim ?_).out
  rw [rows_IR, ints_sl]
  exact linDefinite_lim awake_lim zss zs (by omega) (fun l hl => by have := (h2 l hl).1; omega) (fun l hl z hz => wf_I64 ((h2 l hl).2 z hz)) (by omega) fun z hz => wf_I64 (h4 z hz)

set_option maxRecDepth 100000 in
theorem lifted (os : Os) (started : os.Started) (H : Type) (enc : TypeId × Value → H) :
    ReturnsInHanded {} Try.checked os 6 .any (Rows.linDefiniteSpec.pre6 enc Try.prog Try.f6 Rows.linDefiniteRow.domain false) (Rows.linDefiniteSpec.post enc Try.prog Try.f6 false true false false) := by
  refine returnsInHanded_of_change (C := Try.checked) own started (by kernel_rfl) Try.func6
    (ChangeSpec.witness6 (enc := enc) (C := Try.checked) false ⟨#[], #[.slice none 0 0, .slice none 0 0], []⟩ 8 (by kernel_rfl) (by kernel_rfl) (by kernel_rfl) (by kernel_rfl)) ?_
  intro W base args ds gs before hval0 hW hcnd _
  have hval : ∀ (j : Nat) t v, Try.f6.params[j]? = some t → args[j]? = some v → Value.okWide Try.prog W .any base t v := hval0
  have hW' := hW
  obtain ⟨p, q, hA0, hV, rfl, hfz, hnd⟩ := hW
  have hA : DataW.TrodAll enc Try.prog W 0 (fun _ => true) true Try.f6.params.toList args.toList ds p := hA0
  rw [Try.params6] at hA hval
  obtain ⟨v0, vs0, d0, ds0, p0, q0, hargs, rfl, rfl, h0, r0⟩ := trodAll_cons hA
  obtain ⟨v1, vs1, d1, ds1, p1, q1, rfl, rfl, rfl, h1, r1⟩ := trodAll_cons r0
  obtain ⟨rfl, rfl, rfl⟩ := trodAll_nil r1
  obtain rfl : args = #[v0, v1] := by cases args; simp_all
  obtain ⟨rfl, rfl⟩ := trodVars_none hV
  obtain ⟨zss, b1, b2, b3⟩ := arg_rows Try.underlying22 Try.underlying23 Try.underlying2 (by kernel_rfl) (by kernel_rfl) (hval 0 22 v0 rfl rfl) h0
  obtain ⟨zs, c1, c2, c3⟩ := arg_ints Try.underlying23 Try.underlying2 (by kernel_rfl) (hval 1 23 v1 rfl rfl) h1
  obtain ⟨N, k, hrun⟩ := runs zss zs b1 b2 c1 c2
  have hlt := hW'.lt
  simp only [List.append_nil] at hW' hlt
  refine (law_calls (W := W) (runs_good N k) hrun (args := #[v0, v1]) rfl (fun i p v hp hv => ?_)).mono fun e W' ⟨he, hb, hn⟩ => ?_
  · match i with
    | 0 => simp at hp hv; subst hp; subst hv; exact b3
    | 1 => simp at hp hv; subst hp; subst hv; exact c3
    | i + 2 => simp at hp
  · subst he
    have same : ∀ x ∈ p0 ++ p1, W.sameAt W' x := fun x hx => hb.same (hlt x hx)
    refine ⟨_, rfl, post_of_same (pa := p0 ++ p1) (pv := []) hW' (fun _ _ _ => (trodAll_cons_mk (shut_bool Try.underlying4 _) trodAll_mk0)) (fun sp hsp => ?_) (fun _ _ => rfl) (by simp)
      (hb.frame _) (frozen_same hb hn) (ok_one (by kernel_rfl) rfl (okWide_bool_mk Try.underlying4 _))⟩
    have t0 := WideElems.Trod_stays (sp' := sp) laid (by kernel_rfl) (of_decide_eq_true (by kernel_rfl)) h0 (fun x hx => same x (by simp [hx])) (fun x hx => hsp x (by simp [hx]))
    have t1 := WideElems.Trod_stays (sp' := sp) laid (by kernel_rfl) (of_decide_eq_true (by kernel_rfl)) h1 (fun x hx => same x (by simp [hx])) (fun x hx => hsp x (by simp [hx]))
    have := trodAll_cons_mk t0 (trodAll_cons_mk t1 trodAll_mk0)
    rw [List.append_nil] at this
    exact this

theorem over : Rows.linDefiniteRow.holds Try.pinned (OpenSpec.ofChange Rows.linDefiniteSpec) :=
  OpenClaim.holds_of_wide 6 Try.f6 rfl rfl rfl rfl rfl rfl rfl ⟨rfl, rfl, rfl, rfl, rfl⟩ rfl rfl rfl rfl rfl (by kernel_rfl) Try.func6 (by kernel_rfl)
    (of_decide_eq_true (by kernel_rfl)) (by unfold Func.isWrapper; first | (rw [if_pos (by decide +kernel)]; kernel_rfl) | (rw [if_neg (by decide +kernel)]; exact ⟨rfl, rfl⟩))
    (fun os started H enc _ => lifted os started H enc)

/-- THE STATEMENT. -/
theorem proved : Rows.LinDefiniteSaid := over
#print axioms proved

end Go.Proofs.Ytbdknlejnacmgaa.Defi
