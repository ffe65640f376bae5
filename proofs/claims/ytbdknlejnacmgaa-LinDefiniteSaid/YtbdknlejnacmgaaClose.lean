/-
  What the closings of the laws have in common.
-/
import Derived.Test.YtbdknlejnacmgaaFits
import Derived.Test.YtbdknlejnacmgaaR
namespace Go.Proofs.Ytbdknlejnacmgaa.Close
open Go Go.ChangeShapes Go.WideShapes Go.ChangeAt Go.RowKit Go.Proofs.Ytbdknlejnacmgaa.Pi Go.Proofs.Ytbdknlejnacmgaa.Pi.W
set_option linter.unusedVariables false

theorem wf_I64 {z : Int} (h : (Lit.int .i64 z).wf = true) : I64 z := by
  simp only [Lit.wf, Bool.and_eq_true, decide_eq_true_eq] at h
  exact ⟨by have := h.1; simp [IntKind.min, IntKind.signed, IntKind.bits] at this; omega, by have := h.2; simp [IntKind.max, IntKind.signed, IntKind.bits] at this; omega⟩
theorem rows_IR (zss : List (List Int)) : rows .i64 zss = IR zss := by
  unfold rows IR sl
  simp only [Bool.false_and, Bool.false_eq_true, if_false, List.map_map]
  rfl
theorem ints_sl (zs : List Int) : ints .i64 zs = sl i64c false zs := rfl

theorem laid : laidOutB Try.prog = true := by kernel_rfl

theorem own : ownKnob Try.prog.godebug = none := by kernel_rfl

end Go.Proofs.Ytbdknlejnacmgaa.Close
