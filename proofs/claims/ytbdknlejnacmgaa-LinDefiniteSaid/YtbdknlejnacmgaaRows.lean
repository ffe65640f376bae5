/-
  No cell of these rows narrows 'for every input' (looked for: loops, veiled, ifaces, maps, wideKeys, modest, calm, conditions, laid).
  DERIVED. THE GIVEN ROWS OF THIS SEAT. 4 by the template 'for every input the law returns true; each argument reads behind the call as it read before'; 0 by the template 'total and deterministic' (their statements: YtbdknlejnacmgaaTotals.lean).
  GIVEN WITH THE SEED: the statements are not yours to turn. If you find one false, say at which input.
  Laid BY PROGRAM, IN A SANDBOX (cutbox-rows.mjs): the forced cells as the released guide's own fill.sh prints them over the translation 587a53b4d8e68460… (all of the seat's roots in one cut). By AI agents, Wed Nov 11 2026. No macro, syntax, notation, axiom, sorry.
-/
import Derived.Test.YtbdknlejnacmgaaChecked
import GoSem.Claim
import GoSem.ClaimJoined
import GoSem.ClaimMapViews
import Derived.JoinedTies
import Derived.KernelRfl
namespace Go.Proofs.Ytbdknlejnacmgaa
/- THE CELL 'sum', in the pinned program and in every row, IS THE sha256 OF THE DUMP (.gsa) THAT YtbdknlejnacmgaaProg.lean LOADS. Nothing in Lean hashes anything: it is a label: what it is worth is what the hold of that sum in a sandbox is worth. -/
noncomputable def Try.pinned : Pinned := { name := "ytbdknlejnacmgaa", sum := "587a53b4d8e68460e2eabf5ced8850ff124ed6a3c36266555847587468b64f1d", checked := Try.checked }
namespace Rows
def none {H : Type} : Left H := { results := [], args := [] }

/-- 'gimballaw07.LinBack': WHATEVER THE INPUT: true; the input reads as it did. -/
def linBackSpec : ChangeSpec := { name := "linBack", fn := fun _ => fun
  | [d1, d2] => { results := [.lit (.bool true)], args := [d1, d2] }
  | _ => none }
def linBackRow : OpenClaim := { program := "ytbdknlejnacmgaa", sum := "587a53b4d8e68460e2eabf5ced8850ff124ed6a3c36266555847587468b64f1d", func := "gimbal/gimballaw07.LinBack", spec := "linBack", unfollowed := true, recurses := true, apart := false }
def LinBackSaid : Prop := linBackRow.holds Try.pinned (OpenSpec.ofChange linBackSpec)

/-- ITS FALSE NEIGHBOUR: 'it returns false'. Refute it at one input. -/
def linBackWrong : ChangeSpec := { name := "linBack", fn := fun _ => fun
  | [d1, d2] => { results := [.lit (.bool false)], args := [d1, d2] }
  | _ => none }
def LinBackWrongFalsely : Prop := linBackRow.holds Try.pinned (OpenSpec.ofChange linBackWrong)

/-- 'gimballaw07.LinReckons': WHATEVER THE INPUT: true; the input reads as it did. -/
def linReckonsSpec : ChangeSpec := { name := "linReckons", fn := fun _ => fun
  | [d1, d2, d3] => { results := [.lit (.bool true)], args := [d1, d2, d3] }
  | _ => none }
def linReckonsRow : OpenClaim := { program := "ytbdknlejnacmgaa", sum := "587a53b4d8e68460e2eabf5ced8850ff124ed6a3c36266555847587468b64f1d", func := "gimbal/gimballaw07.LinReckons", spec := "linReckons", unfollowed := true, recurses := true, apart := false }
def LinReckonsSaid : Prop := linReckonsRow.holds Try.pinned (OpenSpec.ofChange linReckonsSpec)

/-- ITS FALSE NEIGHBOUR: 'it returns false'. Refute it at one input. -/
def linReckonsWrong : ChangeSpec := { name := "linReckons", fn := fun _ => fun
  | [d1, d2, d3] => { results := [.lit (.bool false)], args := [d1, d2, d3] }
  | _ => none }
def LinReckonsWrongFalsely : Prop := linReckonsRow.holds Try.pinned (OpenSpec.ofChange linReckonsWrong)

/-- 'gimballaw07.LinRules': WHATEVER THE INPUT: true; the input reads as it did. -/
def linRulesSpec : ChangeSpec := { name := "linRules", fn := fun _ => fun
  | [d1, d2, d3, d4, d5] => { results := [.lit (.bool true)], args := [d1, d2, d3, d4, d5] }
  | _ => none }
def linRulesRow : OpenClaim := { program := "ytbdknlejnacmgaa", sum := "587a53b4d8e68460e2eabf5ced8850ff124ed6a3c36266555847587468b64f1d", func := "gimbal/gimballaw07.LinRules", spec := "linRules", unfollowed := true, recurses := true, apart := false }
def LinRulesSaid : Prop := linRulesRow.holds Try.pinned (OpenSpec.ofChange linRulesSpec)

/-- ITS FALSE NEIGHBOUR: 'it returns false'. Refute it at one input. -/
def linRulesWrong : ChangeSpec := { name := "linRules", fn := fun _ => fun
  | [d1, d2, d3, d4, d5] => { results := [.lit (.bool false)], args := [d1, d2, d3, d4, d5] }
  | _ => none }
def LinRulesWrongFalsely : Prop := linRulesRow.holds Try.pinned (OpenSpec.ofChange linRulesWrong)

/-- 'gimballaw07.LinDefinite': WHATEVER THE INPUT: true; the input reads as it did. -/
def linDefiniteSpec : ChangeSpec := { name := "linDefinite", fn := fun _ => fun
  | [d1, d2] => { results := [.lit (.bool true)], args := [d1, d2] }
  | _ => none }
def linDefiniteRow : OpenClaim := { program := "ytbdknlejnacmgaa", sum := "587a53b4d8e68460e2eabf5ced8850ff124ed6a3c36266555847587468b64f1d", func := "gimbal/gimballaw07.LinDefinite", spec := "linDefinite", unfollowed := true, recurses := true, apart := false }
def LinDefiniteSaid : Prop := linDefiniteRow.holds Try.pinned (OpenSpec.ofChange linDefiniteSpec)

/-- ITS FALSE NEIGHBOUR: 'it returns false'. Refute it at one input. -/
def linDefiniteWrong : ChangeSpec := { name := "linDefinite", fn := fun _ => fun
  | [d1, d2] => { results := [.lit (.bool false)], args := [d1, d2] }
  | _ => none }
def LinDefiniteWrongFalsely : Prop := linDefiniteRow.holds Try.pinned (OpenSpec.ofChange linDefiniteWrong)

/- THE SECOND FORM. 'bulk': how many values and letters a reading holds, each counted each time it is reached (what is shared counts as often as it is met; a slice's spare places count too). A statement '..UptoSaid' is the law's where the arguments, and the package variables that the reading takes, are together of bulk at most 1048576: NARROWER than '..Said'. Prove '..Said' where nothing that the law and all that it calls make is longer than what came in: it says more and counts as full. Else prove '..UptoSaid'. A law counts once. -/
mutual
def uptoBulk {H : Type} : DataW H → Nat
  | .lit (.string bytes) => bytes.length + 1
  | .lit _ => 1
  | .nil => 1
  | .ptr d => uptoBulk d + 1
  | .slice elems spare => uptoBulkAll elems + uptoBulkAll spare + 1
  | .agg parts => uptoBulkAll parts + 1
  | .iface _ d => uptoBulk d + 1
  | .map entries => uptoBulkEntries entries + 1
  | .held _ => 1
def uptoBulkAll {H : Type} : List (DataW H) → Nat
  | [] => 0
  | d :: r => uptoBulk d + uptoBulkAll r
def uptoBulkEntries {H : Type} : List (Lit × DataW H) → Nat
  | [] => 0
  | x :: r => uptoBulkEntry x + uptoBulkEntries r
def uptoBulkEntry {H : Type} : Lit × DataW H → Nat
  | (.string bytes, d) => bytes.length + uptoBulk d + 1
  | (_, d) => uptoBulk d + 1
 end
def uptoSmall : (H : Type) → List (DataW H) → Bool := fun _ ds => decide (uptoBulkAll ds ≤ 1048576)
def OpenSpec.upto (s : _root_.Go.ChangeSpec) : _root_.Go.OpenSpec := { _root_.Go.OpenSpec.ofChange s with cond := some uptoSmall }

/-- 'gimballaw07.LinBack', WHERE WHAT IT READS IS OF BULK AT MOST 1048576: true; the input reads as it did. -/
def linBackUptoRow : OpenClaim := { program := "ytbdknlejnacmgaa", sum := "587a53b4d8e68460e2eabf5ced8850ff124ed6a3c36266555847587468b64f1d", func := "gimbal/gimballaw07.LinBack", spec := "linBack", unfollowed := true, recurses := true, apart := false, narrowed := true }
def LinBackUptoSaid : Prop := linBackUptoRow.holds Try.pinned (OpenSpec.upto linBackSpec)

/-- 'gimballaw07.LinReckons', WHERE WHAT IT READS IS OF BULK AT MOST 1048576: true; the input reads as it did. -/
def linReckonsUptoRow : OpenClaim := { program := "ytbdknlejnacmgaa", sum := "587a53b4d8e68460e2eabf5ced8850ff124ed6a3c36266555847587468b64f1d", func := "gimbal/gimballaw07.LinReckons", spec := "linReckons", unfollowed := true, recurses := true, apart := false, narrowed := true }
def LinReckonsUptoSaid : Prop := linReckonsUptoRow.holds Try.pinned (OpenSpec.upto linReckonsSpec)

/-- 'gimballaw07.LinRules', WHERE WHAT IT READS IS OF BULK AT MOST 1048576: true; the input reads as it did. -/
def linRulesUptoRow : OpenClaim := { program := "ytbdknlejnacmgaa", sum := "587a53b4d8e68460e2eabf5ced8850ff124ed6a3c36266555847587468b64f1d", func := "gimbal/gimballaw07.LinRules", spec := "linRules", unfollowed := true, recurses := true, apart := false, narrowed := true }
def LinRulesUptoSaid : Prop := linRulesUptoRow.holds Try.pinned (OpenSpec.upto linRulesSpec)

/-- 'gimballaw07.LinDefinite', WHERE WHAT IT READS IS OF BULK AT MOST 1048576: true; the input reads as it did. -/
def linDefiniteUptoRow : OpenClaim := { program := "ytbdknlejnacmgaa", sum := "587a53b4d8e68460e2eabf5ced8850ff124ed6a3c36266555847587468b64f1d", func := "gimbal/gimballaw07.LinDefinite", spec := "linDefinite", unfollowed := true, recurses := true, apart := false, narrowed := true }
def LinDefiniteUptoSaid : Prop := linDefiniteUptoRow.holds Try.pinned (OpenSpec.upto linDefiniteSpec)

end Rows
end Go.Proofs.Ytbdknlejnacmgaa
