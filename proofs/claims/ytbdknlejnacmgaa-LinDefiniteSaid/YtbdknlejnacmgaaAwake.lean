/-
  The chapter's examples, reckoned by the kernel.
-/
import Derived.Test.YtbdknlejnacmgaaFns
import Derived.Test.YtbdknlejnacmgaaW
import Derived.KernelRfl
namespace Go.Proofs.Ytbdknlejnacmgaa.Pi.W
open Go
theorem awake_call : callN tab 1000 60 F_law07_awake [] none = some ⟨[.bool true], [], none⟩ := by kernel_rfl
theorem awake_lim : lim tab F_law07_awake [] none = some ⟨[.bool true], [], none⟩ := (runs_callN awake_call).lim
end Go.Proofs.Ytbdknlejnacmgaa.Pi.W
