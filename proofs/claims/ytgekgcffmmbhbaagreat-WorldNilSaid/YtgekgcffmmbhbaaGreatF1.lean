/- A part of the example of the worlds, reckoned by the kernel. -/
import Derived.Test.YtgekgcffmmbhbaaGreatQ16
set_option maxRecDepth 100000
noncomputable section
namespace Go.Proofs.YtgekgcffmmbhbaaGreat.T
open Go Go.A
theorem leafF1 : chk wf0e wf0n wf0h (runs X callX 71 57 tick71 startF) = true := by kernel_rfl
end Go.Proofs.YtgekgcffmmbhbaaGreat.T
