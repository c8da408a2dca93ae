/- A part of the example of the worlds, reckoned by the kernel. -/
import Derived.Test.YtgekgcffmmbhbaaGreatQ16
set_option maxRecDepth 100000
noncomputable section
namespace Go.Proofs.YtgekgcffmmbhbaaGreat.T
open Go Go.A
theorem leafF2 : chk wf1e wf1n wf1h (runs X callX 71 57 [g71] (mkSt wf0e wf0n wf0h)) = true := by kernel_rfl
theorem leafF3 : last71 wfqn wfqh (mkSt wf1e wf1n wf1h) = true := by kernel_rfl
end Go.Proofs.YtgekgcffmmbhbaaGreat.T
