/- A part of the example of the worlds, reckoned by the kernel. -/
import Derived.Test.YtgekgcffmmbhbaaGreatQ16
set_option maxRecDepth 100000
noncomputable section
namespace Go.Proofs.YtgekgcffmmbhbaaGreat.T
open Go Go.A
theorem leafE1 : chk wg0e wg0n wg0h (runs X callX 71 57 tick71 startG) = true := by kernel_rfl
end Go.Proofs.YtgekgcffmmbhbaaGreat.T
