/- A part of the example of the worlds, reckoned by the kernel. -/
import Derived.Test.YtgekgcffmmbhbaaGreatQ16
set_option maxRecDepth 100000
noncomputable section
namespace Go.Proofs.YtgekgcffmmbhbaaGreat.T
open Go Go.A
theorem leafC1 : chk w2e w2n w2h (runs X callX 71 57 first71 start71) = true := by kernel_rfl
end Go.Proofs.YtgekgcffmmbhbaaGreat.T
