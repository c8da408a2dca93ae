/- A part of the example of the worlds, reckoned by the kernel. -/
import Derived.Test.YtgekgcffmmbhbaaGreatQ16
set_option maxRecDepth 100000
noncomputable section
namespace Go.Proofs.YtgekgcffmmbhbaaGreat.T
open Go Go.A
theorem leafC2 : chk w3e w3n w3h (runs X callX 71 57 second71 (mkSt w2e w2n w2h)) = true := by kernel_rfl
end Go.Proofs.YtgekgcffmmbhbaaGreat.T
