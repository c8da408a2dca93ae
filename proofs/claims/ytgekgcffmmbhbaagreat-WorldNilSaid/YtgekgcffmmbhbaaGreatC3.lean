/- A part of the example of the worlds, reckoned by the kernel. -/
import Derived.Test.YtgekgcffmmbhbaaGreatQ16
set_option maxRecDepth 100000
noncomputable section
namespace Go.Proofs.YtgekgcffmmbhbaaGreat.T
open Go Go.A
theorem leafC3 : chk w4e w4n w4h (runs X callX 71 57 [g71] (mkSt w3e w3n w3h)) = true := by kernel_rfl
end Go.Proofs.YtgekgcffmmbhbaaGreat.T
