/- A part of the example of the worlds, reckoned by the kernel. -/
import Derived.Test.YtgekgcffmmbhbaaGreatQ16
set_option maxRecDepth 100000
noncomputable section
namespace Go.Proofs.YtgekgcffmmbhbaaGreat.T
open Go Go.A
theorem leafC4 : chk w5e w5n w5h (runs X callX 71 57 [g71] (mkSt w4e w4n w4h)) = true := by kernel_rfl
theorem leafC5 : last71 wqn wqh (mkSt w5e w5n w5h) = true := by kernel_rfl
end Go.Proofs.YtgekgcffmmbhbaaGreat.T
