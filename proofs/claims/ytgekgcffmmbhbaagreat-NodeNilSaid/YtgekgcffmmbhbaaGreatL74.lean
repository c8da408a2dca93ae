/- A part of the example, reckoned by the kernel. -/
import Derived.Test.YtgekgcffmmbhbaaGreatQ7
set_option maxRecDepth 100000
noncomputable section
namespace Go.Proofs.YtgekgcffmmbhbaaGreat.T
open Go Go.A
theorem leaf74 : last7 (mkSt s4e s4n s4h) = true := by kernel_rfl
end Go.Proofs.YtgekgcffmmbhbaaGreat.T
