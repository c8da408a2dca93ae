/- A part of the example, reckoned by the kernel. -/
import Derived.Test.YtgekgcffmmbhbaaGreatQ7
set_option maxRecDepth 100000
noncomputable section
namespace Go.Proofs.YtgekgcffmmbhbaaGreat.T
open Go Go.A
theorem leaf72 : chk s3e s3n s3h (runs X call7 7 57 second7 (mkSt s2e s2n s2h)) = true := by kernel_rfl
end Go.Proofs.YtgekgcffmmbhbaaGreat.T
