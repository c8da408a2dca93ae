/- A part of the example, reckoned by the kernel. -/
import Derived.Test.YtgekgcffmmbhbaaGreatQ7
set_option maxRecDepth 100000
noncomputable section
namespace Go.Proofs.YtgekgcffmmbhbaaGreat.T
open Go Go.A
theorem leaf73 : chk s4e s4n s4h (runs X call7 7 57 [i7, i7] (mkSt s3e s3n s3h)) = true := by kernel_rfl
end Go.Proofs.YtgekgcffmmbhbaaGreat.T
