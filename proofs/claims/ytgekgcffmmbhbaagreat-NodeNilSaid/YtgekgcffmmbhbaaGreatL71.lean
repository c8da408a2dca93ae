/- A part of the example, reckoned by the kernel. -/
import Derived.Test.YtgekgcffmmbhbaaGreatQ7
set_option maxRecDepth 100000
noncomputable section
namespace Go.Proofs.YtgekgcffmmbhbaaGreat.T
open Go Go.A
theorem leaf71 : chk s2e s2n s2h (runs X call7 7 57 first7 (.lf, ⟨0, 0, .lf⟩)) = true := by kernel_rfl
end Go.Proofs.YtgekgcffmmbhbaaGreat.T
