/- A part of the example of the worlds, reckoned by the kernel. -/
import Derived.Test.YtgekgcffmmbhbaaGreatQ16
set_option maxRecDepth 100000
noncomputable section
namespace Go.Proofs.YtgekgcffmmbhbaaGreat.T
open Go Go.A
theorem leafD1 : chk w9e w9n w9h (runs X (callM memoC) 16 57 first16 (.lf, ⟨200, 0, .lf⟩)) = true := by kernel_rfl
theorem leafD2 : chk w10e w10n w10h (runs X (callM memoF) 16 57 [o16, o16] (mkSt w9e w9n w9h)) = true := by kernel_rfl
theorem leafD3 : last16 (mkSt w10e w10n w10h) = true := by kernel_rfl
end Go.Proofs.YtgekgcffmmbhbaaGreat.T
