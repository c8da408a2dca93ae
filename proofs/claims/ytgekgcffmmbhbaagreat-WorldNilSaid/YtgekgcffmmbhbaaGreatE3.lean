/- A part of the example of the worlds, reckoned by the kernel. -/
import Derived.Test.YtgekgcffmmbhbaaGreatQ16
set_option maxRecDepth 100000
noncomputable section
namespace Go.Proofs.YtgekgcffmmbhbaaGreat.T
open Go Go.A
theorem leafE3 : last71 wgqn wgqh (mkSt wg1e wg1n wg1h) = true := by kernel_rfl
theorem leafD4 : newOk memoT = true := by kernel_rfl
theorem leafD5 : isYesH (aCall X (frameCall memoT (AEval X 57)) 57 17 [] ⟨0, 0, .lf⟩) = true := by kernel_rfl
end Go.Proofs.YtgekgcffmmbhbaaGreat.T
