/- A nil node is down, and tells nothing: the row. -/
import Derived.Test.YtgekgcffmmbhbaaGreatRow20
set_option maxRecDepth 100000
noncomputable section
namespace Go.Proofs.YtgekgcffmmbhbaaGreat.nodeNil
open Go
theorem named : Tryz.pinned.checked.prog.funcNamed Rows.nodeNilRow.func = some 3 := by kernel_rfl
theorem facts : joinedFacts Tryz.pinned.checked.prog 3 Go.Proofs.Tryz.f3 Rows.nodeNilSpec Rows.nodeNilRow = true := by kernel_rfl
theorem inst : Go.Proofs.Tryz.f3.isInstance Tryz.pinned.checked.prog Rows.nodeNilRow.origin Rows.nodeNilRow.targs := of_decide_eq_true (by kernel_rfl)
theorem wrap : Go.Proofs.Tryz.f3.isWrapper Tryz.pinned.checked.prog Rows.nodeNilRow.wrapper Rows.nodeNilRow.mainSum := by unfold Func.isWrapper; first | (rw [if_pos (by decide +kernel)]; kernel_rfl) | (rw [if_neg (by decide +kernel)]; exact ⟨rfl, rfl⟩)
theorem over : Rows.nodeNilRow.holds Tryz.pinned (OpenSpec.ofChange Rows.nodeNilSpec) :=
  OpenClaim.holds_of_wide 3 Go.Proofs.Tryz.f3 rfl rfl rfl rfl rfl rfl rfl ⟨rfl, rfl, rfl, rfl, rfl⟩ rfl rfl rfl rfl rfl named Go.Proofs.Tryz.func3 facts inst wrap
    (fun os started H enc _ => lifted os started H enc)
theorem proved : Rows.NodeNilSaid := over
#print axioms proved
end Go.Proofs.YtgekgcffmmbhbaaGreat.nodeNil
