/- A nil world does nothing, and places that are none have nothing: the row. -/
import Derived.Test.YtgekgcffmmbhbaaGreatRow21
set_option maxRecDepth 100000
noncomputable section
namespace Go.Proofs.YtgekgcffmmbhbaaGreat.worldNil
open Go
theorem named : Tryz.pinned.checked.prog.funcNamed Rows.worldNilRow.func = some 4 := by kernel_rfl
theorem facts : joinedFacts Tryz.pinned.checked.prog 4 Go.Proofs.Tryz.f4 Rows.worldNilSpec Rows.worldNilRow = true := by kernel_rfl
theorem inst : Go.Proofs.Tryz.f4.isInstance Tryz.pinned.checked.prog Rows.worldNilRow.origin Rows.worldNilRow.targs := of_decide_eq_true (by kernel_rfl)
theorem wrap : Go.Proofs.Tryz.f4.isWrapper Tryz.pinned.checked.prog Rows.worldNilRow.wrapper Rows.worldNilRow.mainSum := by unfold Func.isWrapper; first | (rw [if_pos (by decide +kernel)]; kernel_rfl) | (rw [if_neg (by decide +kernel)]; exact ⟨rfl, rfl⟩)
theorem over : Rows.worldNilRow.holds Tryz.pinned (OpenSpec.ofChange Rows.worldNilSpec) :=
  OpenClaim.holds_of_wide 4 Go.Proofs.Tryz.f4 rfl rfl rfl rfl rfl rfl rfl ⟨rfl, rfl, rfl, rfl, rfl⟩ rfl rfl rfl rfl rfl named Go.Proofs.Tryz.func4 facts inst wrap
    (fun os started H enc _ => lifted os started H enc)
theorem proved : Rows.WorldNilSaid := over
#print axioms proved
end Go.Proofs.YtgekgcffmmbhbaaGreat.worldNil
