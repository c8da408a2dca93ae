/- The pieces of the example's code. -/
import Derived.Test.YtgekgcffmmbhbaaGreatS7
import Derived.Test.YtgekgcffmmbhbaaGreatCtx
set_option maxRecDepth 100000
noncomputable section
namespace Go.Proofs.YtgekgcffmmbhbaaGreat.T
open Go Go.A
def lC : Code → Code
  | .seq a _ => a
  | c => c
def rC : Code → Code
  | .seq _ b => b
  | c => c
def bC : Code → Code
  | .block _ b => b
  | .loop b => b
  | c => c
noncomputable def b7 : Code := match Go.Proofs.Tryz.f7.body with
  | some c => c
  | none => .skip
noncomputable def t7 : Code := rC (rC (rC (rC b7)))
noncomputable def l7 : Code := lC t7
noncomputable def end7 : Code := rC t7
noncomputable def o7 : Code := bC (bC (rC l7))
noncomputable def k7 : Code := bC (lC (rC (rC o7)))
noncomputable def i7 : Code := bC (bC (rC (rC (rC k7))))
noncomputable def call7 : CallK := AEval X 57
noncomputable def first7 : List Code := [lC b7, lC (rC b7), lC (rC (rC b7)), lC (rC (rC (rC b7))), lC l7, o7]
noncomputable def second7 : List Code := [lC o7, lC (rC o7), lC k7, lC (rC k7), lC (rC (rC k7))]
def isYes : Option (List V) → Bool
  | some [.sc (.bool true)] => true
  | _ => false
noncomputable def last7 (s : Go.A.St) : Bool := match runF X call7 7 57 (.loop i7) s with
  | some (.exit 2, s6) => (match runs X call7 7 57 [rC (rC (rC o7))] s6 with
    | some s7 => (match runF X call7 7 57 (.loop o7) s7 with
      | some (.exit 0, s8) => (match runF X call7 7 57 end7 s8 with
        | some (.ret, s9) => isYes (aRes X s9.1 s9.2 Go.Proofs.Tryz.f7.results.toList)
        | _ => false)
      | _ => false)
    | none => false)
  | _ => false
end Go.Proofs.YtgekgcffmmbhbaaGreat.T
