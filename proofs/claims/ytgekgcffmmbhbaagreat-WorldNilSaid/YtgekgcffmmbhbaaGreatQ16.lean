/- The pieces of the world's example. -/
import Derived.Test.YtgekgcffmmbhbaaGreatW1
import Derived.Test.YtgekgcffmmbhbaaGreatCtx
set_option maxRecDepth 100000
noncomputable section
namespace Go.Proofs.YtgekgcffmmbhbaaGreat.T
open Go Go.A
def lC : Code → Code
  | .seq a _ => a
  | c => c
def rC : Code → Code
  | .seq _ b => b
  | c => c
def bC : Code → Code
  | .block _ b => b
  | .loop b => b
  | c => c
noncomputable def callX : CallK := AEval X 57
/-! ### calm -/
noncomputable def b71 : Code := match Go.Proofs.Tryz.f71.body with
  | some c => c
  | none => .skip
noncomputable def o71 : Code := bC (bC (rC b71))
noncomputable def k71 : Code := bC (lC (rC (rC o71)))
noncomputable def g71 : Code := bC (bC (rC (rC k71)))
noncomputable def first71 : List Code := [lC b71, o71]
noncomputable def second71 : List Code := [lC o71, lC (rC o71), lC k71, lC (rC k71)]
def memoC : Memo := ⟨71, wca, wpn, wph, wcv, wqn, wqh⟩
def start71 : Go.A.St := (initEnv wca 0 .lf, memoC.pre)
noncomputable def tick71 : List Code := [lC b71, lC o71, lC (rC o71), lC k71, lC (rC k71)]
def memoF : Memo := ⟨71, wfa, wfpn, wfph, .tup [], wfqn, wfqh⟩
def memoG : Memo := ⟨71, wga, wgpn, wgph, .tup [], wgqn, wgqh⟩
def startF : Go.A.St := (initEnv wfa 0 .lf, memoF.pre)
def startG : Go.A.St := (initEnv wga 0 .lf, memoG.pre)
noncomputable def last71 (nx : Nat) (lh : List (Nat × Blk)) (s : Go.A.St) : Bool := match runF X callX 71 57 (.loop g71) s with
  | some (.exit 4, s6) => (match runs X callX 71 57 [rC (rC (rC o71))] s6 with
    | some s7 => (match runF X callX 71 57 (.loop o71) s7 with
      | some (.exit 0, s8) => Go.Proofs.Tryz.f71.results.toList.isEmpty && subSt [] nx lh (.lf, s8.2)
      | _ => false)
    | none => false)
  | _ => false
/-! ### two -/
noncomputable def b16 : Code := match Go.Proofs.Tryz.f16.body with
  | some c => c
  | none => .skip
noncomputable def t16 : Code := rC (rC (rC b16))
noncomputable def l16 : Code := lC t16
noncomputable def end16 : Code := rC t16
noncomputable def o16 : Code := bC (bC (rC l16))
noncomputable def callM (m : Memo) : CallK := fun f args h => if f = 21 then aCall X (memoCall m (AEval X 56)) 56 f args h else callX f args h
noncomputable def first16 : List Code := [lC b16, lC (rC b16), lC (rC (rC b16)), lC l16, o16, o16, o16, o16]
def memoT : Memo := ⟨16, [], 200, [], wtv, wtn, wth⟩
def isOne (v : V) : Option (List V) → Bool
  | some [u] => eqW v u
  | _ => false
noncomputable def last16 (s : Go.A.St) : Bool := match runF X (callM memoG) 16 57 (.loop o16) s with
  | some (.exit 0, s11) => (match runF X callX 16 57 end16 s11 with
    | some (.ret, s12) => isOne wtv (aRes X s12.1 s12.2 Go.Proofs.Tryz.f16.results.toList) && subSt [] wtn wth (.lf, s12.2)
    | _ => false)
  | _ => false
def isYesH : Option (V × H) → Bool
  | some (.sc (.bool true), _) => true
  | _ => false
end Go.Proofs.YtgekgcffmmbhbaaGreat.T
