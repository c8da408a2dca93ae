/- A nil node is down, and tells nothing: NodeNil answers true at every input, and leaves what came in as it was. -/
import Derived.Test.YtgekgcffmmbhbaaGreatRows
import Derived.Test.YtgekgcffmmbhbaaGreatG7
import Derived.Test.YtgekgcffmmbhbaaGreatA37
import Derived.WalkKit
import Derived.ProofKit
import Derived.OpenShut
import Derived.JoinedCond
set_option maxRecDepth 100000
set_option linter.unusedVariables false
noncomputable section
namespace Go.Proofs.YtgekgcffmmbhbaaGreat.nodeNil
open Go Go.A Go.ChangeShapes Go.WideShapes Go.ChangeAt Go.RowKit Go.Proofs.YtgekgcffmmbhbaaGreat.T
def isT (r : Option (V × H)) : Bool := match r with
  | some (.sc (.bool true), _) => true
  | _ => false
theorem isT_inv {r : Option (V × H)} (h : isT r = true) : ∃ h', r = some (.sc (.bool true), h') := by
  unfold isT at h
  split at h
  · rename_i h'; exact ⟨h', rfl⟩
  · cases h
noncomputable def callN : CallK := aCall X (withShut (AEval X 57) 7 (.bool true)) 57
theorem callN_ok (_ : Outer) : CallsOk Go.Proofs.Tryz.prog callN := aCall_ok ctx codes (withShut_ok (sound 57) rfl fixedShut) 57
theorem run1 (n c0 c1 c2 c3 c4 c5 c6 c7 c8 c9 ca cb cc cd ce cf : Int) : isT (callN 3 [.sc (.int .i64 n), .nl true, .agg [.sc (.int .u8 c0), .sc (.int .u8 c1), .sc (.int .u8 c2), .sc (.int .u8 c3), .sc (.int .u8 c4), .sc (.int .u8 c5), .sc (.int .u8 c6), .sc (.int .u8 c7), .sc (.int .u8 c8), .sc (.int .u8 c9), .sc (.int .u8 ca), .sc (.int .u8 cb), .sc (.int .u8 cc), .sc (.int .u8 cd), .sc (.int .u8 ce), .sc (.int .u8 cf)]] ⟨0, 0, .lf⟩) = true := by kernel_rfl
theorem run2 (n : Int) (b : List V) (c0 c1 c2 c3 c4 c5 c6 c7 c8 c9 ca cb cc cd ce cf : Int) : isT (callN 3 [.sc (.int .i64 n), .list b, .agg [.sc (.int .u8 c0), .sc (.int .u8 c1), .sc (.int .u8 c2), .sc (.int .u8 c3), .sc (.int .u8 c4), .sc (.int .u8 c5), .sc (.int .u8 c6), .sc (.int .u8 c7), .sc (.int .u8 c8), .sc (.int .u8 c9), .sc (.int .u8 ca), .sc (.int .u8 cb), .sc (.int .u8 cc), .sc (.int .u8 cd), .sc (.int .u8 ce), .sc (.int .u8 cf)]] ⟨0, 0, .lf⟩) = true := by kernel_rfl
theorem sixteen {zs : List Int} (h : zs.length = 16) : ∃ c0 c1 c2 c3 c4 c5 c6 c7 c8 c9 ca cb cc cd ce cf, zs = [c0, c1, c2, c3, c4, c5, c6, c7, c8, c9, ca, cb, cc, cd, ce, cf] := by
  match zs, h with
  | [c0, c1, c2, c3, c4, c5, c6, c7, c8, c9, ca, cb, cc, cd, ce, cf], _ => exact ⟨_, _, _, _, _, _, _, _, _, _, _, _, _, _, _, _, rfl⟩
theorem relV_cons {F : Frz} {ρ : Ren} {v : V} {x : Value} {vs : List V} {xs : List Value} (h : RelV F ρ v x) (hs : RelTs F ρ vs xs) : RelTs F ρ (v :: vs) (x :: xs) := by
  obtain ⟨cs, hr, rfl⟩ := h
  exact .cons hr hs
theorem own : ownKnob Go.Proofs.Tryz.prog.godebug = none := by kernel_rfl
theorem cells5 : Go.Proofs.Tryz.prog.cellsOf 5 = 1 := by kernel_rfl
theorem cells24 : Go.Proofs.Tryz.prog.cellsOf 24 = 16 := by kernel_rfl
theorem posParams : ∀ t ∈ Go.Proofs.Tryz.f3.params.toList, posT Go.Proofs.Tryz.prog 20 t = true := by
  rw [Go.Proofs.Tryz.params3]
  have : ([3, 22, 24].all fun t => posT Go.Proofs.Tryz.prog 20 t) = true := by kernel_rfl
  exact fun t ht => List.all_eq_true.1 this t ht
theorem contract (H : Type) (enc : TypeId × Value → H) (W : World) (base : Nat) (args : Array Value) (ds gs : List (DataW H)) (before : List MemPlace)
    (hval : ∀ (j : Nat) t v, Go.Proofs.Tryz.f3.params[j]? = some t → args[j]? = some v → Value.okWide Go.Proofs.Tryz.prog W .any base t v)
    (hW : DataW.Whole enc Go.Proofs.Tryz.prog Go.Proofs.Tryz.f3.params.toList Rows.nodeNilSpec.vars false W args.toList ds gs before) :
    Calls Go.Proofs.Tryz.prog 3 args W fun e W' => ∃ v, e = .returned v ∧ Rows.nodeNilSpec.post enc Go.Proofs.Tryz.prog Go.Proofs.Tryz.f3 false true false false W args v W' := by
  have hW' := hW
  obtain ⟨p, q, hA0, hV, rfl, hfz, hnd⟩ := hW
  have hA : DataW.TrodAll enc Go.Proofs.Tryz.prog W 0 (fun _ => true) true Go.Proofs.Tryz.f3.params.toList args.toList ds p := hA0
  rw [Go.Proofs.Tryz.params3] at hA hval
  obtain ⟨v0, vs0, d0, ds0, p0, q0, hargs, rfl, rfl, h0, r0⟩ := trodAll_cons hA
  obtain ⟨v1, vs1, d1, ds1, p1, q1, rfl, rfl, rfl, h1, r1⟩ := trodAll_cons r0
  obtain ⟨v2, vs2, d2, ds2, p2, q2, rfl, rfl, rfl, h2, r2⟩ := trodAll_cons r1
  obtain ⟨rfl, rfl, rfl⟩ := trodAll_nil r2
  obtain rfl : args = #[v0, v1, v2] := by apply Array.ext'; simpa using hargs
  obtain ⟨n, rfl, _, _, g0⟩ := int_rel Go.Proofs.Tryz.underlying3 (hval 0 3 _ rfl rfl) h0 (allF W) ρ0
  obtain ⟨zs, hz, _, _, g2⟩ := array_rel Go.Proofs.Tryz.underlying24 Go.Proofs.Tryz.underlying5 cells5 cells24 (hval 2 24 v2 rfl rfl) h2 (allF W) ρ0
  obtain ⟨c0, c1, c2, c3, c4, c5, c6, c7, c8, c9, ca, cb, cc, cd, ce, cf, rfl⟩ := sixteen hz
  have fin : Calls Go.Proofs.Tryz.prog 3 #[.int .i64 n, v1, v2] W fun e w' => e = .returned (.bool true) ∧ SameIo W w' ∧ ∀ i, i < W.heap.size → w'.heap[i]? = W.heap[i]? := by
    rcases slice_rel Go.Proofs.Tryz.underlying22 Go.Proofs.Tryz.underlying5 cells5 (hval 1 22 v1 rfl rfl) h1 with ⟨_, _, g1⟩ | ⟨xs, sp, _, _, _, g1⟩
    · obtain ⟨h', he⟩ := isT_inv (run1 n c0 c1 c2 c3 c4 c5 c6 c7 c8 c9 ca cb cc cd ce cf)
      exact calls_true callN_ok he (relV_cons g0 (relV_cons g1 (relV_cons g2 .nil)))
    · obtain ⟨h', he⟩ := isT_inv (run2 n (xs.map fun n => V.sc (.int .u8 n)) c0 c1 c2 c3 c4 c5 c6 c7 c8 c9 ca cb cc cd ce cf)
      exact calls_true callN_ok he (relV_cons g0 (relV_cons g1 (relV_cons g2 .nil)))
  refine fin.mono ?_
  rintro e W' ⟨rfl, hio, hh⟩
  exact ⟨_, rfl, post_true (tb := 4) posParams hW' rfl (by kernel_rfl) Go.Proofs.Tryz.underlying4 rfl hio hh⟩
theorem lifted (os : Os) (started : os.Started) (H : Type) (enc : TypeId × Value → H) :
    ReturnsInHanded {} Go.Proofs.Tryz.checked os 3 .any (Rows.nodeNilSpec.pre6 enc Go.Proofs.Tryz.prog Go.Proofs.Tryz.f3 Rows.nodeNilRow.domain false) (Rows.nodeNilSpec.post enc Go.Proofs.Tryz.prog Go.Proofs.Tryz.f3 false true false false) := by
  refine returnsInHanded_of_change (C := Go.Proofs.Tryz.checked) (s := Rows.nodeNilSpec) own started (by kernel_rfl) Go.Proofs.Tryz.func3
    (ChangeSpec.witness6 (enc := enc) (C := Go.Proofs.Tryz.checked) (s := Rows.nodeNilSpec) false ⟨#[], #[.int .i64 0, .slice none 0 0, .agg #[.int .u8 0, .int .u8 0, .int .u8 0, .int .u8 0, .int .u8 0, .int .u8 0, .int .u8 0, .int .u8 0, .int .u8 0, .int .u8 0, .int .u8 0, .int .u8 0, .int .u8 0, .int .u8 0, .int .u8 0, .int .u8 0]], []⟩ 8 (by kernel_rfl) (by kernel_rfl) (by kernel_rfl) (by kernel_rfl)) ?_
  intro W base args ds gs before hval hW _ _
  exact contract H enc W base args ds gs before hval hW
end Go.Proofs.YtgekgcffmmbhbaaGreat.nodeNil
