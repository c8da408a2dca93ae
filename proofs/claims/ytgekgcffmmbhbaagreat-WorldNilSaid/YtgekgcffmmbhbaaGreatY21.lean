/- A nil world does nothing, and places that are none have nothing: the law's own run, by the bounds of its two numbers. -/
import Derived.Test.YtgekgcffmmbhbaaGreatG16
set_option maxRecDepth 100000
set_option linter.unusedVariables false
noncomputable section
namespace Go.Proofs.YtgekgcffmmbhbaaGreat.T
open Go Go.A
noncomputable def callW : CallK := aCall X (withShut callF 17 (.bool true)) 57
theorem callW_ok (o : Outer) : CallsOk Go.Proofs.Tryz.prog callW := aCall_ok ctx codes (withShut_ok (callF_ok o) rfl fixedShut21) 57
def opV (o0 o1 o2 o3 c0 c1 c2 c3 c4 c5 c6 c7 c8 c9 ca cb cc cd ce cf : Int) (t : V) : V := .agg [.sc (.int .i64 o0), .sc (.int .i64 o1), .sc (.int .i64 o2), .sc (.int .i64 o3), .agg [.sc (.int .u8 c0), .sc (.int .u8 c1), .sc (.int .u8 c2), .sc (.int .u8 c3), .sc (.int .u8 c4), .sc (.int .u8 c5), .sc (.int .u8 c6), .sc (.int .u8 c7), .sc (.int .u8 c8), .sc (.int .u8 c9), .sc (.int .u8 ca), .sc (.int .u8 cb), .sc (.int .u8 cc), .sc (.int .u8 cd), .sc (.int .u8 ce), .sc (.int .u8 cf)], t]
noncomputable def yes (a b : Int) (o0 o1 o2 o3 c0 c1 c2 c3 c4 c5 c6 c7 c8 c9 ca cb cc cd ce cf : Int) (t : V) : Bool := isYesH (callW 4 [opV o0 o1 o2 o3 c0 c1 c2 c3 c4 c5 c6 c7 c8 c9 ca cb cc cd ce cf t, .sc (.int .i64 a), .sc (.int .i64 b)] ⟨0, 0, .lf⟩)
theorem nmm (j k : Nat) (o0 o1 o2 o3 c0 c1 c2 c3 c4 c5 c6 c7 c8 c9 ca cb cc cd ce cf : Int) : yes (Int.negSucc j) (Int.negSucc k) o0 o1 o2 o3 c0 c1 c2 c3 c4 c5 c6 c7 c8 c9 ca cb cc cd ce cf (.nl true) = true := by kernel_rfl
theorem lmm (j k : Nat) (o0 o1 o2 o3 c0 c1 c2 c3 c4 c5 c6 c7 c8 c9 ca cb cc cd ce cf : Int) (l : List V) : yes (Int.negSucc j) (Int.negSucc k) o0 o1 o2 o3 c0 c1 c2 c3 c4 c5 c6 c7 c8 c9 ca cb cc cd ce cf (.list l) = true := by kernel_rfl
theorem nm0 (j k : Nat) (o0 o1 o2 o3 c0 c1 c2 c3 c4 c5 c6 c7 c8 c9 ca cb cc cd ce cf : Int) : yes (Int.negSucc j) (Int.ofNat 0) o0 o1 o2 o3 c0 c1 c2 c3 c4 c5 c6 c7 c8 c9 ca cb cc cd ce cf (.nl true) = true := by kernel_rfl
theorem lm0 (j k : Nat) (o0 o1 o2 o3 c0 c1 c2 c3 c4 c5 c6 c7 c8 c9 ca cb cc cd ce cf : Int) (l : List V) : yes (Int.negSucc j) (Int.ofNat 0) o0 o1 o2 o3 c0 c1 c2 c3 c4 c5 c6 c7 c8 c9 ca cb cc cd ce cf (.list l) = true := by kernel_rfl
theorem nm1 (j k : Nat) (o0 o1 o2 o3 c0 c1 c2 c3 c4 c5 c6 c7 c8 c9 ca cb cc cd ce cf : Int) : yes (Int.negSucc j) (Int.ofNat 1) o0 o1 o2 o3 c0 c1 c2 c3 c4 c5 c6 c7 c8 c9 ca cb cc cd ce cf (.nl true) = true := by kernel_rfl
theorem lm1 (j k : Nat) (o0 o1 o2 o3 c0 c1 c2 c3 c4 c5 c6 c7 c8 c9 ca cb cc cd ce cf : Int) (l : List V) : yes (Int.negSucc j) (Int.ofNat 1) o0 o1 o2 o3 c0 c1 c2 c3 c4 c5 c6 c7 c8 c9 ca cb cc cd ce cf (.list l) = true := by kernel_rfl
theorem nm2 (j k : Nat) (o0 o1 o2 o3 c0 c1 c2 c3 c4 c5 c6 c7 c8 c9 ca cb cc cd ce cf : Int) : yes (Int.negSucc j) (Int.ofNat 2) o0 o1 o2 o3 c0 c1 c2 c3 c4 c5 c6 c7 c8 c9 ca cb cc cd ce cf (.nl true) = true := by kernel_rfl
theorem lm2 (j k : Nat) (o0 o1 o2 o3 c0 c1 c2 c3 c4 c5 c6 c7 c8 c9 ca cb cc cd ce cf : Int) (l : List V) : yes (Int.negSucc j) (Int.ofNat 2) o0 o1 o2 o3 c0 c1 c2 c3 c4 c5 c6 c7 c8 c9 ca cb cc cd ce cf (.list l) = true := by kernel_rfl
theorem nmp (j k : Nat) (o0 o1 o2 o3 c0 c1 c2 c3 c4 c5 c6 c7 c8 c9 ca cb cc cd ce cf : Int) : yes (Int.negSucc j) (Int.ofNat (k + 3)) o0 o1 o2 o3 c0 c1 c2 c3 c4 c5 c6 c7 c8 c9 ca cb cc cd ce cf (.nl true) = true := by kernel_rfl
theorem lmp (j k : Nat) (o0 o1 o2 o3 c0 c1 c2 c3 c4 c5 c6 c7 c8 c9 ca cb cc cd ce cf : Int) (l : List V) : yes (Int.negSucc j) (Int.ofNat (k + 3)) o0 o1 o2 o3 c0 c1 c2 c3 c4 c5 c6 c7 c8 c9 ca cb cc cd ce cf (.list l) = true := by kernel_rfl
theorem n0m (j k : Nat) (o0 o1 o2 o3 c0 c1 c2 c3 c4 c5 c6 c7 c8 c9 ca cb cc cd ce cf : Int) : yes (Int.ofNat 0) (Int.negSucc k) o0 o1 o2 o3 c0 c1 c2 c3 c4 c5 c6 c7 c8 c9 ca cb cc cd ce cf (.nl true) = true := by kernel_rfl
theorem l0m (j k : Nat) (o0 o1 o2 o3 c0 c1 c2 c3 c4 c5 c6 c7 c8 c9 ca cb cc cd ce cf : Int) (l : List V) : yes (Int.ofNat 0) (Int.negSucc k) o0 o1 o2 o3 c0 c1 c2 c3 c4 c5 c6 c7 c8 c9 ca cb cc cd ce cf (.list l) = true := by kernel_rfl
theorem n00 (j k : Nat) (o0 o1 o2 o3 c0 c1 c2 c3 c4 c5 c6 c7 c8 c9 ca cb cc cd ce cf : Int) : yes (Int.ofNat 0) (Int.ofNat 0) o0 o1 o2 o3 c0 c1 c2 c3 c4 c5 c6 c7 c8 c9 ca cb cc cd ce cf (.nl true) = true := by kernel_rfl
theorem l00 (j k : Nat) (o0 o1 o2 o3 c0 c1 c2 c3 c4 c5 c6 c7 c8 c9 ca cb cc cd ce cf : Int) (l : List V) : yes (Int.ofNat 0) (Int.ofNat 0) o0 o1 o2 o3 c0 c1 c2 c3 c4 c5 c6 c7 c8 c9 ca cb cc cd ce cf (.list l) = true := by kernel_rfl
theorem n01 (j k : Nat) (o0 o1 o2 o3 c0 c1 c2 c3 c4 c5 c6 c7 c8 c9 ca cb cc cd ce cf : Int) : yes (Int.ofNat 0) (Int.ofNat 1) o0 o1 o2 o3 c0 c1 c2 c3 c4 c5 c6 c7 c8 c9 ca cb cc cd ce cf (.nl true) = true := by kernel_rfl
theorem l01 (j k : Nat) (o0 o1 o2 o3 c0 c1 c2 c3 c4 c5 c6 c7 c8 c9 ca cb cc cd ce cf : Int) (l : List V) : yes (Int.ofNat 0) (Int.ofNat 1) o0 o1 o2 o3 c0 c1 c2 c3 c4 c5 c6 c7 c8 c9 ca cb cc cd ce cf (.list l) = true := by kernel_rfl
theorem n02 (j k : Nat) (o0 o1 o2 o3 c0 c1 c2 c3 c4 c5 c6 c7 c8 c9 ca cb cc cd ce cf : Int) : yes (Int.ofNat 0) (Int.ofNat 2) o0 o1 o2 o3 c0 c1 c2 c3 c4 c5 c6 c7 c8 c9 ca cb cc cd ce cf (.nl true) = true := by kernel_rfl
theorem l02 (j k : Nat) (o0 o1 o2 o3 c0 c1 c2 c3 c4 c5 c6 c7 c8 c9 ca cb cc cd ce cf : Int) (l : List V) : yes (Int.ofNat 0) (Int.ofNat 2) o0 o1 o2 o3 c0 c1 c2 c3 c4 c5 c6 c7 c8 c9 ca cb cc cd ce cf (.list l) = true := by kernel_rfl
theorem n0p (j k : Nat) (o0 o1 o2 o3 c0 c1 c2 c3 c4 c5 c6 c7 c8 c9 ca cb cc cd ce cf : Int) : yes (Int.ofNat 0) (Int.ofNat (k + 3)) o0 o1 o2 o3 c0 c1 c2 c3 c4 c5 c6 c7 c8 c9 ca cb cc cd ce cf (.nl true) = true := by kernel_rfl
theorem l0p (j k : Nat) (o0 o1 o2 o3 c0 c1 c2 c3 c4 c5 c6 c7 c8 c9 ca cb cc cd ce cf : Int) (l : List V) : yes (Int.ofNat 0) (Int.ofNat (k + 3)) o0 o1 o2 o3 c0 c1 c2 c3 c4 c5 c6 c7 c8 c9 ca cb cc cd ce cf (.list l) = true := by kernel_rfl
theorem n1m (j k : Nat) (o0 o1 o2 o3 c0 c1 c2 c3 c4 c5 c6 c7 c8 c9 ca cb cc cd ce cf : Int) : yes (Int.ofNat 1) (Int.negSucc k) o0 o1 o2 o3 c0 c1 c2 c3 c4 c5 c6 c7 c8 c9 ca cb cc cd ce cf (.nl true) = true := by kernel_rfl
theorem l1m (j k : Nat) (o0 o1 o2 o3 c0 c1 c2 c3 c4 c5 c6 c7 c8 c9 ca cb cc cd ce cf : Int) (l : List V) : yes (Int.ofNat 1) (Int.negSucc k) o0 o1 o2 o3 c0 c1 c2 c3 c4 c5 c6 c7 c8 c9 ca cb cc cd ce cf (.list l) = true := by kernel_rfl
theorem n10 (j k : Nat) (o0 o1 o2 o3 c0 c1 c2 c3 c4 c5 c6 c7 c8 c9 ca cb cc cd ce cf : Int) : yes (Int.ofNat 1) (Int.ofNat 0) o0 o1 o2 o3 c0 c1 c2 c3 c4 c5 c6 c7 c8 c9 ca cb cc cd ce cf (.nl true) = true := by kernel_rfl
theorem l10 (j k : Nat) (o0 o1 o2 o3 c0 c1 c2 c3 c4 c5 c6 c7 c8 c9 ca cb cc cd ce cf : Int) (l : List V) : yes (Int.ofNat 1) (Int.ofNat 0) o0 o1 o2 o3 c0 c1 c2 c3 c4 c5 c6 c7 c8 c9 ca cb cc cd ce cf (.list l) = true := by kernel_rfl
theorem n11 (j k : Nat) (o0 o1 o2 o3 c0 c1 c2 c3 c4 c5 c6 c7 c8 c9 ca cb cc cd ce cf : Int) : yes (Int.ofNat 1) (Int.ofNat 1) o0 o1 o2 o3 c0 c1 c2 c3 c4 c5 c6 c7 c8 c9 ca cb cc cd ce cf (.nl true) = true := by kernel_rfl
theorem l11 (j k : Nat) (o0 o1 o2 o3 c0 c1 c2 c3 c4 c5 c6 c7 c8 c9 ca cb cc cd ce cf : Int) (l : List V) : yes (Int.ofNat 1) (Int.ofNat 1) o0 o1 o2 o3 c0 c1 c2 c3 c4 c5 c6 c7 c8 c9 ca cb cc cd ce cf (.list l) = true := by kernel_rfl
theorem n12 (j k : Nat) (o0 o1 o2 o3 c0 c1 c2 c3 c4 c5 c6 c7 c8 c9 ca cb cc cd ce cf : Int) : yes (Int.ofNat 1) (Int.ofNat 2) o0 o1 o2 o3 c0 c1 c2 c3 c4 c5 c6 c7 c8 c9 ca cb cc cd ce cf (.nl true) = true := by kernel_rfl
theorem l12 (j k : Nat) (o0 o1 o2 o3 c0 c1 c2 c3 c4 c5 c6 c7 c8 c9 ca cb cc cd ce cf : Int) (l : List V) : yes (Int.ofNat 1) (Int.ofNat 2) o0 o1 o2 o3 c0 c1 c2 c3 c4 c5 c6 c7 c8 c9 ca cb cc cd ce cf (.list l) = true := by kernel_rfl
theorem n1p (j k : Nat) (o0 o1 o2 o3 c0 c1 c2 c3 c4 c5 c6 c7 c8 c9 ca cb cc cd ce cf : Int) : yes (Int.ofNat 1) (Int.ofNat (k + 3)) o0 o1 o2 o3 c0 c1 c2 c3 c4 c5 c6 c7 c8 c9 ca cb cc cd ce cf (.nl true) = true := by kernel_rfl
theorem l1p (j k : Nat) (o0 o1 o2 o3 c0 c1 c2 c3 c4 c5 c6 c7 c8 c9 ca cb cc cd ce cf : Int) (l : List V) : yes (Int.ofNat 1) (Int.ofNat (k + 3)) o0 o1 o2 o3 c0 c1 c2 c3 c4 c5 c6 c7 c8 c9 ca cb cc cd ce cf (.list l) = true := by kernel_rfl
theorem n2m (j k : Nat) (o0 o1 o2 o3 c0 c1 c2 c3 c4 c5 c6 c7 c8 c9 ca cb cc cd ce cf : Int) : yes (Int.ofNat 2) (Int.negSucc k) o0 o1 o2 o3 c0 c1 c2 c3 c4 c5 c6 c7 c8 c9 ca cb cc cd ce cf (.nl true) = true := by kernel_rfl
theorem l2m (j k : Nat) (o0 o1 o2 o3 c0 c1 c2 c3 c4 c5 c6 c7 c8 c9 ca cb cc cd ce cf : Int) (l : List V) : yes (Int.ofNat 2) (Int.negSucc k) o0 o1 o2 o3 c0 c1 c2 c3 c4 c5 c6 c7 c8 c9 ca cb cc cd ce cf (.list l) = true := by kernel_rfl
theorem n20 (j k : Nat) (o0 o1 o2 o3 c0 c1 c2 c3 c4 c5 c6 c7 c8 c9 ca cb cc cd ce cf : Int) : yes (Int.ofNat 2) (Int.ofNat 0) o0 o1 o2 o3 c0 c1 c2 c3 c4 c5 c6 c7 c8 c9 ca cb cc cd ce cf (.nl true) = true := by kernel_rfl
theorem l20 (j k : Nat) (o0 o1 o2 o3 c0 c1 c2 c3 c4 c5 c6 c7 c8 c9 ca cb cc cd ce cf : Int) (l : List V) : yes (Int.ofNat 2) (Int.ofNat 0) o0 o1 o2 o3 c0 c1 c2 c3 c4 c5 c6 c7 c8 c9 ca cb cc cd ce cf (.list l) = true := by kernel_rfl
theorem n21 (j k : Nat) (o0 o1 o2 o3 c0 c1 c2 c3 c4 c5 c6 c7 c8 c9 ca cb cc cd ce cf : Int) : yes (Int.ofNat 2) (Int.ofNat 1) o0 o1 o2 o3 c0 c1 c2 c3 c4 c5 c6 c7 c8 c9 ca cb cc cd ce cf (.nl true) = true := by kernel_rfl
theorem l21 (j k : Nat) (o0 o1 o2 o3 c0 c1 c2 c3 c4 c5 c6 c7 c8 c9 ca cb cc cd ce cf : Int) (l : List V) : yes (Int.ofNat 2) (Int.ofNat 1) o0 o1 o2 o3 c0 c1 c2 c3 c4 c5 c6 c7 c8 c9 ca cb cc cd ce cf (.list l) = true := by kernel_rfl
theorem n22 (j k : Nat) (o0 o1 o2 o3 c0 c1 c2 c3 c4 c5 c6 c7 c8 c9 ca cb cc cd ce cf : Int) : yes (Int.ofNat 2) (Int.ofNat 2) o0 o1 o2 o3 c0 c1 c2 c3 c4 c5 c6 c7 c8 c9 ca cb cc cd ce cf (.nl true) = true := by kernel_rfl
theorem l22 (j k : Nat) (o0 o1 o2 o3 c0 c1 c2 c3 c4 c5 c6 c7 c8 c9 ca cb cc cd ce cf : Int) (l : List V) : yes (Int.ofNat 2) (Int.ofNat 2) o0 o1 o2 o3 c0 c1 c2 c3 c4 c5 c6 c7 c8 c9 ca cb cc cd ce cf (.list l) = true := by kernel_rfl
theorem n2p (j k : Nat) (o0 o1 o2 o3 c0 c1 c2 c3 c4 c5 c6 c7 c8 c9 ca cb cc cd ce cf : Int) : yes (Int.ofNat 2) (Int.ofNat (k + 3)) o0 o1 o2 o3 c0 c1 c2 c3 c4 c5 c6 c7 c8 c9 ca cb cc cd ce cf (.nl true) = true := by kernel_rfl
theorem l2p (j k : Nat) (o0 o1 o2 o3 c0 c1 c2 c3 c4 c5 c6 c7 c8 c9 ca cb cc cd ce cf : Int) (l : List V) : yes (Int.ofNat 2) (Int.ofNat (k + 3)) o0 o1 o2 o3 c0 c1 c2 c3 c4 c5 c6 c7 c8 c9 ca cb cc cd ce cf (.list l) = true := by kernel_rfl
theorem npm (j k : Nat) (o0 o1 o2 o3 c0 c1 c2 c3 c4 c5 c6 c7 c8 c9 ca cb cc cd ce cf : Int) : yes (Int.ofNat (j + 3)) (Int.negSucc k) o0 o1 o2 o3 c0 c1 c2 c3 c4 c5 c6 c7 c8 c9 ca cb cc cd ce cf (.nl true) = true := by kernel_rfl
theorem lpm (j k : Nat) (o0 o1 o2 o3 c0 c1 c2 c3 c4 c5 c6 c7 c8 c9 ca cb cc cd ce cf : Int) (l : List V) : yes (Int.ofNat (j + 3)) (Int.negSucc k) o0 o1 o2 o3 c0 c1 c2 c3 c4 c5 c6 c7 c8 c9 ca cb cc cd ce cf (.list l) = true := by kernel_rfl
theorem np0 (j k : Nat) (o0 o1 o2 o3 c0 c1 c2 c3 c4 c5 c6 c7 c8 c9 ca cb cc cd ce cf : Int) : yes (Int.ofNat (j + 3)) (Int.ofNat 0) o0 o1 o2 o3 c0 c1 c2 c3 c4 c5 c6 c7 c8 c9 ca cb cc cd ce cf (.nl true) = true := by kernel_rfl
theorem lp0 (j k : Nat) (o0 o1 o2 o3 c0 c1 c2 c3 c4 c5 c6 c7 c8 c9 ca cb cc cd ce cf : Int) (l : List V) : yes (Int.ofNat (j + 3)) (Int.ofNat 0) o0 o1 o2 o3 c0 c1 c2 c3 c4 c5 c6 c7 c8 c9 ca cb cc cd ce cf (.list l) = true := by kernel_rfl
theorem np1 (j k : Nat) (o0 o1 o2 o3 c0 c1 c2 c3 c4 c5 c6 c7 c8 c9 ca cb cc cd ce cf : Int) : yes (Int.ofNat (j + 3)) (Int.ofNat 1) o0 o1 o2 o3 c0 c1 c2 c3 c4 c5 c6 c7 c8 c9 ca cb cc cd ce cf (.nl true) = true := by kernel_rfl
theorem lp1 (j k : Nat) (o0 o1 o2 o3 c0 c1 c2 c3 c4 c5 c6 c7 c8 c9 ca cb cc cd ce cf : Int) (l : List V) : yes (Int.ofNat (j + 3)) (Int.ofNat 1) o0 o1 o2 o3 c0 c1 c2 c3 c4 c5 c6 c7 c8 c9 ca cb cc cd ce cf (.list l) = true := by kernel_rfl
theorem np2 (j k : Nat) (o0 o1 o2 o3 c0 c1 c2 c3 c4 c5 c6 c7 c8 c9 ca cb cc cd ce cf : Int) : yes (Int.ofNat (j + 3)) (Int.ofNat 2) o0 o1 o2 o3 c0 c1 c2 c3 c4 c5 c6 c7 c8 c9 ca cb cc cd ce cf (.nl true) = true := by kernel_rfl
theorem lp2 (j k : Nat) (o0 o1 o2 o3 c0 c1 c2 c3 c4 c5 c6 c7 c8 c9 ca cb cc cd ce cf : Int) (l : List V) : yes (Int.ofNat (j + 3)) (Int.ofNat 2) o0 o1 o2 o3 c0 c1 c2 c3 c4 c5 c6 c7 c8 c9 ca cb cc cd ce cf (.list l) = true := by kernel_rfl
theorem npp (j k : Nat) (o0 o1 o2 o3 c0 c1 c2 c3 c4 c5 c6 c7 c8 c9 ca cb cc cd ce cf : Int) : yes (Int.ofNat (j + 3)) (Int.ofNat (k + 3)) o0 o1 o2 o3 c0 c1 c2 c3 c4 c5 c6 c7 c8 c9 ca cb cc cd ce cf (.nl true) = true := by kernel_rfl
theorem lpp (j k : Nat) (o0 o1 o2 o3 c0 c1 c2 c3 c4 c5 c6 c7 c8 c9 ca cb cc cd ce cf : Int) (l : List V) : yes (Int.ofNat (j + 3)) (Int.ofNat (k + 3)) o0 o1 o2 o3 c0 c1 c2 c3 c4 c5 c6 c7 c8 c9 ca cb cc cd ce cf (.list l) = true := by kernel_rfl
theorem five (a : Int) : (∃ j, a = .negSucc j) ∨ a = .ofNat 0 ∨ a = .ofNat 1 ∨ a = .ofNat 2 ∨ ∃ j, a = .ofNat (j + 3) := by
  match a with
  | .negSucc j => exact .inl ⟨j, rfl⟩
  | .ofNat 0 => exact .inr (.inl rfl)
  | .ofNat 1 => exact .inr (.inr (.inl rfl))
  | .ofNat 2 => exact .inr (.inr (.inr (.inl rfl)))
  | .ofNat (j + 3) => exact .inr (.inr (.inr (.inr ⟨j, rfl⟩)))
theorem yesN (a b o0 o1 o2 o3 c0 c1 c2 c3 c4 c5 c6 c7 c8 c9 ca cb cc cd ce cf : Int) : yes a b o0 o1 o2 o3 c0 c1 c2 c3 c4 c5 c6 c7 c8 c9 ca cb cc cd ce cf (.nl true) = true := by
  rcases five a with ⟨j, rfl⟩ | rfl | rfl | rfl | ⟨j, rfl⟩ <;> rcases five b with ⟨k, rfl⟩ | rfl | rfl | rfl | ⟨k, rfl⟩
  · exact nmm j k _ _ _ _ _ _ _ _ _ _ _ _ _ _ _ _ _ _ _ _
  · exact nm0 j 0 _ _ _ _ _ _ _ _ _ _ _ _ _ _ _ _ _ _ _ _
  · exact nm1 j 0 _ _ _ _ _ _ _ _ _ _ _ _ _ _ _ _ _ _ _ _
  · exact nm2 j 0 _ _ _ _ _ _ _ _ _ _ _ _ _ _ _ _ _ _ _ _
  · exact nmp j k _ _ _ _ _ _ _ _ _ _ _ _ _ _ _ _ _ _ _ _
  · exact n0m 0 k _ _ _ _ _ _ _ _ _ _ _ _ _ _ _ _ _ _ _ _
  · exact n00 0 0 _ _ _ _ _ _ _ _ _ _ _ _ _ _ _ _ _ _ _ _
  · exact n01 0 0 _ _ _ _ _ _ _ _ _ _ _ _ _ _ _ _ _ _ _ _
  · exact n02 0 0 _ _ _ _ _ _ _ _ _ _ _ _ _ _ _ _ _ _ _ _
  · exact n0p 0 k _ _ _ _ _ _ _ _ _ _ _ _ _ _ _ _ _ _ _ _
  · exact n1m 0 k _ _ _ _ _ _ _ _ _ _ _ _ _ _ _ _ _ _ _ _
  · exact n10 0 0 _ _ _ _ _ _ _ _ _ _ _ _ _ _ _ _ _ _ _ _
  · exact n11 0 0 _ _ _ _ _ _ _ _ _ _ _ _ _ _ _ _ _ _ _ _
  · exact n12 0 0 _ _ _ _ _ _ _ _ _ _ _ _ _ _ _ _ _ _ _ _
  · exact n1p 0 k _ _ _ _ _ _ _ _ _ _ _ _ _ _ _ _ _ _ _ _
  · exact n2m 0 k _ _ _ _ _ _ _ _ _ _ _ _ _ _ _ _ _ _ _ _
  · exact n20 0 0 _ _ _ _ _ _ _ _ _ _ _ _ _ _ _ _ _ _ _ _
  · exact n21 0 0 _ _ _ _ _ _ _ _ _ _ _ _ _ _ _ _ _ _ _ _
  · exact n22 0 0 _ _ _ _ _ _ _ _ _ _ _ _ _ _ _ _ _ _ _ _
  · exact n2p 0 k _ _ _ _ _ _ _ _ _ _ _ _ _ _ _ _ _ _ _ _
  · exact npm j k _ _ _ _ _ _ _ _ _ _ _ _ _ _ _ _ _ _ _ _
  · exact np0 j 0 _ _ _ _ _ _ _ _ _ _ _ _ _ _ _ _ _ _ _ _
  · exact np1 j 0 _ _ _ _ _ _ _ _ _ _ _ _ _ _ _ _ _ _ _ _
  · exact np2 j 0 _ _ _ _ _ _ _ _ _ _ _ _ _ _ _ _ _ _ _ _
  · exact npp j k _ _ _ _ _ _ _ _ _ _ _ _ _ _ _ _ _ _ _ _
theorem yesL (a b o0 o1 o2 o3 c0 c1 c2 c3 c4 c5 c6 c7 c8 c9 ca cb cc cd ce cf : Int) (l : List V) : yes a b o0 o1 o2 o3 c0 c1 c2 c3 c4 c5 c6 c7 c8 c9 ca cb cc cd ce cf (.list l) = true := by
  rcases five a with ⟨j, rfl⟩ | rfl | rfl | rfl | ⟨j, rfl⟩ <;> rcases five b with ⟨k, rfl⟩ | rfl | rfl | rfl | ⟨k, rfl⟩
  · exact lmm j k _ _ _ _ _ _ _ _ _ _ _ _ _ _ _ _ _ _ _ _ _
  · exact lm0 j 0 _ _ _ _ _ _ _ _ _ _ _ _ _ _ _ _ _ _ _ _ _
  · exact lm1 j 0 _ _ _ _ _ _ _ _ _ _ _ _ _ _ _ _ _ _ _ _ _
  · exact lm2 j 0 _ _ _ _ _ _ _ _ _ _ _ _ _ _ _ _ _ _ _ _ _
  · exact lmp j k _ _ _ _ _ _ _ _ _ _ _ _ _ _ _ _ _ _ _ _ _
  · exact l0m 0 k _ _ _ _ _ _ _ _ _ _ _ _ _ _ _ _ _ _ _ _ _
  · exact l00 0 0 _ _ _ _ _ _ _ _ _ _ _ _ _ _ _ _ _ _ _ _ _
  · exact l01 0 0 _ _ _ _ _ _ _ _ _ _ _ _ _ _ _ _ _ _ _ _ _
  · exact l02 0 0 _ _ _ _ _ _ _ _ _ _ _ _ _ _ _ _ _ _ _ _ _
  · exact l0p 0 k _ _ _ _ _ _ _ _ _ _ _ _ _ _ _ _ _ _ _ _ _
  · exact l1m 0 k _ _ _ _ _ _ _ _ _ _ _ _ _ _ _ _ _ _ _ _ _
  · exact l10 0 0 _ _ _ _ _ _ _ _ _ _ _ _ _ _ _ _ _ _ _ _ _
  · exact l11 0 0 _ _ _ _ _ _ _ _ _ _ _ _ _ _ _ _ _ _ _ _ _
  · exact l12 0 0 _ _ _ _ _ _ _ _ _ _ _ _ _ _ _ _ _ _ _ _ _
  · exact l1p 0 k _ _ _ _ _ _ _ _ _ _ _ _ _ _ _ _ _ _ _ _ _
  · exact l2m 0 k _ _ _ _ _ _ _ _ _ _ _ _ _ _ _ _ _ _ _ _ _
  · exact l20 0 0 _ _ _ _ _ _ _ _ _ _ _ _ _ _ _ _ _ _ _ _ _
  · exact l21 0 0 _ _ _ _ _ _ _ _ _ _ _ _ _ _ _ _ _ _ _ _ _
  · exact l22 0 0 _ _ _ _ _ _ _ _ _ _ _ _ _ _ _ _ _ _ _ _ _
  · exact l2p 0 k _ _ _ _ _ _ _ _ _ _ _ _ _ _ _ _ _ _ _ _ _
  · exact lpm j k _ _ _ _ _ _ _ _ _ _ _ _ _ _ _ _ _ _ _ _ _
  · exact lp0 j 0 _ _ _ _ _ _ _ _ _ _ _ _ _ _ _ _ _ _ _ _ _
  · exact lp1 j 0 _ _ _ _ _ _ _ _ _ _ _ _ _ _ _ _ _ _ _ _ _
  · exact lp2 j 0 _ _ _ _ _ _ _ _ _ _ _ _ _ _ _ _ _ _ _ _ _
  · exact lpp j k _ _ _ _ _ _ _ _ _ _ _ _ _ _ _ _ _ _ _ _ _
theorem yesAll (a b o0 o1 o2 o3 c0 c1 c2 c3 c4 c5 c6 c7 c8 c9 ca cb cc cd ce cf : Int) (t : V) (ht : t = .nl true ∨ ∃ l, t = .list l) : yes a b o0 o1 o2 o3 c0 c1 c2 c3 c4 c5 c6 c7 c8 c9 ca cb cc cd ce cf t = true := by
  rcases ht with rfl | ⟨l, rfl⟩
  · exact yesN _ _ _ _ _ _ _ _ _ _ _ _ _ _ _ _ _ _ _ _ _ _
  · exact yesL _ _ _ _ _ _ _ _ _ _ _ _ _ _ _ _ _ _ _ _ _ _ _
end Go.Proofs.YtgekgcffmmbhbaaGreat.T
