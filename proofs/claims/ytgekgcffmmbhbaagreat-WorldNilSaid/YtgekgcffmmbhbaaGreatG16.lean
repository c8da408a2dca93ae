/- The world's example: whatever memory it is called in, it makes a world as told; the law's own example answers true. -/
import Derived.Test.YtgekgcffmmbhbaaGreatC1
import Derived.Test.YtgekgcffmmbhbaaGreatC2
import Derived.Test.YtgekgcffmmbhbaaGreatC3
import Derived.Test.YtgekgcffmmbhbaaGreatC4
import Derived.Test.YtgekgcffmmbhbaaGreatF1
import Derived.Test.YtgekgcffmmbhbaaGreatF2
import Derived.Test.YtgekgcffmmbhbaaGreatE1
import Derived.Test.YtgekgcffmmbhbaaGreatE2
import Derived.Test.YtgekgcffmmbhbaaGreatE3
import Derived.Test.YtgekgcffmmbhbaaGreatD1
set_option maxRecDepth 100000
set_option linter.unusedVariables false
noncomputable section
namespace Go.Proofs.YtgekgcffmmbhbaaGreat.T
open Go Go.A
theorem last71_inv {nx : Nat} {lh : List (Nat × Blk)} {s : Go.A.St} (h : last71 nx lh s = true) : ∃ s6 s7 s8, runF X callX 71 57 (.loop g71) s = some (.exit 4, s6) ∧ runs X callX 71 57 [rC (rC (rC o71))] s6 = some s7 ∧ runF X callX 71 57 (.loop o71) s7 = some (.exit 0, s8) ∧ Go.Proofs.Tryz.f71.results.toList = [] ∧ subSt [] nx lh (.lf, s8.2) = true := by
  unfold last71 at h
  split at h
  · rename_i s6 h6
    split at h
    · rename_i s7 h7
      split at h
      · rename_i s8 h8
        simp only [Bool.and_eq_true, List.isEmpty_iff] at h
        exact ⟨s6, s7, s8, h6, h7, h8, h.1, h.2⟩
      · cases h
    · cases h
  · cases h
theorem last16_inv {s : Go.A.St} (h : last16 s = true) : ∃ s11 s12, runF X (callM memoG) 16 57 (.loop o16) s = some (.exit 0, s11) ∧ runF X callX 16 57 end16 s11 = some (.ret, s12) ∧ aRes X s12.1 s12.2 Go.Proofs.Tryz.f16.results.toList = some [wtv] ∧ subSt [] wtn wth (.lf, s12.2) = true := by
  unfold last16 at h
  split at h
  · rename_i s11 h11
    split at h
    · rename_i s12 h12
      simp only [Bool.and_eq_true] at h
      refine ⟨s11, s12, h11, h12, ?_, h.2⟩
      have h1 := h.1
      unfold isOne at h1
      split at h1
      · rename_i u hu; rw [hu, eqW_eq h1]
      · cases h1
    · cases h
  · cases h
theorem isYesH_inv {r : Option (V × H)} (h : isYesH r = true) : ∃ h', r = some (.sc (.bool true), h') := by
  unfold isYesH at h
  split at h
  · rename_i h'; exact ⟨h', rfl⟩
  · cases h
theorem shape71 : b71 = .seq (lC b71) (.block 0 (.loop o71)) := by kernel_rfl
theorem shapeO71 : o71 = .seq (lC o71) (.seq (lC (rC o71)) (.seq (.block 1 k71) (rC (rC (rC o71))))) := by kernel_rfl
theorem shapeK71 : k71 = .seq (lC k71) (.seq (lC (rC k71)) (.block 4 (.loop g71))) := by kernel_rfl
theorem shape16 : b16 = .seq (lC b16) (.seq (lC (rC b16)) (.seq (lC (rC (rC b16))) (.seq (.seq (lC l16) (.block 0 (.loop o16))) end16))) := by kernel_rfl
theorem fine71 : ((first71 ++ second71 ++ tick71 ++ [g71, rC (rC (rC o71))]).all (fine X 71 Go.Proofs.Tryz.f71.ntmps)) = true := by kernel_rfl
theorem fine16 : ((first16 ++ [end16]).all (fine X 16 Go.Proofs.Tryz.f16.ntmps)) = true := by kernel_rfl
theorem at71 : X.fn.get 71 = some Go.Proofs.Tryz.f71 := by kernel_rfl
theorem at16 : X.fn.get 16 = some Go.Proofs.Tryz.f16 := by kernel_rfl
theorem code71 : Go.Proofs.Tryz.f71.body = some b71 := by kernel_rfl
theorem code16 : Go.Proofs.Tryz.f16.body = some b16 := by kernel_rfl
theorem len71 : wca.length ≤ Go.Proofs.Tryz.f71.ntmps := by decide +kernel
theorem memoC_ok (_ : Outer) : MemoOk Go.Proofs.Tryz.prog memoC := by
  obtain ⟨z1, h1, u1⟩ := chk_inv leafC1
  obtain ⟨z2, h2, u2⟩ := chk_inv leafC2
  obtain ⟨z3, h3, u3⟩ := chk_inv leafC3
  obtain ⟨z4, h4, u4⟩ := chk_inv leafC4
  obtain ⟨s6, s7, s8, h6, h7, h8, hres, hpost⟩ := last71_inv leafC5
  unfold first71 at h1
  obtain ⟨p1, a1, h1⟩ := runs_cons h1
  obtain ⟨p2, a2, h1⟩ := runs_cons h1
  cases h1
  unfold second71 at h2
  obtain ⟨q1, b1, h2⟩ := runs_cons h2
  obtain ⟨q2, b2, h2⟩ := runs_cons h2
  obtain ⟨q3, b3, h2⟩ := runs_cons h2
  obtain ⟨q4, b4, h2⟩ := runs_cons h2
  cases h2
  obtain ⟨r1, c1, h3⟩ := runs_cons h3
  cases h3
  obtain ⟨r2, c2, h4⟩ := runs_cons h4
  cases h4
  obtain ⟨v1, d1, h7⟩ := runs_cons h7
  cases h7
  have hr : RunOk Go.Proofs.Tryz.prog X callX 71 := ⟨ctx, sound 57⟩
  have ff : ∀ c ∈ first71 ++ second71 ++ tick71 ++ [g71, rC (rC (rC o71))], fine X 71 Go.Proofs.Tryz.f71.ntmps c = true := fun c hc => List.all_eq_true.1 fine71 c hc
  have fg : fine X 71 Go.Proofs.Tryz.f71.ntmps g71 = true := ff _ (by simp)
  have fo : fine X 71 Go.Proofs.Tryz.f71.ntmps o71 = true := ff _ (by simp [first71])
  have fl : fine X 71 Go.Proofs.Tryz.f71.ntmps (rC (rC (rC o71))) = true := ff _ (by simp)
  have i1 : Trip Go.Proofs.Tryz.prog [] Go.Proofs.Tryz.f71.ntmps g71 (mkSt w3e w3n w3h) .normal (mkSt w4e w4n w4h) := (Trip.run hr c1 fg).sub u3
  have i2 : Trip Go.Proofs.Tryz.prog [] Go.Proofs.Tryz.f71.ntmps g71 (mkSt w4e w4n w4h) .normal (mkSt w5e w5n w5h) := (Trip.run hr c2 fg).sub u4
  have i3 : TripL Go.Proofs.Tryz.prog [] Go.Proofs.Tryz.f71.ntmps 57 g71 (mkSt w5e w5n w5h) (.exit 4) s6 := TripL.run hr fg 57 _ _ _ h6
  have tk : Trip Go.Proofs.Tryz.prog [] Go.Proofs.Tryz.f71.ntmps k71 q2 .normal s6 := by
    rw [shapeK71]
    exact Trip.seq (Trip.run hr b3 (ff _ (by simp [second71]))) (Trip.seq ((Trip.run hr b4 (ff _ (by simp [second71]))).sub u2) (Trip.block (TripL.loop (TripL.step i1 (TripL.step i2 i3)))))
  have to : Trip Go.Proofs.Tryz.prog [] Go.Proofs.Tryz.f71.ntmps o71 (mkSt w2e w2n w2h) .normal s7 := by
    rw [shapeO71]
    exact Trip.seq (Trip.run hr b1 (ff _ (by simp [second71]))) (Trip.seq (Trip.run hr b2 (ff _ (by simp [second71]))) (Trip.seq (Trip.blockN tk) (Trip.run hr d1 fl)))
  have t1 : Trip Go.Proofs.Tryz.prog [] Go.Proofs.Tryz.f71.ntmps o71 p1 .normal (mkSt w2e w2n w2h) := (Trip.run hr a2 fo).sub u1
  have t3 : TripL Go.Proofs.Tryz.prog [] Go.Proofs.Tryz.f71.ntmps 57 o71 s7 (.exit 0) s8 := TripL.run hr fo 57 _ _ _ h8
  refine memoOk_of_trip (s' := s8) (ex := .normal) (vs := []) ctx at71 code71 len71 (fun id h => by cases h) ?_ (by rw [hres]; rfl) rfl (subSt_ok hpost)
  rw [shape71]
  exact Trip.seq (Trip.run hr a1 (ff _ (by simp [first71]))) (Trip.block (TripL.loop (TripL.step t1 (TripL.step to t3))))
theorem len71F : wfa.length ≤ Go.Proofs.Tryz.f71.ntmps := by decide +kernel
theorem memoF_ok (_ : Outer) : MemoOk Go.Proofs.Tryz.prog memoF := by
  obtain ⟨z1, h1, u1⟩ := chk_inv leafF1
  obtain ⟨z2, h2, u2⟩ := chk_inv leafF2
  obtain ⟨s6, s7, s8, h6, h7, h8, hres, hpost⟩ := last71_inv leafF3
  unfold tick71 at h1
  obtain ⟨p1, a1, h1⟩ := runs_cons h1
  obtain ⟨p2, a2, h1⟩ := runs_cons h1
  obtain ⟨p3, a3, h1⟩ := runs_cons h1
  obtain ⟨p4, a4, h1⟩ := runs_cons h1
  obtain ⟨p5, a5, h1⟩ := runs_cons h1
  cases h1
  obtain ⟨r1, c1, h2⟩ := runs_cons h2
  cases h2
  obtain ⟨v1, d1, h7⟩ := runs_cons h7
  cases h7
  have hr : RunOk Go.Proofs.Tryz.prog X callX 71 := ⟨ctx, sound 57⟩
  have ff : ∀ c ∈ first71 ++ second71 ++ tick71 ++ [g71, rC (rC (rC o71))], fine X 71 Go.Proofs.Tryz.f71.ntmps c = true := fun c hc => List.all_eq_true.1 fine71 c hc
  have fg : fine X 71 Go.Proofs.Tryz.f71.ntmps g71 = true := ff _ (by simp)
  have fo : fine X 71 Go.Proofs.Tryz.f71.ntmps o71 = true := ff _ (by simp [first71])
  have fl : fine X 71 Go.Proofs.Tryz.f71.ntmps (rC (rC (rC o71))) = true := ff _ (by simp)
  have i1 : Trip Go.Proofs.Tryz.prog [] Go.Proofs.Tryz.f71.ntmps g71 (mkSt wf0e wf0n wf0h) .normal (mkSt wf1e wf1n wf1h) := (Trip.run hr c1 fg).sub u2
  have i3 : TripL Go.Proofs.Tryz.prog [] Go.Proofs.Tryz.f71.ntmps 57 g71 (mkSt wf1e wf1n wf1h) (.exit 4) s6 := TripL.run hr fg 57 _ _ _ h6
  have tk : Trip Go.Proofs.Tryz.prog [] Go.Proofs.Tryz.f71.ntmps k71 p3 .normal s6 := by
    rw [shapeK71]
    exact Trip.seq (Trip.run hr a4 (ff _ (by simp [tick71]))) (Trip.seq ((Trip.run hr a5 (ff _ (by simp [tick71]))).sub u1) (Trip.block (TripL.loop (TripL.step i1 i3))))
  have to : Trip Go.Proofs.Tryz.prog [] Go.Proofs.Tryz.f71.ntmps o71 p1 .normal s7 := by
    rw [shapeO71]
    exact Trip.seq (Trip.run hr a2 (ff _ (by simp [tick71]))) (Trip.seq (Trip.run hr a3 (ff _ (by simp [tick71]))) (Trip.seq (Trip.blockN tk) (Trip.run hr d1 fl)))
  have t3 : TripL Go.Proofs.Tryz.prog [] Go.Proofs.Tryz.f71.ntmps 57 o71 s7 (.exit 0) s8 := TripL.run hr fo 57 _ _ _ h8
  refine memoOk_of_trip (s' := s8) (ex := .normal) (vs := []) ctx at71 code71 len71F (fun id h => by cases h) ?_ (by rw [hres]; rfl) rfl (subSt_ok hpost)
  rw [shape71]
  exact Trip.seq (Trip.run hr a1 (ff _ (by simp [tick71]))) (Trip.block (TripL.loop (TripL.step to t3)))
theorem len71G : wga.length ≤ Go.Proofs.Tryz.f71.ntmps := by decide +kernel
theorem memoG_ok (_ : Outer) : MemoOk Go.Proofs.Tryz.prog memoG := by
  obtain ⟨z1, h1, u1⟩ := chk_inv leafE1
  obtain ⟨z2, h2, u2⟩ := chk_inv leafE2
  obtain ⟨s6, s7, s8, h6, h7, h8, hres, hpost⟩ := last71_inv leafE3
  unfold tick71 at h1
  obtain ⟨p1, a1, h1⟩ := runs_cons h1
  obtain ⟨p2, a2, h1⟩ := runs_cons h1
  obtain ⟨p3, a3, h1⟩ := runs_cons h1
  obtain ⟨p4, a4, h1⟩ := runs_cons h1
  obtain ⟨p5, a5, h1⟩ := runs_cons h1
  cases h1
  obtain ⟨r1, c1, h2⟩ := runs_cons h2
  cases h2
  obtain ⟨v1, d1, h7⟩ := runs_cons h7
  cases h7
  have hr : RunOk Go.Proofs.Tryz.prog X callX 71 := ⟨ctx, sound 57⟩
  have ff : ∀ c ∈ first71 ++ second71 ++ tick71 ++ [g71, rC (rC (rC o71))], fine X 71 Go.Proofs.Tryz.f71.ntmps c = true := fun c hc => List.all_eq_true.1 fine71 c hc
  have fg : fine X 71 Go.Proofs.Tryz.f71.ntmps g71 = true := ff _ (by simp)
  have fo : fine X 71 Go.Proofs.Tryz.f71.ntmps o71 = true := ff _ (by simp [first71])
  have fl : fine X 71 Go.Proofs.Tryz.f71.ntmps (rC (rC (rC o71))) = true := ff _ (by simp)
  have i1 : Trip Go.Proofs.Tryz.prog [] Go.Proofs.Tryz.f71.ntmps g71 (mkSt wg0e wg0n wg0h) .normal (mkSt wg1e wg1n wg1h) := (Trip.run hr c1 fg).sub u2
  have i3 : TripL Go.Proofs.Tryz.prog [] Go.Proofs.Tryz.f71.ntmps 57 g71 (mkSt wg1e wg1n wg1h) (.exit 4) s6 := TripL.run hr fg 57 _ _ _ h6
  have tk : Trip Go.Proofs.Tryz.prog [] Go.Proofs.Tryz.f71.ntmps k71 p3 .normal s6 := by
    rw [shapeK71]
    exact Trip.seq (Trip.run hr a4 (ff _ (by simp [tick71]))) (Trip.seq ((Trip.run hr a5 (ff _ (by simp [tick71]))).sub u1) (Trip.block (TripL.loop (TripL.step i1 i3))))
  have to : Trip Go.Proofs.Tryz.prog [] Go.Proofs.Tryz.f71.ntmps o71 p1 .normal s7 := by
    rw [shapeO71]
    exact Trip.seq (Trip.run hr a2 (ff _ (by simp [tick71]))) (Trip.seq (Trip.run hr a3 (ff _ (by simp [tick71]))) (Trip.seq (Trip.blockN tk) (Trip.run hr d1 fl)))
  have t3 : TripL Go.Proofs.Tryz.prog [] Go.Proofs.Tryz.f71.ntmps 57 o71 s7 (.exit 0) s8 := TripL.run hr fo 57 _ _ _ h8
  refine memoOk_of_trip (s' := s8) (ex := .normal) (vs := []) ctx at71 code71 len71G (fun id h => by cases h) ?_ (by rw [hres]; rfl) rfl (subSt_ok hpost)
  rw [shape71]
  exact Trip.seq (Trip.run hr a1 (ff _ (by simp [tick71]))) (Trip.block (TripL.loop (TripL.step to t3)))
theorem callM_ok (o : Outer) {m : Memo} (hm : MemoOk Go.Proofs.Tryz.prog m) : CallsOk Go.Proofs.Tryz.prog (callM m) := by
  intro f args h v h' he
  unfold callM at he
  split at he
  · exact aCall_ok ctx codes (memoCall_ok (sound 56) hm) 56 f args h v h' he
  · exact sound 57 f args h v h' he
theorem memoT_ok (o : Outer) : MemoOk Go.Proofs.Tryz.prog memoT := by
  obtain ⟨z1, h1, u1⟩ := chk_inv leafD1
  obtain ⟨z2, h2, u2⟩ := chk_inv leafD2
  obtain ⟨s11, s12, h11, h12, hres, hpost⟩ := last16_inv leafD3
  unfold first16 at h1
  obtain ⟨p1, a1, h1⟩ := runs_cons h1
  obtain ⟨p2, a2, h1⟩ := runs_cons h1
  obtain ⟨p3, a3, h1⟩ := runs_cons h1
  obtain ⟨p4, a4, h1⟩ := runs_cons h1
  obtain ⟨p5, a5, h1⟩ := runs_cons h1
  obtain ⟨p6, a6, h1⟩ := runs_cons h1
  obtain ⟨p7, a7, h1⟩ := runs_cons h1
  obtain ⟨p8, a8, h1⟩ := runs_cons h1
  cases h1
  obtain ⟨q1, b1, h2⟩ := runs_cons h2
  obtain ⟨q2, b2, h2⟩ := runs_cons h2
  cases h2
  have hT : RunOk Go.Proofs.Tryz.prog X (callM memoC) 16 := ⟨ctx, callM_ok o (memoC_ok o)⟩
  have hX : RunOk Go.Proofs.Tryz.prog X callX 16 := ⟨ctx, sound 57⟩
  have hF : RunOk Go.Proofs.Tryz.prog X (callM memoF) 16 := ⟨ctx, callM_ok o (memoF_ok o)⟩
  have hG : RunOk Go.Proofs.Tryz.prog X (callM memoG) 16 := ⟨ctx, callM_ok o (memoG_ok o)⟩
  have ff : ∀ c ∈ first16 ++ [end16], fine X 16 Go.Proofs.Tryz.f16.ntmps c = true := fun c hc => List.all_eq_true.1 fine16 c hc
  have fo : fine X 16 Go.Proofs.Tryz.f16.ntmps o16 = true := ff _ (by simp [first16])
  have t4 : Trip Go.Proofs.Tryz.prog [] Go.Proofs.Tryz.f16.ntmps o16 p7 .normal (mkSt w9e w9n w9h) := (Trip.run hT a8 fo).sub u1
  have t5 : Trip Go.Proofs.Tryz.prog [] Go.Proofs.Tryz.f16.ntmps o16 (mkSt w9e w9n w9h) .normal q1 := Trip.run hF b1 fo
  have t55 : Trip Go.Proofs.Tryz.prog [] Go.Proofs.Tryz.f16.ntmps o16 q1 .normal (mkSt w10e w10n w10h) := (Trip.run hF b2 fo).sub u2
  have t6 : TripL Go.Proofs.Tryz.prog [] Go.Proofs.Tryz.f16.ntmps 57 o16 (mkSt w10e w10n w10h) (.exit 0) s11 := TripL.run hG fo 57 _ _ _ h11
  refine memoOk_of_trip (s' := s12) (ex := .ret) (vs := [wtv]) ctx at16 code16 (Nat.zero_le _) (fun id h => by cases h) ?_ hres rfl (subSt_ok hpost)
  rw [shape16]
  exact Trip.seq (Trip.run hT a1 (ff _ (by simp [first16]))) (Trip.seq (Trip.run hT a2 (ff _ (by simp [first16]))) (Trip.seq (Trip.run hT a3 (ff _ (by simp [first16])))
    (Trip.seq (Trip.seq (Trip.run hT a4 (ff _ (by simp [first16]))) (Trip.block (TripL.loop (TripL.step (Trip.run hT a5 fo) (TripL.step (Trip.run hT a6 fo) (TripL.step (Trip.run hT a7 fo) (TripL.step t4 (TripL.step t5 (TripL.step t55 t6))))))))) (Trip.run hX h12 (ff _ (by simp))))))
noncomputable def callF : CallK := frameCall memoT (AEval X 57)
theorem callF_ok (o : Outer) : CallsOk Go.Proofs.Tryz.prog callF := frameCall_ok (sound 57) leafD4 (memoT_ok o)
theorem fixedShut21 : ShutOk Go.Proofs.Tryz.prog 17 (.bool true) := by
  obtain ⟨h', he⟩ := isYesH_inv leafD5
  intro w
  refine (calls_true (fun o => aCall_ok ctx codes (callF_ok o) 57) he (xs := []) (w := w) .nil).mono ?_
  rintro e w' ⟨rfl, hio, hh⟩
  refine ⟨rfl, hio, fun n o hn => ?_⟩
  rw [hh n (Array.getElem?_eq_some_iff.1 hn).1]; exact hn
#print axioms fixedShut21
end Go.Proofs.YtgekgcffmmbhbaaGreat.T
