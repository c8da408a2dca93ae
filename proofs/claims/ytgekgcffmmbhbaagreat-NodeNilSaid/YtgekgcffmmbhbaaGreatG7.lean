/- The example of the nodes: called in whatever world, it hands back true, and nothing that lay there has turned. -/
import Derived.Test.YtgekgcffmmbhbaaGreatL71
import Derived.Test.YtgekgcffmmbhbaaGreatL72
import Derived.Test.YtgekgcffmmbhbaaGreatL73
import Derived.Test.YtgekgcffmmbhbaaGreatL74
set_option maxRecDepth 100000
set_option linter.unusedVariables false
noncomputable section
namespace Go.Proofs.YtgekgcffmmbhbaaGreat.T
open Go Go.A
theorem last7_inv {s : Go.A.St} (h : last7 s = true) : ∃ s6 s7 s8 s9, runF X call7 7 57 (.loop i7) s = some (.exit 2, s6) ∧ runs X call7 7 57 [rC (rC (rC o7))] s6 = some s7 ∧ runF X call7 7 57 (.loop o7) s7 = some (.exit 0, s8) ∧ runF X call7 7 57 end7 s8 = some (.ret, s9) ∧ aRes X s9.1 s9.2 Go.Proofs.Tryz.f7.results.toList = some [.sc (.bool true)] := by
  unfold last7 at h
  split at h
  · rename_i s6 h6
    split at h
    · rename_i s7 h7
      split at h
      · rename_i s8 h8
        split at h
        · rename_i s9 h9
          refine ⟨s6, s7, s8, s9, h6, h7, h8, h9, ?_⟩
          unfold isYes at h
          split at h
          · rename_i hq; exact hq
          · cases h
        · cases h
      · cases h
    · cases h
  · cases h
theorem shapeB : b7 = .seq (lC b7) (.seq (lC (rC b7)) (.seq (lC (rC (rC b7))) (.seq (lC (rC (rC (rC b7)))) (.seq (.seq (lC l7) (.block 0 (.loop o7))) end7)))) := by kernel_rfl
theorem shapeO : o7 = .seq (lC o7) (.seq (lC (rC o7)) (.seq (.block 1 k7) (rC (rC (rC o7))))) := by kernel_rfl
theorem shapeK : k7 = .seq (lC k7) (.seq (lC (rC k7)) (.seq (lC (rC (rC k7))) (.block 2 (.loop i7)))) := by kernel_rfl
theorem fine1 : (first7.all (fine X 7 Go.Proofs.Tryz.f7.ntmps)) = true := by kernel_rfl
theorem fine2 : (second7.all (fine X 7 Go.Proofs.Tryz.f7.ntmps)) = true := by kernel_rfl
theorem fine3 : ([i7, rC (rC (rC o7)), end7].all (fine X 7 Go.Proofs.Tryz.f7.ntmps)) = true := by kernel_rfl
theorem at7 : X.fn.get 7 = some Go.Proofs.Tryz.f7 := by kernel_rfl
theorem code7 : Go.Proofs.Tryz.f7.body = some b7 := by kernel_rfl
theorem mem_fine {l : List Code} (h : (l.all (fine X 7 Go.Proofs.Tryz.f7.ntmps)) = true) {c : Code} (hc : c ∈ l) : fine X 7 Go.Proofs.Tryz.f7.ntmps c = true := List.all_eq_true.1 h c hc
theorem fixedShut : ShutOk Go.Proofs.Tryz.prog 7 (.bool true) := by
  obtain ⟨z1, h1, u1⟩ := chk_inv leaf71
  obtain ⟨z2, h2, u2⟩ := chk_inv leaf72
  obtain ⟨z3, h3, u3⟩ := chk_inv leaf73
  obtain ⟨s6, s7, s8, s9, h6, h7, h8, h9, hres⟩ := last7_inv leaf74
  unfold first7 at h1
  obtain ⟨p1, a1, h1⟩ := runs_cons h1
  obtain ⟨p2, a2, h1⟩ := runs_cons h1
  obtain ⟨p3, a3, h1⟩ := runs_cons h1
  obtain ⟨p4, a4, h1⟩ := runs_cons h1
  obtain ⟨p5, a5, h1⟩ := runs_cons h1
  obtain ⟨p6, a6, h1⟩ := runs_cons h1
  cases h1
  unfold second7 at h2
  obtain ⟨q1, b1, h2⟩ := runs_cons h2
  obtain ⟨q2, b2, h2⟩ := runs_cons h2
  obtain ⟨q3, b3, h2⟩ := runs_cons h2
  obtain ⟨q4, b4, h2⟩ := runs_cons h2
  obtain ⟨q5, b5, h2⟩ := runs_cons h2
  cases h2
  obtain ⟨r1, c1, h3⟩ := runs_cons h3
  obtain ⟨r2, c2, h3⟩ := runs_cons h3
  cases h3
  obtain ⟨v1, d1, h7⟩ := runs_cons h7
  cases h7
  refine shutOk_of ctx at7 code7 (s' := s9) (fun _ => ?_) hres
  have hr : RunOk Go.Proofs.Tryz.prog X call7 7 := ⟨ctx, sound 57⟩
  have f1 : ∀ c ∈ first7, fine X 7 Go.Proofs.Tryz.f7.ntmps c = true := fun c hc => mem_fine fine1 hc
  have f2 : ∀ c ∈ second7, fine X 7 Go.Proofs.Tryz.f7.ntmps c = true := fun c hc => mem_fine fine2 hc
  have fi : fine X 7 Go.Proofs.Tryz.f7.ntmps i7 = true := mem_fine fine3 (by simp)
  have fe : fine X 7 Go.Proofs.Tryz.f7.ntmps end7 = true := mem_fine fine3 (by simp)
  have fl : fine X 7 Go.Proofs.Tryz.f7.ntmps (rC (rC (rC o7))) = true := mem_fine fine3 (by simp)
  have fo : fine X 7 Go.Proofs.Tryz.f7.ntmps o7 = true := f1 _ (by simp [first7])
  -- the second round
  have i1 : Trip Go.Proofs.Tryz.prog [] Go.Proofs.Tryz.f7.ntmps i7 (mkSt s3e s3n s3h) .normal r1 := Trip.run hr c1 fi
  have i2 : Trip Go.Proofs.Tryz.prog [] Go.Proofs.Tryz.f7.ntmps i7 r1 .normal (mkSt s4e s4n s4h) := (Trip.run hr c2 fi).sub u3
  have i3 : TripL Go.Proofs.Tryz.prog [] Go.Proofs.Tryz.f7.ntmps 57 i7 (mkSt s4e s4n s4h) (.exit 2) s6 := TripL.run hr fi 57 _ _ _ h6
  have tk : Trip Go.Proofs.Tryz.prog [] Go.Proofs.Tryz.f7.ntmps k7 q2 .normal s6 := by
    rw [shapeK]
    exact Trip.seq (Trip.run hr b3 (f2 _ (by simp [second7]))) (Trip.seq (Trip.run hr b4 (f2 _ (by simp [second7]))) (Trip.seq ((Trip.run hr b5 (f2 _ (by simp [second7]))).sub u2)
      (Trip.block (TripL.loop (TripL.step i1 (TripL.step i2 i3))))))
  have to : Trip Go.Proofs.Tryz.prog [] Go.Proofs.Tryz.f7.ntmps o7 (mkSt s2e s2n s2h) .normal s7 := by
    rw [shapeO]
    exact Trip.seq (Trip.run hr b1 (f2 _ (by simp [second7]))) (Trip.seq (Trip.run hr b2 (f2 _ (by simp [second7]))) (Trip.seq (Trip.blockN tk) (Trip.run hr d1 fl)))
  have t1 : Trip Go.Proofs.Tryz.prog [] Go.Proofs.Tryz.f7.ntmps o7 p5 .normal (mkSt s2e s2n s2h) := (Trip.run hr a6 fo).sub u1
  have t3 : TripL Go.Proofs.Tryz.prog [] Go.Proofs.Tryz.f7.ntmps 57 o7 s7 (.exit 0) s8 := TripL.run hr fo 57 _ _ _ h8
  rw [shapeB]
  exact Trip.seq (Trip.run hr a1 (f1 _ (by simp [first7]))) (Trip.seq (Trip.run hr a2 (f1 _ (by simp [first7]))) (Trip.seq (Trip.run hr a3 (f1 _ (by simp [first7]))) (Trip.seq (Trip.run hr a4 (f1 _ (by simp [first7])))
    (Trip.seq (Trip.seq (Trip.run hr a5 (f1 _ (by simp [first7]))) (Trip.block (TripL.loop (TripL.step t1 (TripL.step to t3))))) (Trip.run hr h9 fe)))))
#print axioms fixedShut
end Go.Proofs.YtgekgcffmmbhbaaGreat.T
