/- The whole evaluator and its soundness. -/
import Derived.Test.YtgekgcffmmbhbaaGreatA35
set_option linter.unusedVariables false
set_option linter.unusedSimpArgs false
noncomputable section
namespace Go.A
open Go
set_option linter.unusedSectionVars false
variable [Outer]
def AEval (C : Ctx) : Nat → CallK
  | 0, _, _, _ => none
  | k + 1, f, args, h => match C.pol.get f with
    | some .raw => aCall C (AEval C k) k f args h
    | some .dfr => aCallD C (AEval C k) k f args h
    | some .sorted => aSorted C (AEval C k) k f args h
    | some .pure => match frzL (frzV 9) args h with
      | some (args', h1) => match aCall C (AEval C k) k f args' { h1 with lo := h1.next } with
        | some (v, h2) => match frzV 9 v h2 with
          | some (v', h3) => if v'.idFree then some (v', h1) else none
          | none => none
        | none => none
      | none => none
    | _ => match frzL (frzV 9) args h with
      | some (args', h1) => match aCall C (AEval C k) k f args' h1 with
        | some (v, h2) => frzV 9 v h2
        | none => none
      | none => none
section
variable {P : Program} {C : Ctx} {F : Frz} {ρ : Ren} {h : H} {w : World}
theorem AEval_keep (C : Ctx) : ∀ k, CallsKeep (AEval C k)
  | 0 => by intro f args h v h' he; simp [AEval] at he
  | k + 1 => by
    have ih := AEval_keep C k
    intro f args h v h' he hl
    have fL := fun (vs : List V) (h : H) (vs' : List V) (h' : H) => frzL_keep (f := frzV 9) (fun v h v' h' => frzV_keep 9 v h v' h') vs h vs' h'
    simp only [AEval] at he
    split at he
    · exact aCall_keep ih k _ _ _ _ _ he hl
    · exact aCallD_keep ih k _ _ _ _ _ he hl
    · exact aSorted_keep ih k _ _ _ _ _ he hl
    · split at he
      · rename_i args' h1 hf
        split at he
        · split at he
          · split at he
            · cases he; exact fL _ _ _ _ hf
            · simp at he
          · simp at he
        · simp at he
      · simp at he
    · split at he
      · rename_i args' h1 hf
        split at he
        · rename_i v1 h2 hc
          have q1 := fL _ _ _ _ hf
          have q2 := aCall_keep ih k _ _ _ _ _ hc (q1.le hl)
          exact (q1.trans q2).trans (frzV_keep 9 _ _ _ _ he)
        · simp at he
      · simp at he
theorem AEval_ok (hC : CtxOk P C) (hK : CodesOk C) : ∀ k, CallsOk P (AEval C k)
  | 0 => by intro f args h v h' he; simp [AEval] at he
  | k + 1 => by
    have ih := AEval_ok hC hK k
    intro f args h v h' he F ρ w xs sm hr
    simp only [AEval] at he
    split at he
    · exact aCall_ok hC hK ih k _ _ _ _ _ he F ρ w xs sm hr
    · exact aCallD_ok hC hK ih k _ _ _ _ _ he F ρ w xs sm hr
    · exact aSorted_ok hC hK ih (AEval_keep C k) k _ _ _ _ _ he F ρ w xs sm hr
    · split at he
      · rename_i args' h1 hf
        obtain ⟨F1, e1, s1, r1⟩ := frzTs_sound (fun v h v' h' F cs => frzV_sound 9 v h v' h' F cs) _ _ _ _ F _ hf sm hr
        split at he
        · rename_i v1 h2 hc
          split at he
          · rename_i v2 h3 hfv
            split at he
            · rename_i hid
              cases he
              have s1' : Sim F1 ρ { h' with lo := h'.next } w := ⟨s1.frz, s1.dom, s1.blk, s1.inj, s1.live, s1.nx, s1.io⟩
              refine (aCall_ok hC hK ih k _ _ _ _ _ hc F1 ρ w xs s1' r1).mono ?_
              rintro e w' ⟨x, F2, ρ2, rfl, e2, s2, r2⟩
              obtain ⟨F3, e3, s3, r3⟩ := frzRes hfv s2 r2
              have k1 := aCall_keep (C := C) (AEval_keep C k) k _ _ _ _ _ hc (Nat.le_refl _)
              have k2 := frzV_keep 9 _ _ _ _ hfv
              have hget : ∀ b, b < h'.next → h3.get b = h'.get b := fun b hb => by
                rw [k2.get b (by rw [k1.lo]; exact hb), k1.get b hb]; rfl
              have hd := s1.drop s3 (e2.trans e3) hget
              obtain ⟨cs, hcs, hx⟩ := r3
              exact ⟨x, F3, ρ, rfl, ⟨fun n o hn => (e2.trans e3).f _ _ (e1.f _ _ hn), fun _ _ hh => hh, Nat.le_refl _, fun _ _ => rfl⟩, hd, cs, hcs.idFree hid, hx⟩
            · simp at he
          · simp at he
        · simp at he
      · simp at he
    · split at he
      · rename_i args' h1 hf
        obtain ⟨F1, e1, s1, r1⟩ := frzTs_sound (fun v h v' h' F cs => frzV_sound 9 v h v' h' F cs) _ _ _ _ F _ hf sm hr
        split at he
        · rename_i v1 h2 hc
          refine (aCall_ok hC hK ih k _ _ _ _ _ hc F1 ρ w xs s1 r1).mono ?_
          rintro e w' ⟨x, F2, ρ2, rfl, e2, s2, r2⟩
          obtain ⟨F3, e3, s3, r3⟩ := frzRes he s2 r2
          exact ⟨x, F3, ρ2, rfl, (e1.trans e2).trans e3, s3, r3⟩
        · simp at he
      · simp at he
end
end Go.A
