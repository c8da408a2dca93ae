/- Regions whose order is drawn: soundness. -/
import Derived.Test.YtgekgcffmmbhbaaGreatA15
set_option linter.unusedVariables false
set_option linter.unusedSimpArgs false
noncomputable section
namespace Go.A
open Go
set_option linter.unusedSectionVars false
variable [Outer]
/-- The heap behind the c-th operation with an effect. -/
def Hat (sn : List H) (c : Nat) (h : H) : Prop := ∃ pre rest, sn = pre ++ h :: rest ∧ rest.length = c
theorem Hat.get {sn : List H} {c : Nat} {h : H} (x : Hat sn c h) : sn[sn.length - 1 - c]? = some h := by
  obtain ⟨pre, rest, rfl, rfl⟩ := x
  have : (pre ++ h :: rest).length - 1 - rest.length = pre.length := by simp
  rw [this]; simp
theorem Hat.uniq {sn : List H} {c : Nat} {h h' : H} (x : Hat sn c h) (y : Hat sn c h') : h = h' := by
  have := x.get; rw [y.get] at this; exact (Option.some.inj this).symm
theorem Hat.lt {sn : List H} {c : Nat} {h : H} (x : Hat sn c h) : c < sn.length := by
  obtain ⟨pre, rest, rfl, rfl⟩ := x; simp; omega
theorem Hat.of_lt {sn : List H} {c : Nat} (hc : c < sn.length) : ∃ h, Hat sn c h := by
  refine ⟨sn[sn.length - 1 - c], sn.take (sn.length - 1 - c), sn.drop (sn.length - 1 - c + 1), ?_, by simp; omega⟩
  rw [← List.drop_eq_getElem_cons, List.take_append_drop]
def noDst (ops : Array Oper) (k i : Nat) (t : Nat) : Prop := ∀ (j : Nat) (o : Oper), k ≤ j → j < i → ops[j]? = some o → o.dst ≠ some t
def Distinct (ops : Array Oper) : Prop := ∀ (i j : Nat) (o p : Oper) (d : Nat), i ≠ j → ops[i]? = some o → ops[j]? = some p → o.dst = some d → p.dst ≠ some d
theorem cntE_succ (ops : Array Oper) (i : Nat) : cntE ops (i + 1) = cntE ops i + (if isEi ops i then 1 else 0) := by
  unfold cntE
  rw [List.range_succ, List.countP_append]
  simp [List.countP_cons]
section
variable {P : Program} {C : Ctx} {call : CallK} {frz : Nat → Bool} {ops : Array Oper}
/-- What the run in the text's order says of the i-th operation. -/
structure At (C : Ctx) (call : CallK) (frz : Nat → Bool) (ops : Array Oper) (k : Nat) (env envF : Env) (snF : List H) (i : Nat) (o : Oper) where
  env_ : Env
  h_ : H
  hat : Hat snF (cntE ops i) h_
  old : ∀ t, noDst ops k i t → env_.get t = env.get t
  new : ∀ t j p, k ≤ j → j < i → ops[j]? = some p → p.dst = some t → env_.get t = envF.get t
  out : (isA o = false ∧ aWanted ops env_ o = some false ∧ (∀ d, o.dst = some d → envF.get d = some unk) ∧ (isE o = true → Hat snF (cntE ops i + 1) h_)) ∨
    (isA o = true ∧ ∃ d x, o.dst = some d ∧ env_.get d = some x ∧ envF.get d = some x) ∨
    (isA o = false ∧ aWanted ops env_ o = some true ∧ ∃ x h', stepOp C call (frz (o.dst.getD 0)) (evalOp env_) o h_ = some (x, h') ∧ (∀ d, o.dst = some d → envF.get d = some x) ∧ (isE o = true → Hat snF (cntE ops i + 1) h'))
theorem runD_facts (hD : Distinct ops) : ∀ (l : List Oper) (k : Nat) (env : Env) (sn : List H) (envF : Env) (snF : List H), runD C call frz ops l env sn = some (envF, snF) → (∀ q, l[q]? = ops[k + q]?) → sn.length = cntE ops k + 1 →
    (∃ pre, snF = pre ++ sn) ∧ snF.length = cntE ops (k + l.length) + 1 ∧ (∀ t, noDst ops k (k + l.length) t → envF.get t = env.get t) ∧
      ∀ i o, k ≤ i → i < k + l.length → ops[i]? = some o → Nonempty (At C call frz ops k env envF snF i o)
  | [], k, env, sn, envF, snF, he, hl, hs => by
    simp only [runD, Option.some.injEq, Prod.mk.injEq] at he
    obtain ⟨rfl, rfl⟩ := he
    exact ⟨⟨[], rfl⟩, by simpa using hs, fun t _ => rfl, fun i o h1 h2 => by simp at h2; omega⟩
  | o :: r, k, env, sn, envF, snF, he, hl, hs => by
    have ho : ops[k]? = some o := by have := hl 0; simp at this; exact this.symm
    have hr : ∀ q, r[q]? = ops[(k + 1) + q]? := fun q => by have := hl (q + 1); simp at this; rw [this]; congr 1; omega
    simp only [runD] at he
    cases hsn : sn with
    | nil => rw [hsn] at hs; simp at hs
    | cons h0 rest =>
      rw [hsn] at he
      have hrest : rest.length = cntE ops k := by rw [hsn] at hs; simpa using hs
      have hEi : isEi ops k = isE o := by unfold isEi; rw [ho]
      -- the step, whatever it is
      have step : ∀ (x : V) (h1 : H), runD C call frz ops r (envPut env o.dst x) (if isE o then h1 :: h0 :: rest else h0 :: rest) = some (envF, snF) →
          ((isA o = false ∧ aWanted ops env o = some false ∧ x = unk ∧ h1 = h0) ∨ (isA o = true ∧ ∃ d, o.dst = some d ∧ env.get d = some x) ∨ (isA o = false ∧ aWanted ops env o = some true ∧ stepOp C call (frz (o.dst.getD 0)) (evalOp env) o h0 = some (x, h1))) →
          (∃ pre, snF = pre ++ (h0 :: rest)) ∧ snF.length = cntE ops (k + (o :: r).length) + 1 ∧ (∀ t, noDst ops k (k + (o :: r).length) t → envF.get t = env.get t) ∧
            ∀ i o', k ≤ i → i < k + (o :: r).length → ops[i]? = some o' → Nonempty (At C call frz ops k env envF snF i o') := by
        intro x h1 hrun hcase
        obtain ⟨⟨pre, hpre⟩, hlen, hA, hB⟩ := runD_facts hD r (k + 1) _ _ _ _ hrun hr (by rw [cntE_succ, hEi]; cases hq : isE o <;> simp [hrest])
        have hput : ∀ t, (∀ d, o.dst = some d → t ≠ d) → (envPut env o.dst x).get t = env.get t := fun t ht => by
          cases hd : o.dst with
          | none => rfl
          | some d => simp only [envPut]; rw [Tr.get_set_ne _ _ (ht d hd)]
        have hdst : ∀ d, o.dst = some d → envF.get d = some x := fun d hd => by
          rw [hA d (fun j p h1 h2 hp => hD k j o p d (by omega) ho hp hd)]
          rw [hd]; simp only [envPut]; exact Tr.get_set_same _ _ _
        have hpre' : ∃ pre, snF = pre ++ (h0 :: rest) := by
          cases hq : isE o with
          | true => rw [hq] at hpre; exact ⟨pre ++ [h1], by simpa using hpre⟩
          | false => rw [hq] at hpre; exact ⟨pre, by simpa using hpre⟩
        have hlen' : k + (o :: r).length = (k + 1) + r.length := by simp; omega
        refine ⟨hpre', by rw [hlen']; exact hlen, fun t ht => ?_, fun i o' hk hi hio => ?_⟩
        · rw [hA t (fun j p h1 h2 hp => ht j p (by omega) (by omega) hp)]
          exact hput t (fun d hd e => ht k o (Nat.le_refl _) (by simp) ho (by rw [hd, e]))
        · by_cases e : i = k
          · subst e
            rw [ho] at hio; cases hio
            obtain ⟨pre', hp⟩ := hpre'
            have hE1 : isE o = true → Hat snF (cntE ops i + 1) h1 := fun hE => by
              rw [hE] at hpre
              exact ⟨pre, h0 :: rest, by simpa using hpre, by simp [hrest]⟩
            refine ⟨⟨env, h0, ⟨pre', rest, hp, hrest⟩, fun t _ => rfl, fun t j p h1 h2 => by omega, ?_⟩⟩
            rcases hcase with ⟨c0, c1, rfl, rfl⟩ | ⟨c0, d, c1, c2⟩ | ⟨c0, c1, c2⟩
            · exact .inl ⟨c0, c1, hdst, hE1⟩
            · exact .inr (.inl ⟨c0, d, x, c1, c2, hdst d c1⟩)
            · exact .inr (.inr ⟨c0, c1, x, h1, c2, hdst, hE1⟩)
          · obtain ⟨A⟩ := hB i o' (by omega) (by rw [hlen'] at hi; exact hi) hio
            refine ⟨⟨A.env_, A.h_, A.hat, fun t ht => ?_, fun t j p h1 h2 hp hd => ?_, A.out⟩⟩
            · rw [A.old t (fun j p h1 h2 hp => ht j p (by omega) h2 hp)]
              exact hput t (fun d hd e' => ht k o (Nat.le_refl _) (by omega) ho (by rw [hd, e']))
            · by_cases ej : j = k
              · subst ej
                rw [ho] at hp; cases hp
                rw [A.old t (fun j' p' h1 h2 hp' => hD j j' o p' t (by omega) ho hp' hd), hdst t hd, hd]
                simp only [envPut]; exact Tr.get_set_same _ _ _
              · exact A.new t j p (by omega) h2 hp hd
      simp only at he
      cases hA : isA o with
      | true =>
        rw [hA] at he
        simp only [if_true] at he
        split at he
        · rename_i d hd
          split at he
          · rename_i x hx
            exact step x h0 (by rw [isA_not hA]; simpa using he) (.inr (.inl ⟨hA, d, hd, hx⟩))
          · simp at he
        · simp at he
      | false =>
        rw [hA] at he
        simp only [Bool.false_eq_true, if_false] at he
        split at he
        · simp at he
        · rename_i hw
          exact step unk h0 he (.inl ⟨hA, hw, rfl, rfl⟩)
        · rename_i hw
          split at he
          · rename_i x h1 hst
            exact step x h1 he (.inr (.inr ⟨hA, hw, hst⟩))
          · simp at he
end
end Go.A
