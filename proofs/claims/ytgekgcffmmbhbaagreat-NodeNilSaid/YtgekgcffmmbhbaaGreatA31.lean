/- Calls with several outcomes. -/
import Derived.Test.YtgekgcffmmbhbaaGreatA30
set_option linter.unusedVariables false
set_option linter.unusedSimpArgs false
noncomputable section
namespace Go.A
open Go
set_option linter.unusedSectionVars false
variable [Outer]
abbrev NCallK := FuncId → List V → H → Option (List (V × H))
/-- One of the outcomes comes. -/
def NCallOk (P : Program) (F : Frz) (ρ : Ren) (f : FuncId) (xs : List Value) (w : World) (outs : List (V × H)) : Prop :=
  Calls P f xs.toArray w fun e w' => ∃ o ∈ outs, ∃ x F' ρ', e = .returned x ∧ Ext F ρ F' ρ' ∧ Sim F' ρ' o.2 w' ∧ RelV F' ρ' o.1 x
def NCallsOk (P : Program) (call : NCallK) : Prop :=
  ∀ f args h outs, call f args h = some outs → ∀ F ρ w xs, Sim F ρ h w → RelTs F ρ args xs → NCallOk P F ρ f xs w outs
def NCallsKeep (call : NCallK) : Prop := ∀ f args h outs, call f args h = some outs → h.lo ≤ h.next → ∀ o ∈ outs, Keep h o.2
def mapO {α β : Type} (f : α → Option β) : List α → Option (List β)
  | [] => some []
  | x :: r => match f x with
    | some y => (match mapO f r with
      | some ys => some (y :: ys)
      | none => none)
    | none => none
theorem mapO_mem {α β : Type} {f : α → Option β} : ∀ {l : List α} {ys : List β}, mapO f l = some ys → ∀ x ∈ l, ∃ y ∈ ys, f x = some y
  | [], ys, h, x, hx => by simp at hx
  | a :: r, ys, h, x, hx => by
    simp only [mapO] at h
    split at h
    · rename_i y hy
      split at h
      · rename_i zs hz
        cases h
        rcases List.mem_cons.1 hx with rfl | hx
        · exact ⟨y, by simp, hy⟩
        · obtain ⟨z, h1, h2⟩ := mapO_mem hz x hx; exact ⟨z, by simp [h1], h2⟩
      · simp at h
    · simp at h
theorem mapO_mem' {α β : Type} {f : α → Option β} : ∀ {l : List α} {ys : List β}, mapO f l = some ys → ∀ y ∈ ys, ∃ x ∈ l, f x = some y
  | [], ys, h, y, hy => by simp only [mapO, Option.some.injEq] at h; subst h; simp at hy
  | a :: r, ys, h, y, hy => by
    simp only [mapO] at h
    split at h
    · rename_i y' hy'
      split at h
      · rename_i zs hz
        cases h
        rcases List.mem_cons.1 hy with rfl | hy
        · exact ⟨a, by simp, hy'⟩
        · obtain ⟨z, h1, h2⟩ := mapO_mem' hz y hy; exact ⟨z, by simp [h1], h2⟩
      · simp at h
    · simp at h
/-- The rest of a function's code, and what it hands back. -/
def endOf (C : Ctx) (call : CallK) (n : Nat) (f : FuncId) (fn : Func) (rest : Code) (env : Env) (h : H) : Option (V × H) :=
  match run C call (frzOf C f) (drawnOf C call f) n rest env h with
  | some (.exit _, _, _) => none
  | some (_, env', h') => (aRes C env' h' fn.results.toList).map fun vs => (packRes vs, h')
  | none => none
def aFirst (C : Ctx) (call : CallK) (inner : NCallK) (n : Nat) : NCallK := fun f args h =>
  match C.fn.get f with
  | none => none
  | some fn => match fn.body with
    | some (.seq (.region _ ops false) rest) => if args.length ≤ fn.ntmps then
        (match ops.toList with
          | o :: os => (match o.guard, opEval C (frzOf C f (o.dst.getD 0)) (evalOp (initEnv args 0 .lf)) o h with
            | none, some (.call f' us, h1) => (match inner f' us h1 with
              | some outs => mapO (fun x => match runOps C call (frzOf C f) ops os (envPut (initEnv args 0 .lf) o.dst x.1) x.2 with
                | some (env2, h2) => endOf C call n f fn rest env2 h2
                | none => none) outs
              | none => none)
            | _, _ => none)
          | [] => none)
      else none
    | _ => none
mutual
def eqV : V → V → Bool
  | .sc a, .sc b => (match a, b with
    | .bool x, .bool y => x == y
    | .int k x, .int l y => decide (k = l) && decide (x = y)
    | _, _ => false)
  | .nl a, .nl b => a == b
  | .list a, .list b => eqVs a b
  | .agg a, .agg b => eqVs a b
  | _, _ => false
def eqVs : List V → List V → Bool
  | [], [] => true
  | a :: r, b :: s => eqV a b && eqVs r s
  | _, _ => false
end
mutual
theorem eqV_eq : ∀ {a b : V}, eqV a b = true → a = b
  | .sc a, .sc b, h => by
    simp only [eqV] at h
    split at h
    · simp at h; rw [h]
    · simp at h; rw [h.1, h.2]
    · simp at h
  | .nl a, .nl b, h => by simp [eqV] at h; rw [h]
  | .list a, .list b, h => by simp only [eqV] at h; rw [eqVs_eq h]
  | .agg a, .agg b, h => by simp only [eqV] at h; rw [eqVs_eq h]
theorem eqVs_eq : ∀ {a b : List V}, eqVs a b = true → a = b
  | [], [], h => rfl
  | a :: r, b :: s, h => by simp only [eqVs, Bool.and_eq_true] at h; rw [eqV_eq h.1, eqVs_eq h.2]
end
section
variable {P : Program} {C : Ctx} {F : Frz} {ρ : Ren} {h : H} {w : World}
theorem endOf_keep {call : CallK} (hcall : CallsKeep call) {n : Nat} {f : FuncId} {fn : Func} {rest : Code} {env : Env} {h : H} {o : V × H} (he : endOf C call n f fn rest env h = some o) (hl : h.lo ≤ h.next) : Keep h o.2 := by
  unfold endOf at he
  split at he
  · simp at he
  · rename_i hrun
    simp only [Option.map_eq_some_iff] at he
    obtain ⟨vs, hres, he⟩ := he
    subst he
    exact run_keep hcall (drawn_keep hcall f) n _ _ _ _ _ _ hrun hl
  · simp at he
theorem aFirst_keep {call : CallK} (hcall : CallsKeep call) {inner : NCallK} (hin : NCallsKeep inner) (n : Nat) : NCallsKeep (aFirst C call inner n) := by
  intro f args h outs he hl o ho
  unfold aFirst at he
  split at he
  · simp at he
  · split at he
    · split at he
      · split at he
        · split at he
          · rename_i hg hop
            have q1 := opEval_keep hl hop
            split at he
            · rename_i outs' hi
              obtain ⟨x, hx, hy⟩ := mapO_mem' he o ho
              have q2 := hin _ _ _ _ hi (q1.le hl) x hx
              split at hy
              · rename_i hro
                have q3 := runOps_keep hcall _ _ _ _ _ hro (q2.le (q1.le hl))
                exact ((q1.trans q2).trans q3).trans (endOf_keep hcall hy (q3.le (q2.le (q1.le hl))))
              · simp at hy
            · simp at he
          · simp at he
        · simp at he
      · simp at he
    · simp at he
/-- What a function's rest leaves: the results, and the world as the heap tells it. -/
theorem endOf_wp (hC : CtxOk P C) {call : CallK} (hcall : CallsOk P call) {D : List Deferred} {n : Nat} {f : FuncId} {fn : Func} {rest : Code} {env : Env} {h : H} {o : V × H} (he : endOf C call n f fn rest env h = some o) (hf : codeFits fn.ntmps rest = true) (hg : regionsAll (goodOf C f) rest = true)
    {a : Act} (sm : Sim F ρ h w) (hr : EnvRel F ρ env a.tmps) (hz : a.tmps.size = fn.ntmps) (hd : a.defers = D) :
    rest.wp P (fun e a' w' => (e = .normal ∨ e = .ret) ∧ a'.defers = D ∧ ∃ vs env' F' ρ', aRes C env' o.2 fn.results.toList = some vs ∧ o.1 = packRes vs ∧ Ext F ρ F' ρ' ∧ Sim F' ρ' o.2 w' ∧ EnvRel F' ρ' env' a'.tmps) a w := by
  unfold endOf at he
  split at he
  · simp at he
  · rename_i ex env' h' hne hrun
    simp only [Option.map_eq_some_iff] at he
    obtain ⟨vs, hres, he⟩ := he
    subst he
    refine wp_mono (run_wp (D := D) hcall hC (drawn_ok hC hcall D f fn.ntmps) n rest _ _ _ _ _ hrun hf hg F ρ a w sm hr hz hd) ?_
    rintro e a' w' ⟨F', ρ', rfl, e1, s1, r1, z1, d1⟩
    refine ⟨?_, d1, vs, env', F', ρ', hres, rfl, e1, s1, r1⟩
    cases ex with
    | exit id => exact absurd rfl (hne id)
    | normal => exact .inl rfl
    | ret => exact .inr rfl
  · simp at he
theorem aFirst_ok (hC : CtxOk P C) (hK : CodesOk C) {call : CallK} (hcall : CallsOk P call) {inner : NCallK} (hin : NCallsOk P inner) (n : Nat) : NCallsOk P (aFirst C call inner n) := by
  intro f args h outs he F ρ w xs sm hr
  unfold aFirst at he
  split at he
  · simp at he
  · rename_i fn hfn
    split at he
    · rename_i id ops rest hcode
      split at he
      · rename_i hlen
        have hF := hC.fn _ _ hfn
        obtain ⟨k1, k2⟩ := hK.ok f fn _ hfn hcode
        simp only [regionsAll, codeFits, Bool.and_eq_true, Array.all_eq_true_iff_forall_mem] at k1 k2
        have hl := relTs_get hr
        have hsz : (xs.toArray ++ Array.replicate (fn.ntmps - xs.length) undef).size = fn.ntmps := by simp; omega
        have hdst : ∀ o ∈ ops, ∀ d, o.dst = some d → d < fn.ntmps := fun o ho d hd => by
          have := k2.1 o ho
          rw [hd] at this; simpa using this
        split at he
        · rename_i o os hops
          have hom : ∀ o' ∈ o :: os, o' ∈ ops := fun o' ho' => by rw [← Array.mem_toList_iff, hops]; exact ho'
          split at he
          · rename_i f' us h1 hg hop
            split at he
            · rename_i outs' hi
              have hini := initEnv_rel hr fn.ntmps
              refine calls_of_wp hF.at_ hcode (wp_seq (wp_region_list ?_))
              rw [hops]
              simp only [wpList]
              rw [if_pos (wanted_none hg _)]
              left
              have ha0 : EnvRel F ρ (initEnv args 0 .lf) ({ tmps := xs.toArray ++ Array.replicate (fn.ntmps - xs.toArray.size) undef, defers := [] } : Act).tmps := by simpa using hini
              obtain ⟨ys, g1, g2, g3, fn', g4⟩ := opEval_sound (a := { tmps := xs.toArray ++ Array.replicate (fn.ntmps - xs.toArray.size) undef, defers := [] }) hC hop sm (fun y _ v hv => ha0.eval y v hv)
              unfold Oper.wp
              rw [g1]
              refine (hin _ _ _ _ hi F ρ w ys g2 g3).mono ?_
              rintro e w1 ⟨x, hx, y, F1, ρ1, rfl, e1, s1, r1⟩
              obtain ⟨out, hout, hy⟩ := mapO_mem he x hx
              split at hy
              · rename_i env2 h2 hro
                have hdo : ∀ d, o.dst = some d → d < (xs.toArray ++ Array.replicate (fn.ntmps - xs.toArray.size) undef).size := fun d hd => by
                  have h9 := hdst o (hom o (by simp)) d hd
                  exact Nat.lt_of_lt_of_eq h9 hsz.symm
                have r2 := (ha0.mono e1).put o.dst r1 hdo
                refine runOps_wp hcall hC hdst os _ _ _ _ F1 ρ1 _ w1 hro (fun o' ho' => hom o' (by simp [ho'])) s1 r2 (by cases o.dst <;> simpa [Act.put] using hsz) (fun a2 w2 F2 ρ2 e2 s2 r3 z2 d2 => ?_)
                refine wp_mono (endOf_wp (D := []) hC hcall hy k2.2 k1.2 s2 r3 z2 (by rw [d2]; cases o.dst <;> rfl)) ?_
                rintro e a3 w3 ⟨hex, hdf, vs, env', F3, ρ3, hres, hv, e3, s3, r4⟩
                obtain ⟨z, q1, q2⟩ := results_sound hC s3 r4 hres
                have fin : ∃ o ∈ outs, ∃ x F' ρ', Ending.returned z = .returned x ∧ Ext F ρ F' ρ' ∧ Sim F' ρ' o.2 w3 ∧ RelV F' ρ' o.1 x := ⟨out, hout, z, F3, ρ3, rfl, (e1.trans e2).trans e3, s3, by rw [hv]; exact q2⟩
                rcases hex with rfl | rfl
                · exact ⟨hdf, z, q1, fin⟩
                · exact ⟨hdf, z, q1, fin⟩
              · simp at hy
            · simp at he
          · simp at he
        · simp at he
      · simp at he
    · simp at he
end
end Go.A
