/- Calls. -/
import Derived.Test.YtgekgcffmmbhbaaGreatA20
set_option linter.unusedVariables false
set_option linter.unusedSimpArgs false
noncomputable section
namespace Go.A
open Go
set_option linter.unusedSectionVars false
variable [Outer]
def frzOf (C : Ctx) (f : FuncId) (d : Nat) : Bool :=
  match (C.frz.get f).bind (·.get d) with
  | some b => b
  | none => false
def planOf (C : Ctx) (f : FuncId) (id : Nat) : Option (List (Nat × Nat × Nat)) := (C.plan.get f).bind (·.get id)
def goodOf (C : Ctx) (f : FuncId) (id : Nat) (ops : Array Oper) : Bool :=
  match planOf C f id with
  | some fl => planOk ops fl
  | none => true
def drawnOf (C : Ctx) (call : CallK) (f : FuncId) (id : Nat) (ops : Array Oper) (env : Env) (h : H) : Option (Env × H) :=
  match planOf C f id with
  | some fl => aDrawn C call (frzOf C f) fl ops env h
  | none => none
def initEnv : List V → Nat → Env → Env
  | [], _, env => env
  | v :: vs, i, env => initEnv vs (i + 1) (env.set i v)
def aRes (C : Ctx) (env : Env) (h : H) : List ResultVar → Option (List V)
  | [] => some []
  | .tmp t :: r => match env.get t, aRes C env h r with
    | some v, some vs => some (v :: vs)
    | _, _ => none
  | .cell a t :: r => match env.get a with
    | some x => match aLoad C t x h, aRes C env h r with
      | some v, some vs => some (v :: vs)
      | _, _ => none
    | none => none
def packRes : List V → V
  | [v] => v
  | vs => .tup vs
def aCall (C : Ctx) (call : CallK) (n : Nat) (f : FuncId) (args : List V) (h : H) : Option (V × H) :=
  match C.fn.get f with
  | none => none
  | some fn => match fn.body with
    | none => none
    | some code => if args.length ≤ fn.ntmps then
        (match run C call (frzOf C f) (drawnOf C call f) n code (initEnv args 0 .lf) h with
          | some (.exit _, _, _) => none
          | some (_, env, h') => (aRes C env h' fn.results.toList).map fun vs => (packRes vs, h')
          | none => none)
      else none
structure CodesOk (C : Ctx) : Prop where
  ok : ∀ f fn code, C.fn.get f = some fn → fn.body = some code → regionsAll (goodOf C f) code = true ∧ codeFits fn.ntmps code = true
section
variable {P : Program} {C : Ctx} {F : Frz} {ρ : Ren} {h : H} {w : World}
theorem initEnv_get : ∀ (vs : List V) (i : Nat) (env : Env) (t : Nat) (v : V), (initEnv vs i env).get t = some v → (∃ j, t = i + j ∧ vs[j]? = some v) ∨ ((t < i ∨ i + vs.length ≤ t) ∧ env.get t = some v)
  | [], i, env, t, v, h => .inr ⟨by simp; omega, h⟩
  | x :: vs, i, env, t, v, h => by
    rcases initEnv_get vs (i + 1) (env.set i x) t v h with ⟨j, rfl, hj⟩ | ⟨hr, he⟩
    · exact .inl ⟨j + 1, by omega, by simpa using hj⟩
    · rw [Tr.get_set] at he
      by_cases e : t = i
      · simp only [e, if_true, Option.some.injEq] at he; subst he; exact .inl ⟨0, by omega, rfl⟩
      · simp only [e, if_false] at he; exact .inr ⟨by simp; omega, he⟩
theorem relTs_get {vs : List V} {xs : List Value} (hr : RelTs F ρ vs xs) : vs.length = xs.length := by
  induction xs generalizing vs with
  | nil => cases hr; rfl
  | cons x xs ih =>
    cases hr with
    | cons h hs => simp [ih hs]
theorem initEnv_rel {vs : List V} {xs : List Value} (hr : RelTs F ρ vs xs) (n : Nat) : EnvRel F ρ (initEnv vs 0 .lf) (xs.toArray ++ Array.replicate (n - xs.length) undef) := by
  refine ⟨fun t v hv => ?_⟩
  rcases initEnv_get vs 0 .lf t v hv with ⟨j, rfl, hj⟩ | ⟨_, he⟩
  · obtain ⟨x, h1, h2⟩ := relTs_nth hr hj
    have hlt := (List.getElem?_eq_some_iff.1 h1).1
    refine ⟨by simp; omega, ?_⟩
    have : (xs.toArray ++ Array.replicate (n - xs.length) undef).getD (0 + j) undef = x := by
      simp [Array.getD_eq_getD_getElem?, Array.getElem?_append_left, hlt, h1]
      have := (List.getElem?_eq_some_iff.1 h1).2
      exact this
    rw [this]; exact h2
  · simp at he
def resOne (tmps : Array Value) : ResultVar → Sem Value
  | .tmp t => pure (tmps.getD t undef)
  | .cell a t => do loadVar t (← asAddr (tmps.getD a undef))
theorem results_eq (fn : Func) (tmps : Array Value) : results fn tmps = (do
    let vs ← fn.results.mapM (resOne tmps)
    pure (if h : vs.size = 1 then vs[0] else .tuple vs)) := by
  unfold results
  congr 1
theorem aRes_sound (hC : CtxOk P C) {env : Env} {tmps : Array Value} (sm : Sim F ρ h w) (he : EnvRel F ρ env tmps) : ∀ (rs : List ResultVar) (vs : List V), aRes C env h rs = some vs →
    ∃ xs, (rs.mapM (resOne tmps)).run P w = Result.ok xs w ∧ RelTs F ρ vs xs
  | [], vs, h1 => by simp only [aRes, Option.some.injEq] at h1; subst h1; exact ⟨[], by simp, .nil⟩
  | .tmp t :: r, vs, h1 => by
    simp only [aRes] at h1
    split at h1
    · rename_i v vs' h2 h3
      cases h1
      obtain ⟨xs, g1, g2⟩ := aRes_sound hC sm he r vs' h3
      obtain ⟨_, cs, hc, hq⟩ := he.at_ t v h2
      refine ⟨_ :: xs, ?_, .cons hc g2⟩
      rw [List.mapM_cons]
      simp only [resOne, Sem.run_bind, Sem.run_pure, Result.andThen_ok]
      rw [g1]
      simp only [Result.andThen_ok, hq]
    · simp at h1
  | .cell a t :: r, vs, h1 => by
    simp only [aRes] at h1
    split at h1
    · rename_i x h0
      split at h1
      · rename_i v vs' h2 h3
        cases h1
        obtain ⟨xs, g1, g2⟩ := aRes_sound hC sm he r vs' h3
        obtain ⟨_, hx⟩ := he.at_ a x h0
        obtain ⟨y, l1, ⟨cs, hc, hq⟩, _⟩ := aLoad_sound hC h2 sm hx
        refine ⟨_ :: xs, ?_, .cons hc g2⟩
        rw [List.mapM_cons]
        have hp : ∃ b, tmps.getD a undef = .pointer (some b) := by
          unfold aLoad at h2
          split at h2
          · simp at h2
          · split at h2
            · obtain ⟨l, _, hp⟩ := ptr_val hx; exact ⟨_, hp⟩
            · obtain ⟨cs, hr, hp⟩ := hx; cases hr; exact ⟨_, hp⟩
            · simp at h2
        obtain ⟨b, hb⟩ := hp
        rw [hb] at l1
        simp only [Instr.loadAt, Instr.sureAddr, Sem.run_bind, Sem.run_pure, Result.andThen_ok] at l1
        simp only [resOne, hb, asAddr, Sem.run_bind, Sem.run_pure, Result.andThen_ok, l1]
        rw [g1]
        simp only [Result.andThen_ok, hq]
      · simp at h1
    · simp at h1
theorem results_sound (hC : CtxOk P C) {env : Env} {tmps : Array Value} {fn : Func} (sm : Sim F ρ h w) (he : EnvRel F ρ env tmps) {vs : List V} (h1 : aRes C env h fn.results.toList = some vs) :
    ∃ x, (results fn tmps).run P w = .ok x w ∧ RelV F ρ (packRes vs) x := by
  obtain ⟨xs, g1, g2⟩ := aRes_sound hC sm he _ _ h1
  have hl := relTs_get g2
  have hm : (fn.results.mapM (resOne tmps)).run P w = Result.ok xs.toArray w := by
    rw [Array.mapM_eq_mapM_toList, Sem.run_map, g1]
    rfl
  rw [results_eq, Sem.run_bind, hm]
  simp only [Result.andThen_ok]
  cases g2 with
  | nil => exact ⟨.tuple #[], rfl, _, .tup .nil, rfl⟩
  | cons hc hs =>
    cases hs with
    | nil => exact ⟨_, rfl, _, hc, rfl⟩
    | cons hc2 hs2 => exact ⟨_, rfl, _, .tup (.cons hc (.cons hc2 hs2)), rfl⟩
theorem aCall_ok (hC : CtxOk P C) (hK : CodesOk C) {call : CallK} (hcall : CallsOk P call) (n : Nat) : CallsOk P (aCall C call n) := by
  intro f args h v h' he F ρ w xs sm hr
  unfold aCall at he
  split at he
  · simp at he
  · rename_i fn hfn
    split at he
    · simp at he
    · rename_i code hcode
      split at he
      · rename_i hlen
        have hF := hC.fn _ _ hfn
        obtain ⟨k1, k2⟩ := hK.ok f fn code hfn hcode
        have hl := relTs_get hr
        have hsz : (xs.toArray ++ Array.replicate (fn.ntmps - xs.length) undef).size = fn.ntmps := by simp; omega
        have hdr : DrawnOk P [] fn.ntmps (goodOf C f) (drawnOf C call f) := by
          intro id ops env h env' h' hg hd hdst F ρ a w s1 r1 z1 d1
          unfold drawnOf at hd
          unfold goodOf at hg
          split at hd
          · rename_i fl hfl
            rw [hfl] at hg
            exact aDrawn_wp hcall hC hg hd hdst s1 r1 z1 d1
          · simp at hd
        have main : ∀ ex env, (∀ id, ex ≠ .exit id) → run C call (frzOf C f) (drawnOf C call f) n code (initEnv args 0 .lf) h = some (ex, env, h') → ∀ vs, aRes C env h' fn.results.toList = some vs → v = packRes vs → CallOk P F ρ f xs w v h' := by
          intro ex env hne hrun vs hres hv
          have hwp := run_wp hcall hC hdr n code _ _ _ _ _ hrun k2 k1 F ρ { tmps := xs.toArray ++ Array.replicate (fn.ntmps - xs.toArray.size) undef, defers := [] } w sm (by simpa using initEnv_rel hr fn.ntmps) (by simpa using hsz) rfl
          refine calls_of_wp hF.at_ hcode (wp_mono hwp ?_)
          rintro e a w' ⟨F', ρ', rfl, e1, s1, r1, z1, d1⟩
          obtain ⟨x, g1, g2⟩ := results_sound hC s1 r1 hres
          cases ex with
          | exit id => exact absurd rfl (hne id)
          | normal => exact ⟨d1, x, g1, x, F', ρ', rfl, e1, s1, by rw [hv]; exact g2⟩
          | ret => exact ⟨d1, x, g1, x, F', ρ', rfl, e1, s1, by rw [hv]; exact g2⟩
        split at he
        · simp at he
        · rename_i ex env h1 hne hrun
          simp only [Option.map_eq_some_iff] at he
          obtain ⟨vs, hres, he⟩ := he
          cases he
          exact main ex env (fun id e => hne id e) hrun vs hres rfl
        · simp at he
      · simp at he
theorem aCall_keep {call : CallK} (hcall : CallsKeep call) (n : Nat) : CallsKeep (aCall C call n) := by
  intro f args h v h' he hl
  unfold aCall at he
  split at he
  · simp at he
  · split at he
    · simp at he
    · split at he
      · have hdr : ∀ f id ops env h env' h', drawnOf C call f id ops env h = some (env', h') → h.lo ≤ h.next → Keep h h' := fun f id ops env h env' h' hd hl => by
          unfold drawnOf at hd
          split at hd
          · exact aDrawn_keep hcall hd hl
          · simp at hd
        split at he
        · simp at he
        · rename_i hne hrun
          simp only [Option.map_eq_some_iff] at he
          obtain ⟨vs, hres, he⟩ := he
          cases he
          exact run_keep hcall (hdr f) n _ _ _ _ _ _ hrun hl
        · simp at he
      · simp at he
theorem pack_agg {v v' : V} {cs : List Value} {F' : Frz} {ρ' : Ren} (hr : Rel F ρ v cs) (hr' : Rel F' ρ' v' cs) (ha : v'.isAgg = v.isAgg) : v.pack cs = v'.pack cs := by
  cases hq : v.isAgg with
  | true =>
    have hq1 : v'.isAgg = true := by rw [ha, hq]
    cases v <;> simp [V.isAgg] at hq
    cases v' <;> simp [V.isAgg] at hq1
    rfl
  | false =>
    have hq1 : v'.isAgg = false := by rw [ha, hq]
    have e1 := hr.single hq
    have e2 := hr'.single hq1
    have e3 := e1.symm.trans e2
    simpa using e3
theorem frzRes {v v' : V} {x : Value} {h' : H} (he : frzV 9 v h = some (v', h')) (s : Sim F ρ h w) (hv : RelV F ρ v x) : ∃ F', Ext F ρ F' ρ ∧ Sim F' ρ h' w ∧ RelV F' ρ v' x := by
  obtain ⟨cs, hr, rfl⟩ := hv
  obtain ⟨⟨F', e1, s1, r1⟩, _, _, ha⟩ := frzV_sound 9 v h v' h' F cs he s hr
  exact ⟨F', e1, s1, cs, r1, pack_agg hr r1 ha⟩
end
end Go.A
