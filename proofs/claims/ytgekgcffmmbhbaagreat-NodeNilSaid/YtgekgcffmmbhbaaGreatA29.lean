/- Functions with one deferred closure. -/
import Derived.Test.YtgekgcffmmbhbaaGreatA28
import Derived.Recover
set_option linter.unusedVariables false
set_option linter.unusedSimpArgs false
noncomputable section
namespace Go.A
open Go
set_option linter.unusedSectionVars false
variable [Outer]
def recOp (o : Oper) : Bool :=
  match o.op with
  | .call c => (match c.callee with
    | .builtin .recover => true
    | _ => false)
  | _ => false
/-- The first region of a deferred function: nobody panics, so recover hands out nil. -/
def runRec (C : Ctx) (call : CallK) (frz : Nat → Bool) (ops : Array Oper) : List Oper → Env → H → Option (Env × H)
  | [], env, h => some (env, h)
  | o :: r, env, h => match aWanted ops env o with
    | none => none
    | some false => runRec C call frz ops r (envPut env o.dst unk) h
    | some true => if recOp o then runRec C call frz ops r (envPut env o.dst (.sc .nilIface)) h else
      match stepOp C call (frz (o.dst.getD 0)) (evalOp env) o h with
      | some (x, h') => runRec C call frz ops r (envPut env o.dst x) h'
      | none => none
def aDeferred (C : Ctx) (call : CallK) (n : Nat) (f : FuncId) (args : List V) (h : H) : Option H :=
  match C.fn.get f with
  | none => none
  | some fn => match fn.body with
    | some (.seq (.region _ ops false) rest) => if args.length ≤ fn.ntmps then
        (match runRec C call (frzOf C f) ops ops.toList (initEnv args 0 .lf) h with
          | some (env, h1) => (match run C call (frzOf C f) (drawnOf C call f) n rest env h1 with
            | some (.exit _, _, _) => none
            | some (_, env', h') => (aRes C env' h' fn.results.toList).map fun _ => h'
            | none => none)
          | none => none)
      else none
    | _ => none
def aCallD (C : Ctx) (call : CallK) (n : Nat) (f : FuncId) (args : List V) (h : H) : Option (V × H) :=
  match C.fn.get f with
  | none => none
  | some fn => match fn.body with
    | some (.seq a (.seq (.region _ ops false) rest)) => if args.length ≤ fn.ntmps then
        (match run C call (frzOf C f) (drawnOf C call f) n a (initEnv args 0 .lf) h, ops.toList with
          | some (.normal, env1, h1), [o1, o2] => (match o1.guard, o2.guard, o2.dst, o2.op with
            | none, none, none, .defer ⟨.value g, ds, _⟩ => (match stepOp C call (frzOf C f (o1.dst.getD 0)) (evalOp env1) o1 h1 with
              | some (x, h2) => (match evalOp (envPut env1 o1.dst x) g, ds.toList with
                | some gv, [] => (match aCallee C gv [] with
                  | some (.call f' us) => (match run C call (frzOf C f) (drawnOf C call f) n rest (envPut env1 o1.dst x) h2 with
                    | some (.exit _, _, _) => none
                    | some (_, env3, h3) => (match aDeferred C call n f' us h3 with
                      | some h4 => (aRes C env3 h4 fn.results.toList).map fun vs => (packRes vs, h4)
                      | none => none)
                    | none => none)
                  | _ => none)
                | _, _ => none)
              | none => none)
            | _, _, _, _ => none)
          | _, _ => none)
      else none
    | _ => none
section
variable {P : Program} {C : Ctx} {F : Frz} {ρ : Ren} {h : H} {w : World}
theorem recOp_run {o : Oper} (hr : recOp o = true) (ev : Operand → Value) (w : World) : (execOp ev o).run P w = .ok .recover w := by
  unfold recOp at hr
  split at hr
  · rename_i c hop
    split at hr
    · rename_i hcal
      unfold execOp
      rw [hop]
      simp [resolve, hcal, invoke, builtin]
    · cases hr
  · cases hr
theorem runRec_wp {call : CallK} (hcall : CallsOk P call) (hC : CtxOk P C) {frz : Nat → Bool} {ops : Array Oper} {Q : Exit → Act → List Frame → World → Prop} {n : Nat} (hd : ∀ o ∈ ops, ∀ d, o.dst = some d → d < n) {cs : List Frame} (hcs : recoverD cs = none) :
    ∀ (l : List Oper) (k : Nat) (env : Env) (h : H) (env' : Env) (h' : H) (F : Frz) (ρ : Ren) (a : Act) (w : World), runRec C call frz ops l env h = some (env', h') → (∀ q, l[q]? = ops[k + q]?) → Sim F ρ h w → EnvRel F ρ env a.tmps → a.tmps.size = n →
      (∀ a' w' F' ρ', Ext F ρ F' ρ' → Sim F' ρ' h' w' → EnvRel F' ρ' env' a'.tmps → a'.tmps.size = n → a'.defers = a.defers → Q .normal a' cs w') → wpOpsS P ops Q (List.range' k l.length) a cs w
  | [], k, env, h, env', h', F, ρ, a, w, he, hl, sm, hr, hn, hQ => by
    simp only [runRec, Option.some.injEq, Prod.mk.injEq] at he
    obtain ⟨rfl, rfl⟩ := he
    simp only [List.length_nil, List.range'_zero, wpOpsS]
    exact hQ a w F ρ (.refl _ _) sm hr hn rfl
  | o :: r, k, env, h, env', h', F, ρ, a, w, he, hl, sm, hr, hn, hQ => by
    have ho : ops[k]? = some o := by have := hl 0; simpa using this.symm
    have hom : o ∈ ops := Array.mem_of_getElem? ho
    have hl' : ∀ q, r[q]? = ops[(k + 1) + q]? := fun q => by have := hl (q + 1); simp only [List.getElem?_cons_succ] at this; rw [this]; congr 1; omega
    have hdo : ∀ d, o.dst = some d → d < a.tmps.size := fun d hd' => by rw [hn]; exact hd o hom d hd'
    have hput : ∀ v, (a.put o.dst v).tmps.size = n := fun v => by
      rw [← hn]; cases o.dst <;> simp [Act.put]
    have hdef : ∀ v, (a.put o.dst v).defers = a.defers := fun v => by cases o.dst <;> rfl
    simp only [runRec] at he
    simp only [List.length_cons, List.range'_succ, wpOpsS, ho]
    split at he
    · simp at he
    · rename_i hw
      rw [aWanted_sound hw hr]
      simp only [Bool.false_eq_true, if_false]
      exact runRec_wp hcall hC hd hcs r (k + 1) _ h env' h' F ρ _ w he hl' sm (hr.put o.dst unk_rel hdo) (hput _) (fun a' w' F' ρ' g1 g2 g3 g4 g5 => hQ a' w' F' ρ' g1 g2 g3 g4 (by rw [g5, hdef]))
    · rename_i hw
      rw [aWanted_sound hw hr]
      simp only [if_true]
      split at he
      · rename_i hrec
        rw [recOp_run hrec]
        simp only [hcs]
        exact runRec_wp hcall hC hd hcs r (k + 1) _ h env' h' F ρ _ w he hl' sm (hr.put o.dst (sc_rel rfl) hdo) (hput _) (fun a' w' F' ρ' g1 g2 g3 g4 g5 => hQ a' w' F' ρ' g1 g2 g3 g4 (by rw [g5, hdef]))
      · split at he
        · rename_i x h1 hs
          have hwp : o.wp P a w (fun a' w' => wpOpsS P ops Q (List.range' (k + 1) r.length) a' cs w') (fun e a' w' => Q e a' cs w') :=
            stepOp_wp hcall hC hs sm (fun y _ v hv => hr.eval y v hv) (fun v w' F' ρ' e1 s1 r1 =>
              runRec_wp hcall hC hd hcs r (k + 1) _ h1 env' h' F' ρ' _ w' he hl' s1 ((hr.mono e1).put o.dst r1 hdo) (hput _)
                (fun a' w'' F'' ρ'' g1 g2 g3 g4 g5 => hQ a' w'' F'' ρ'' (e1.trans g1) g2 g3 g4 (by rw [g5, hdef])))
          unfold Oper.wp at hwp
          split
          · rename_i w' hq
            rw [hq] at hwp
            simp [Oper.upon] at hwp
          · exact hwp
        · simp at he
theorem drawn_ok (hC : CtxOk P C) {call : CallK} (hcall : CallsOk P call) (D : List Deferred) (f : FuncId) (sz : Nat) : DrawnOk P D sz (goodOf C f) (drawnOf C call f) := by
  intro id ops env h env' h' hg hd hdst F ρ a w s1 r1 z1 d1
  unfold drawnOf at hd
  unfold goodOf at hg
  split at hd
  · rename_i fl hfl
    rw [hfl] at hg
    exact aDrawn_wp hcall hC hg hd hdst s1 r1 z1 d1
  · simp at hd
theorem aDeferred_ok (hC : CtxOk P C) (hK : CodesOk C) {call : CallK} (hcall : CallsOk P call) (n : Nat) {f : FuncId} {args : List V} {h h' : H} {xs : List Value} (he : aDeferred C call n f args h = some h') (sm : Sim F ρ h w) (hr : RelTs F ρ args xs) :
    CallsD P f xs.toArray .returning w fun e u' w' => ∃ x F' ρ', e = .returned x ∧ u' = .returning ∧ Ext F ρ F' ρ' ∧ Sim F' ρ' h' w' := by
  unfold aDeferred at he
  split at he
  · simp at he
  · rename_i fn hfn
    split at he
    · rename_i id ops rest hcode
      split at he
      · rename_i hlen
        have hF := hC.fn _ _ hfn
        obtain ⟨k1, k2⟩ := hK.ok f fn _ hfn hcode
        simp only [regionsAll, codeFits, Bool.and_eq_true, Array.all_eq_true_iff_forall_mem] at k1 k2
        have hl := relTs_get hr
        have hsz : (xs.toArray ++ Array.replicate (fn.ntmps - xs.length) undef).size = fn.ntmps := by simp; omega
        have hdst : ∀ o ∈ ops, ∀ d, o.dst = some d → d < fn.ntmps := fun o ho d hd => by
          have := k2.1 o ho
          rw [hd] at this; simpa using this
        split at he
        · rename_i env1 h1 hrun1
          have fin : ∀ ex env2, (∀ id, ex ≠ .exit id) → run C call (frzOf C f) (drawnOf C call f) n rest env1 h1 = some (ex, env2, h') → (∃ vs, aRes C env2 h' fn.results.toList = some vs) →
              CallsD P f xs.toArray .returning w fun e u' w' => ∃ x F' ρ', e = .returned x ∧ u' = .returning ∧ Ext F ρ F' ρ' ∧ Sim F' ρ' h' w' := by
            intro ex env2 hne hrun2 hres
            obtain ⟨vs, hres⟩ := hres
            refine callsD_of_wpS hF.at_ hcode (fun c₀ cs hu => ?_)
            have hcs : recoverD (c₀ :: cs) = none := by simp [recoverD, hu]
            refine wpS_seq (wpS_region ?_)
            rw [List.range_eq_range']
            have hsize : ops.size = ops.toList.length := by simp
            rw [hsize]
            refine runRec_wp hcall hC hdst hcs ops.toList 0 _ h env1 h1 F ρ _ w hrun1 (by simp) sm (by simpa using initEnv_rel hr fn.ntmps) (by simpa using hsz) (fun a1 w1 F1 ρ1 e1 s1 r1 z1 d1 => ?_)
            show rest.wpS P _ a1 (c₀ :: cs) w1
            have hwp := run_wp (D := []) hcall hC (drawn_ok hC hcall [] f fn.ntmps) n rest _ _ _ _ _ hrun2 k2.2 k1.2 F1 ρ1 a1 w1 s1 r1 z1 (by rw [d1])
            refine wpS_of_wp (wp_mono hwp ?_)
            rintro e a2 w2 ⟨F2, ρ2, rfl, e2, s2, r2, z2, d2⟩
            obtain ⟨x, g1, g2⟩ := results_sound hC s2 r2 hres
            have hc : ({ c₀ with mode := .returning } : Frame) = c₀ := by rw [← hu]
            cases ex with
            | exit id => exact absurd rfl (hne id)
            | normal => exact ⟨d2, .returning, by rw [hc], x, g1, x, F2, ρ2, rfl, rfl, e1.trans e2, s2⟩
            | ret => exact ⟨d2, .returning, by rw [hc], x, g1, x, F2, ρ2, rfl, rfl, e1.trans e2, s2⟩
          split at he
          · simp at he
          · rename_i ex env2 h2 hne hrun2
            simp only [Option.map_eq_some_iff] at he
            obtain ⟨vs, hres, he⟩ := he
            subst he
            exact fin ex env2 (fun id e => hne id e) hrun2 ⟨vs, hres⟩
          · simp at he
        · simp at he
      · simp at he
    · simp at he
theorem wanted_none {o : Oper} (h : o.guard = none) (y : Nat → Option Bool) : Region.wanted o y = true := by unfold Region.wanted; rw [h]
theorem aCallee_shape {gv : V} {us : List V} {k : FuncId} {x : Value} (he : aCallee C gv [] = some (.call k us)) (hx : RelV F ρ gv x) : ∃ a b fn, x = .func (.func k) a b ∧ C.fn.get k = some fn ∧ RelTs F ρ us (a ++ b).toList := by
  unfold aCallee at he
  split at he
  · rename_i k' a b
    split at he
    · rename_i hk
      cases he
      obtain ⟨fn, hfn⟩ := Option.isSome_iff_exists.1 hk
      obtain ⟨rfl, hs⟩ := sc_val hx
      simp only [scalar, Bool.and_eq_true, Array.isEmpty_iff] at hs
      obtain ⟨rfl, rfl⟩ := hs
      exact ⟨#[], #[], fn, rfl, hfn, by simpa using RelTs.nil⟩
    · simp at he
  · rename_i k' first caps
    split at he
    · rename_i hk
      cases he
      obtain ⟨fn, hfn⟩ := Option.isSome_iff_exists.1 hk
      obtain ⟨cs, hr, rfl⟩ := hx
      cases hr with
      | fn h1 h2 =>
        rename_i xs1 ys1
        exact ⟨xs1.toArray, ys1.toArray, fn, rfl, hfn, by simpa using relTs_append h1 h2⟩
    · simp at he
  · simp at he
theorem aCallD_ok (hC : CtxOk P C) (hK : CodesOk C) {call : CallK} (hcall : CallsOk P call) (n : Nat) : CallsOk P (aCallD C call n) := by
  intro f args h v h' he F ρ w xs sm hr
  unfold aCallD at he
  split at he
  · simp at he
  · rename_i fn hfn
    split at he
    · rename_i a id ops rest hcode
      split at he
      · rename_i hlen
        have hF := hC.fn _ _ hfn
        obtain ⟨k1, k2⟩ := hK.ok f fn _ hfn hcode
        simp only [regionsAll, codeFits, Bool.and_eq_true] at k1 k2
        have hl := relTs_get hr
        have hsz : (xs.toArray ++ Array.replicate (fn.ntmps - xs.length) undef).size = fn.ntmps := by simp; omega
        split at he
        · rename_i env1 h1 o1 o2 hrun1 hops
          split at he
          · rename_i g ds tys hg1 hg2 hd2 hop2
            split at he
            · rename_i x h2 hst
              split at he
              · rename_i gv hgv hds
                split at he
                · rename_i f' us hcal
                  have fin : ∀ ex env3 h3 vs, (∀ id, ex ≠ .exit id) → run C call (frzOf C f) (drawnOf C call f) n rest (envPut env1 o1.dst x) h2 = some (ex, env3, h3) → aDeferred C call n f' us h3 = some h' →
                      aRes C env3 h' fn.results.toList = some vs → v = packRes vs → CallOk P F ρ f xs w v h' := by
                    intro ex env3 h3 vs hne hrun3 hdef hres hv
                    refine calls_of_wp_defers hF.at_ hcode (wp_seq ?_)
                    have hwp1 := run_wp (D := []) hcall hC (drawn_ok hC hcall [] f fn.ntmps) n a _ _ _ _ _ hrun1 k2.1 k1.1 F ρ { tmps := xs.toArray ++ Array.replicate (fn.ntmps - xs.toArray.size) undef, defers := [] } w sm (by simpa using initEnv_rel hr fn.ntmps) (by simpa using hsz) rfl
                    refine wp_mono hwp1 ?_
                    rintro e a1 w1 ⟨F1, ρ1, rfl, e1, s1, r1, z1, d1⟩
                    refine wp_seq (wp_region_list ?_)
                    rw [hops]
                    have hdo : ∀ d, o1.dst = some d → d < a1.tmps.size := fun d hd => by
                      have := Array.all_eq_true_iff_forall_mem.1 k2.2.1 o1 (by rw [← Array.mem_toList_iff, hops]; simp)
                      rw [hd] at this; rw [z1]; simpa using this
                    simp only [wpList]
                    rw [if_pos (wanted_none hg1 _)]
                    left
                    refine stepOp_wp hcall hC hst s1 (fun y _ v hv => r1.eval y v hv) (fun v1 w2 F2 ρ2 e2 s2 rv => ?_)
                    have r2 := (r1.mono e2).put o1.dst rv hdo
                    rw [if_pos (wanted_none hg2 _)]
                    left
                    have hz2 : (a1.put o1.dst v1).tmps.size = fn.ntmps := by rw [← z1]; cases o1.dst <;> simp [Act.put]
                    have hgr := r2.eval g gv hgv
                    obtain ⟨fa, fb, fn', hgv', hfn', hrel⟩ := aCallee_shape hcal hgr
                    have hds' : ds = #[] := by apply Array.ext'; simpa using hds
                    subst hds'
                    have hdef0 : (a1.put o1.dst v1).defers = [] := by rw [← d1]; cases o1.dst <;> rfl
                    have hdd1 : (Deferred.ofValue ((a1.put o1.dst v1).eval g) #[]).run P w2 = .ok ({ target := .fn (.func f') fb, args := fa } : Deferred) w2 := by
                      rw [hgv']; simp [Deferred.ofValue]
                    generalize hddq : ({ target := .fn (.func f') fb, args := fa } : Deferred) = dd at hdd1
                    have hexec : (execOp (a1.put o1.dst v1).eval o2).run P w2 = .ok (.defer dd) w2 := by
                      unfold execOp
                      rw [hop2]
                      simp [resolve, hdd1]
                    unfold Oper.wp
                    rw [hexec, Oper.upon_defer, hd2]
                    show rest.wp P _ _ _
                    have hwp3 := run_wp (D := [dd]) hcall hC (drawn_ok hC hcall [dd] f fn.ntmps) n rest _ _ _ _ _ hrun3 k2.2.2 k1.2.2 F2 ρ2 ({ (a1.put o1.dst v1) with defers := dd :: (a1.put o1.dst v1).defers }.put none undef) w2 s2 r2 hz2 (by show dd :: (a1.put o1.dst v1).defers = [dd]; rw [hdef0])
                    refine wp_mono hwp3 ?_
                    rintro e a3 w3 ⟨F3, ρ3, rfl, e3, s3, r3, z3, d3⟩
                    have leave : Leaves P fn a3.tmps (fun e w' => ∃ x F' ρ', e = .returned x ∧ Ext F ρ F' ρ' ∧ Sim F' ρ' h' w' ∧ RelV F' ρ' v x) [dd] .returning w3 := by
                      subst hddq
                      have hcf : (invoke (.fn (.func f') fb) fa).run P w3 = .ok (.enter f' (fa ++ fb)) w3 := by
                        have hq := hC.fn _ _ hfn'
                        have hb : ¬ fn'.body = none := by have := hq.body; cases hz : fn'.body <;> simp_all
                        have hn : ¬ fn'.name = "runtime.NumGoroutine" := by simpa using hq.name
                        simp [invoke, callFunc, run_program, hq.at_, hn, hb]
                      refine leaves_cons (by simp) hcf ?_
                      have hd := aDeferred_ok hC hK hcall n hdef s3 (hrel.mono e3)
                      have harr : (fa ++ fb).toList.toArray = fa ++ fb := by simp
                      rw [harr] at hd
                      refine hd.mono ?_
                      rintro e u' w4 ⟨y, F4, ρ4, rfl, rfl, e4, s4⟩
                      obtain ⟨z, g1, g2⟩ := results_sound hC s4 (r3.mono e4) hres
                      exact ⟨z, g1, z, F4, ρ4, rfl, ((e1.trans e2).trans e3).trans e4, s4, by rw [hv]; exact g2⟩
                    cases ex with
                    | exit id => exact absurd rfl (hne id)
                    | normal => show Leaves P fn a3.tmps _ a3.defers .returning w3; rw [d3]; exact leave
                    | ret => show Leaves P fn a3.tmps _ a3.defers .returning w3; rw [d3]; exact leave
                  split at he
                  · simp at he
                  · rename_i ex env3 h3 hne hrun3
                    split at he
                    · rename_i h4 hdef
                      simp only [Option.map_eq_some_iff] at he
                      obtain ⟨vs, hres, he⟩ := he
                      cases he
                      exact fin ex env3 h3 vs (fun id e => hne id e) hrun3 hdef hres rfl
                    · simp at he
                  · simp at he
                · simp at he
              · simp at he
            · simp at he
          · simp at he
        · simp at he
      · simp at he
    · simp at he
theorem drawn_keep {call : CallK} (hcall : CallsKeep call) (f id : Nat) (ops : Array Oper) (env : Env) (h : H) (env' : Env) (h' : H) (hd : drawnOf C call f id ops env h = some (env', h')) (hl : h.lo ≤ h.next) : Keep h h' := by
  unfold drawnOf at hd
  split at hd
  · exact aDrawn_keep hcall hd hl
  · simp at hd
theorem runRec_keep {call : CallK} (hcall : CallsKeep call) {frz : Nat → Bool} {ops : Array Oper} : ∀ (l : List Oper) (env : Env) (h : H) (env' : Env) (h' : H), runRec C call frz ops l env h = some (env', h') → h.lo ≤ h.next → Keep h h'
  | [], env, h, env', h', he, hl => by
    simp only [runRec, Option.some.injEq, Prod.mk.injEq] at he
    obtain ⟨_, rfl⟩ := he; exact .refl _
  | o :: r, env, h, env', h', he, hl => by
    simp only [runRec] at he
    split at he
    · simp at he
    · exact runRec_keep hcall r _ _ _ _ he hl
    · split at he
      · exact runRec_keep hcall r _ _ _ _ he hl
      · split at he
        · rename_i hs
          have q := stepOp_keep hcall hl hs
          exact q.trans (runRec_keep hcall r _ _ _ _ he (q.le hl))
        · simp at he
theorem aDeferred_keep {call : CallK} (hcall : CallsKeep call) (n f : Nat) (args : List V) (h h' : H) (he : aDeferred C call n f args h = some h') (hl : h.lo ≤ h.next) : Keep h h' := by
  unfold aDeferred at he
  split at he
  · simp at he
  · split at he
    · split at he
      · split at he
        · rename_i h1 hrun1
          have q1 := runRec_keep hcall _ _ _ _ _ hrun1 hl
          split at he
          · simp at he
          · rename_i hrun2
            simp only [Option.map_eq_some_iff] at he
            obtain ⟨vs, hres, he⟩ := he
            subst he
            exact q1.trans (run_keep hcall (drawn_keep hcall f) n _ _ _ _ _ _ hrun2 (q1.le hl))
          · simp at he
        · simp at he
      · simp at he
    · simp at he
theorem aCallD_keep {call : CallK} (hcall : CallsKeep call) (n : Nat) : CallsKeep (aCallD C call n) := by
  intro f args h v h' he hl
  unfold aCallD at he
  split at he
  · simp at he
  · split at he
    · split at he
      · split at he
        · rename_i env1 h1 o1 o2 hrun1 hops
          have q1 := run_keep hcall (drawn_keep hcall f) n _ _ _ _ _ _ hrun1 hl
          split at he
          · split at he
            · rename_i hst
              have q2 := stepOp_keep hcall (q1.le hl) hst
              split at he
              · split at he
                · split at he
                  · simp at he
                  · rename_i hrun3
                    have q3 := run_keep hcall (drawn_keep hcall f) n _ _ _ _ _ _ hrun3 (q2.le (q1.le hl))
                    split at he
                    · rename_i h4 hdef
                      simp only [Option.map_eq_some_iff] at he
                      obtain ⟨vs, hres, he⟩ := he
                      cases he
                      exact ((q1.trans q2).trans q3).trans (aDeferred_keep hcall n _ _ _ _ hdef (q3.le (q2.le (q1.le hl))))
                    · simp at he
                  · simp at he
                · simp at he
              · simp at he
            · simp at he
          · simp at he
        · simp at he
      · simp at he
    · simp at he
end
end Go.A
