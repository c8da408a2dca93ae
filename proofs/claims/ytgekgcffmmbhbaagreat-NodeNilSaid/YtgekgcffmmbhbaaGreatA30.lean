/- Rounds of a range over a function: registers that change in blocks which hold no cells; straight code in a round. -/
import Derived.Test.YtgekgcffmmbhbaaGreatA29
import Derived.RangeFuncLeaves
import Derived.RangeFuncCalls
set_option linter.unusedVariables false
set_option linter.unusedSimpArgs false
noncomputable section
namespace Go.A
open Go
set_option linter.unusedSectionVars false
variable [Outer]
def chgF (F : Frz) (l : Nat) (o : Obj) : Frz := fun n => if n = l then some o else F n
def noCells : Obj → Bool
  | .cells _ _ _ => false
  | _ => true
theorem chgF_same (F : Frz) (l : Nat) (o : Obj) : chgF F l o l = some o := by simp [chgF]
theorem chgF_ne (F : Frz) {l n : Nat} (o : Obj) (h : n ≠ l) : chgF F l o n = F n := by simp [chgF, h]
section
variable {P : Program} {C : Ctx} {F : Frz} {ρ : Ren} {h : H} {w : World}
theorem chg_wext {l : Nat} {o0 o : Obj} (h0 : F l = some o0) (hn : noCells o0 = true) : WExt F ρ (chgF F l o) ρ :=
  ⟨fun n c E fz hq => by
    by_cases e : n = l
    · subst e; rw [h0] at hq; cases hq; simp [noCells] at hn
    · rw [chgF_ne _ _ e]; exact hq, fun _ _ hh => hh⟩
theorem Sim.chg (s : Sim F ρ h w) {l : Nat} {o0 o : Obj} (h0 : F l = some o0) (hn : noCells o0 = true) : Sim (chgF F l o) ρ h (w.putObj l o) := by
  have hl : l < w.heap.size := (Array.getElem?_eq_some_iff.1 (s.frz l o0 h0)).1
  have hne : ∀ b x l', h.get b = some x → ρ b = some l' → l'.bb ≠ l := by
    intro b x l' hx hl' e
    obtain ⟨o', ho', hok⟩ := s.blk b x l' hx hl'
    cases hw : x.writable with
    | true => have := s.live b x l' hx hl' hw; rw [e, h0] at this; cases this
    | false =>
      cases hok with
      | cells hs hf hr hn' hin => rw [e, s.frz l o0 h0] at ho'; cases ho'; simp [noCells] at hn
      | map he => simp [Blk.writable] at hw
      | it hm hs => simp [Blk.writable] at hw
  refine ⟨fun n o' hq => ?_, s.dom, fun b x l' hx hl' => ?_, s.inj, fun b x l' hx hl' hw => ?_, s.nx, s.same ⟨rfl, rfl⟩⟩
  · by_cases e : n = l
    · subst e; rw [chgF_same] at hq; cases hq; exact World.putObj_heap_same hl
    · rw [chgF_ne _ _ e] at hq; rw [World.putObj_heap_other e]; exact s.frz n o' hq
  · obtain ⟨o', ho', hok⟩ := s.blk b x l' hx hl'
    exact ⟨o', by rw [World.putObj_heap_other (hne b x l' hx hl')]; exact ho', hok.wmono (chg_wext h0 hn)⟩
  · rw [chgF_ne _ _ (hne b x l' hx hl')]; exact s.live b x l' hx hl' hw
theorem Ext.chg {F' ρ'} (e : Ext F ρ F' ρ') {l : Nat} {o : Obj} (h0 : F l = none) : Ext F ρ (chgF F' l o) ρ' :=
  ⟨fun n o' hq => by
    by_cases en : n = l
    · subst en; rw [h0] at hq; cases hq
    · rw [chgF_ne _ _ en]; exact e.f n o' hq, e.r, e.n, e.s⟩
theorem EnvRel.wmono {F' ρ'} (e : WExt F ρ F' ρ') {env : Env} {tmps : Array Value} (h : EnvRel F ρ env tmps) : EnvRel F' ρ' env tmps :=
  ⟨fun t v hv => ⟨(h.at_ t v hv).1, (h.at_ t v hv).2.wmono e⟩⟩
/-- Every function may be met; the frame is a round's, or a function's. -/
abbrev wideR (ro : Option Nat) : Fence := { Fence.wide with round := ro }
def notDefer (o : Oper) : Bool :=
  match o.op with
  | .defer _ => false
  | _ => true
/-- Straight code. -/
def runL (C : Ctx) (call : CallK) (frz : Nat → Bool) : Code → Env → H → Option (Env × H)
  | .skip, env, h => some (env, h)
  | .region _ ops d, env, h => if !d && ops.all notDefer then runOps C call frz ops ops.toList env h else none
  | .seq a b, env, h => match runL C call frz a env h with
    | some (e, h') => runL C call frz b e h'
    | none => none
  | .block _ b, env, h => runL C call frz b env h
  | _, _, _ => none
theorem stepOp_wpIn {call : CallK} (hcall : CallsOk P call) {frz : Bool} {ev : Operand → Option V} {o : Oper} {x : V} {h' : H} {a : Act} {K : Act → World → Prop} {Q : Exit → Act → World → Prop} {ro : Option Nat} {n : Nat} (hnd : notDefer o = true) (hC : CtxOk P C) (he : stepOp C call frz ev o h = some (x, h')) (sm : Sim F ρ h w)
    (hev : A.EvRel F ρ ev a o.op.operands.toList) (hK : ∀ v w' F' ρ', Ext F ρ F' ρ' → Sim F' ρ' h' w' → RelV F' ρ' x v → K (a.put o.dst v) w') : o.wpIn (wideR ro) n P a w K Q := by
  have hsem : o.semAt (wideR ro).round a.eval = execOp a.eval o := Oper.semAt_eq _ _ _ (fun c hc => by simp [notDefer, hc] at hnd)
  refine ⟨fun _ _ => trivial, ?_⟩
  rw [hsem]
  unfold stepOp at he
  split at he
  · rename_i y h1 hop
    cases he
    obtain ⟨v, w', F', ρ', g1, g2, g3, g4⟩ := opEval_sound hC hop sm hev
    rw [g1]; exact hK v w' F' ρ' g2 g3 g4
  · rename_i h1 hop
    cases he
    obtain ⟨w', F', ρ', g1, g2, g3⟩ := opEval_sound hC hop sm hev
    rw [g1]; exact hK undef w' F' ρ' g2 g3 unk_rel
  · rename_i f args h1 hop
    obtain ⟨xs, g1, g2, g3, fn, g4⟩ := opEval_sound hC hop sm hev
    rw [g1, Oper.uponIn_enter]
    refine ⟨fun hq => (by cases hq), callsIn_wide.2 ((hcall f args h1 x h' he F ρ w xs g2 g3).mono ?_)⟩
    rintro e w' ⟨y, F', ρ', rfl, q1, q2, q3⟩
    exact hK y w' F' ρ' q1 q2 q3
  · simp at he
theorem runOps_wpIn {call : CallK} (hcall : CallsOk P call) (hC : CtxOk P C) {frz : Nat → Bool} {ops : Array Oper} {Q : Exit → Act → World → Prop} {ro : Option Nat} {n m : Nat} (hd : ∀ o ∈ ops, ∀ d, o.dst = some d → d < n) :
    ∀ (L : List Oper) (k : Nat) (env : Env) (h : H) (env' : Env) (h' : H) (F : Frz) (ρ : Ren) (a : Act) (w : World), runOps C call frz ops L env h = some (env', h') → (∀ o ∈ L, notDefer o = true) → (∀ q, L[q]? = ops[k + q]?) → Sim F ρ h w → EnvRel F ρ env a.tmps → a.tmps.size = n →
      (∀ a' w' F' ρ', Ext F ρ F' ρ' → Sim F' ρ' h' w' → EnvRel F' ρ' env' a'.tmps → a'.tmps.size = n → a'.defers = a.defers → (∀ t, (∀ o ∈ L, o.dst ≠ some t) → a'.tmps.getD t undef = a.tmps.getD t undef) → Q .normal a' w') → wpOpsIn (wideR ro) m P ops Q (List.range' k L.length) a w
  | [], k, env, h, env', h', F, ρ, a, w, he, hnd, hl, sm, hr, hn, hQ => by
    simp only [runOps, Option.some.injEq, Prod.mk.injEq] at he
    obtain ⟨rfl, rfl⟩ := he
    simp only [List.length_nil, List.range'_zero, wpOpsIn]
    exact hQ a w F ρ (.refl _ _) sm hr hn rfl (fun _ _ => rfl)
  | o :: r, k, env, h, env', h', F, ρ, a, w, he, hnd, hl, sm, hr, hn, hQ => by
    have ho : ops[k]? = some o := by have := hl 0; simpa using this.symm
    have hom : o ∈ ops := Array.mem_of_getElem? ho
    have hl' : ∀ q, r[q]? = ops[(k + 1) + q]? := fun q => by have := hl (q + 1); simp only [List.getElem?_cons_succ] at this; rw [this]; congr 1; omega
    have hdo : ∀ d, o.dst = some d → d < a.tmps.size := fun d hd' => by rw [hn]; exact hd o hom d hd'
    have hput : ∀ v, (a.put o.dst v).tmps.size = n := fun v => by
      rw [← hn]; cases o.dst <;> simp [Act.put]
    have hnd' : ∀ o ∈ r, notDefer o = true := fun o ho => hnd o (by simp [ho])
    have hkeep : ∀ v t, o.dst ≠ some t → (a.put o.dst v).tmps.getD t undef = a.tmps.getD t undef := fun v t ht => by
      cases hq : o.dst with
      | none => rfl
      | some d => rw [hq] at ht; simp [Act.put, Array.getElem?_setIfInBounds_ne (show d ≠ t from fun e => ht (by rw [e]))]
    have hdef : ∀ v, (a.put o.dst v).defers = a.defers := fun v => by cases o.dst <;> rfl
    simp only [runOps] at he
    simp only [List.length_cons, List.range'_succ, wpOpsIn, ho]
    split at he
    · simp at he
    · rename_i hw
      rw [aWanted_sound hw hr]
      simp only [Bool.false_eq_true, if_false]
      exact ⟨fun _ _ => trivial, runOps_wpIn hcall hC hd r (k + 1) _ h env' h' F ρ _ w he hnd' hl' sm (hr.put o.dst unk_rel hdo) (hput _) (fun a' w' F' ρ' g1 g2 g3 g4 g5 g6 => hQ a' w' F' ρ' g1 g2 g3 g4 (by rw [g5, hdef]) (fun t ht => (g6 t (fun o' ho' => ht o' (by simp [ho']))).trans (hkeep _ t (ht o (by simp)))))⟩
    · rename_i hw
      rw [aWanted_sound hw hr]
      simp only [if_true]
      split at he
      · rename_i x h1 hs
        exact stepOp_wpIn hcall (hnd o (by simp)) hC hs sm (fun y _ v hv => hr.eval y v hv) (fun v w' F' ρ' e1 s1 r1 =>
          runOps_wpIn hcall hC hd r (k + 1) _ h1 env' h' F' ρ' _ w' he hnd' hl' s1 ((hr.mono e1).put o.dst r1 hdo) (hput _)
            (fun a' w'' F'' ρ'' g1 g2 g3 g4 g5 g6 => hQ a' w'' F'' ρ'' (e1.trans g1) g2 g3 g4 (by rw [g5, hdef]) (fun t ht => (g6 t (fun o' ho' => ht o' (by simp [ho']))).trans (hkeep _ t (ht o (by simp))))))
      · simp at he
theorem runL_wpIn {call : CallK} (hcall : CallsOk P call) (hC : CtxOk P C) {frz : Nat → Bool} {sz m : Nat} {ro : Option Nat} : ∀ (c : Code) (env : Env) (h : H) (env' : Env) (h' : H), runL C call frz c env h = some (env', h') → codeFits sz c = true →
    ∀ (F : Frz) (ρ : Ren) (a : Act) (w : World) (Q : Exit → Act → World → Prop), Sim F ρ h w → EnvRel F ρ env a.tmps → a.tmps.size = sz →
      (∀ a' w' F' ρ', Ext F ρ F' ρ' → Sim F' ρ' h' w' → EnvRel F' ρ' env' a'.tmps → a'.tmps.size = sz → a'.defers = a.defers → Q .normal a' w') → c.wpIn (wideR ro) m P Q a w := by
  intro c
  induction c with
  | skip =>
    intro env h env' h' he hf F ρ a w Q sm hr hs hQ
    simp only [runL, Option.some.injEq, Prod.mk.injEq] at he
    obtain ⟨rfl, rfl⟩ := he
    exact wpIn_skip (hQ a w F ρ (.refl _ _) sm hr hs rfl)
  | region id ops d =>
    intro env h env' h' he hf F ρ a w Q sm hr hs hQ
    simp only [runL] at he
    split at he
    · rename_i hc
      simp only [Bool.and_eq_true, Bool.not_eq_true', Array.all_eq_true_iff_forall_mem] at hc
      obtain ⟨rfl, hnd⟩ := hc
      have hdst : ∀ o ∈ ops, ∀ d, o.dst = some d → d < sz := fun o ho d hd' => by
        have := Array.all_eq_true_iff_forall_mem.1 hf o ho
        rw [hd'] at this; simpa using this
      refine wpIn_region ?_
      rw [List.range_eq_range']
      have hsize : ops.size = ops.toList.length := by simp
      rw [hsize]
      exact runOps_wpIn hcall hC hdst ops.toList 0 env h env' h' F ρ a w he (fun o ho => hnd o (by simpa using ho)) (by simp) sm hr hs (fun a' w' F' ρ' g1 g2 g3 g4 g5 _ => hQ a' w' F' ρ' g1 g2 g3 g4 g5)
    · simp at he
  | seq x y ihx ihy =>
    intro env h env' h' he hf F ρ a w Q sm hr hs hQ
    simp only [codeFits, Bool.and_eq_true] at hf
    simp only [runL] at he
    split at he
    · rename_i e1 h1 hx
      exact wpIn_seq (ihx _ _ _ _ hx hf.1 F ρ a w _ sm hr hs (fun a1 w1 F1 ρ1 g1 g2 g3 g4 g5 =>
        ihy _ _ _ _ he hf.2 F1 ρ1 a1 w1 Q g2 g3 g4 (fun a2 w2 F2 ρ2 k1 k2 k3 k4 k5 => hQ a2 w2 F2 ρ2 (g1.trans k1) k2 k3 k4 (by rw [k5, g5]))))
    · simp at he
  | block id b ih =>
    intro env h env' h' he hf F ρ a w Q sm hr hs hQ
    exact wpIn_block (ih _ _ _ _ he hf F ρ a w _ sm hr hs hQ)
  | _ => intro env h env' h' he; simp [runL] at he
/-- One round: the key comes into its place, the assignments and the body are run. -/
def aRound (C : Ctx) (call : CallK) (frz : Nat → Bool) (p : Nat) (assign body : Code) (env : Env) (k : V) (h : H) : Option H :=
  match runL C call frz assign (env.set p k) h with
  | some (env2, h2) => (runL C call frz body env2 h2).map (·.2)
  | none => none
theorem aRound_ok {call : CallK} (hcall : CallsOk P call) (hC : CtxOk P C) {frz : Nat → Bool} {sz l m p : Nat} {r : Loop} {env : Env} {k : V} {x : Value} {h' : H} (hst : r.state = .ready) (hpe : r.pending = none) (hsz : r.tmps.size = sz) (hp : p < sz)
    (f1 : codeFits sz r.assign = true) (f2 : codeFits sz r.body = true) (he : aRound C call frz p r.assign r.body env k h = some h') (sm : Sim F ρ h w) (hl : F l = some (.loop r)) (hr : EnvRel F ρ env r.tmps) (hk : RelV F ρ k x) :
    RoundIn Fence.wide m P l r.fn (r.tmps.setIfInBounds p x) r.assign r.body w fun e w' => e = .returned (.bool true) ∧ ∃ F' ρ', Ext F ρ F' ρ' ∧ Sim F' ρ' h' w' := by
  unfold aRound at he
  split at he
  · rename_i env2 h2 hx
    simp only [Option.map_eq_some_iff] at he
    obtain ⟨⟨env3, h3⟩, hy, he⟩ := he
    cases he
    have hr0 : EnvRel F ρ (env.set p k) (r.tmps.setIfInBounds p x) :=
      EnvRel.put (a := { tmps := r.tmps, defers := [] }) hr (some p) hk (fun d hd => by cases hd; rw [hsz]; exact hp)
    refine roundIn_of_wpIn trivial ?_
    refine runL_wpIn (ro := some l) hcall hC _ _ _ _ _ hx f1 F ρ _ w _ sm hr0 (by simpa using hsz) (fun a1 w1 F1 ρ1 e1 s1 r1 z1 d1 => ?_)
    have hl1 := e1.f _ _ hl
    refine ⟨_, run_beginRound (s1.frz _ _ hl1) hst, ?_⟩
    have s2 := s1.chg (o := .loop { r with state := .busy }) hl1 rfl
    have w2 := chg_wext (ρ := ρ1) (o := .loop { r with state := .busy }) hl1 rfl
    refine runL_wpIn (ro := some l) hcall hC _ _ _ _ _ hy f2 _ ρ1 a1 _ _ s2 (r1.wmono w2) z1 (fun a3 w3 F3 ρ3 e3 s3 r3 z3 d3 => ?_)
    have hl3 := e3.f _ _ (chgF_same F1 l (.loop { r with state := .busy }))
    refine ⟨_, _, run_endRound none (s3.frz _ _ hl3), rfl, _, ρ3, ?_, s3.chg hl3 rfl⟩
    refine ⟨fun n o hn => ?_, fun b l' hb => e3.r _ _ (e1.r _ _ hb), Nat.le_trans e1.n e3.n, fun b hb => by rw [e3.s b (Nat.lt_of_lt_of_le hb e1.n), e1.s b hb]⟩
    by_cases en : n = l
    · subst en
      rw [hl] at hn; cases hn
      rw [chgF_same]
      congr 2
      cases r
      simp only at hst hpe
      subst hst hpe
      rfl
    · rw [chgF_ne _ _ en]
      refine e3.f _ _ ?_
      rw [chgF_ne _ _ en]
      exact e1.f _ _ hn
  · simp at he
end
end Go.A
