/- Temporaries, plain regions, control. -/
import Derived.Test.YtgekgcffmmbhbaaGreatA12
import Derived.Tactics
import Derived.LoopN
set_option linter.unusedVariables false
set_option linter.unusedSimpArgs false
noncomputable section
namespace Go.A
open Go
set_option linter.unusedSectionVars false
variable [Outer]
abbrev Env := Tr V
def ofConst (v : Value) : Option V :=
  if scalar v then some (.sc v) else match v with
  | .slice none 0 0 => some (.nl true)
  | _ => none
def evalOp (env : Env) : Operand → Option V
  | .tmp t => env.get t
  | .const v => ofConst v
  | .func f => some (.sc (.func (.func f) #[] #[]))
  | .global _ => none
def envPut (env : Env) (dst : Option Tmp) (v : V) : Env :=
  match dst with
  | some d => env.set d v
  | none => env
def unk : V := .tup []
structure EnvRel (F : Frz) (ρ : Ren) (env : Env) (tmps : Array Value) : Prop where
  at_ : ∀ t v, env.get t = some v → t < tmps.size ∧ RelV F ρ v (tmps.getD t undef)
section
variable {P : Program} {C : Ctx} (hC : CtxOk P C) {F : Frz} {ρ : Ren} {h : H} {w : World}
theorem EnvRel.mono {F' ρ'} (e : Ext F ρ F' ρ') {env : Env} {tmps : Array Value} (h : EnvRel F ρ env tmps) : EnvRel F' ρ' env tmps :=
  ⟨fun t v hv => ⟨(h.at_ t v hv).1, (h.at_ t v hv).2.mono e⟩⟩
theorem unk_rel : RelV F ρ unk undef := ⟨_, .tup .nil, rfl⟩
theorem ofConst_rel {v : Value} {x : V} (he : ofConst v = some x) : RelV F ρ x v := by
  unfold ofConst at he
  split at he
  · rename_i hs; cases he; exact sc_rel hs
  · split at he
    · cases he; exact ⟨_, .nl (a := none) rfl, rfl⟩
    · simp at he
theorem EnvRel.eval {env : Env} {a : Act} (h : EnvRel F ρ env a.tmps) (x : Operand) (v : V) (he : evalOp env x = some v) : RelV F ρ v (a.eval x) := by
  cases x with
  | tmp t => exact (h.at_ t v he).2
  | const c => exact ofConst_rel he
  | func f => simp only [evalOp, Option.some.injEq] at he; subst he; exact sc_rel rfl
  | global g => simp [evalOp] at he
theorem EnvRel.put {env : Env} {a : Act} (h : EnvRel F ρ env a.tmps) (dst : Option Tmp) {v : V} {x : Value} (hv : RelV F ρ v x) (hd : ∀ d, dst = some d → d < a.tmps.size) : EnvRel F ρ (envPut env dst v) (a.put dst x).tmps := by
  cases dst with
  | none => exact h
  | some d =>
    refine ⟨fun t u hu => ?_⟩
    simp only [envPut, Tr.get_set] at hu
    have hdlt := hd d rfl
    by_cases e : t = d
    · subst e
      simp only [if_true, Option.some.injEq] at hu
      subst hu
      simp [Act.put, hdlt, hv]
    · simp only [e, if_false] at hu
      obtain ⟨h1, h2⟩ := h.at_ t u hu
      refine ⟨by simpa [Act.put] using h1, ?_⟩
      have : (a.put (some d) x).tmps.getD t undef = a.tmps.getD t undef := by
        simp [Act.put, Array.getElem?_setIfInBounds_ne (Ne.symm e)]
      rw [this]; exact h2
def aWanted (ops : Array Oper) (env : Env) (o : Oper) : Option Bool :=
  match o.guard with
  | none => some true
  | some (j, want) => match (ops[j]?).bind (·.dst) with
    | some d => match env.get d with
      | some (.sc (.bool b)) => some (b == want)
      | some (.tup []) => some false
      | _ => none
    | none => none
theorem aWanted_sound' {ops : Array Oper} {env : Env} {o : Oper} {b : Bool} {a : Act} (he : aWanted ops env o = some b)
    (h : ∀ j want d v, o.guard = some (j, want) → (ops[j]?).bind (·.dst) = some d → env.get d = some v → d < a.tmps.size ∧ RelV F ρ v (a.tmps.getD d undef)) : Region.wanted o (yielded ops a.tmps) = b := by
  unfold aWanted at he
  unfold Region.wanted
  split at he
  · rename_i hg; cases he; rw [hg]
  · rename_i j want hg
    rw [hg]
    split at he
    · rename_i d hd
      have hy : yielded ops a.tmps j = match a.tmps[d]? with | some (.bool b) => some b | _ => none := by
        unfold yielded; rw [hd]; rfl
      split at he
      · rename_i b' hb
        cases he
        obtain ⟨h1, h2⟩ := h _ _ _ _ hg hd hb
        obtain ⟨h3, _⟩ := sc_val h2
        have h4 : a.tmps[d]? = some (.bool b') := by
          rw [Array.getElem?_eq_getElem h1]
          simp [h1] at h3; rw [h3]
        simp only [hy, h4]
        cases b' <;> cases want <;> rfl
      · rename_i hb
        cases he
        obtain ⟨h1, h2⟩ := h _ _ _ _ hg hd hb
        obtain ⟨cs, hr, hq⟩ := h2
        have h4 : a.tmps[d]? = some undef := by
          rw [Array.getElem?_eq_getElem h1]
          cases hr with
          | tup hr => cases hr; simp [h1, V.pack] at hq; rw [hq]; rfl
        simp only [hy, h4, undef]
        rfl
      · simp at he
    · simp at he
theorem aWanted_sound {ops : Array Oper} {env : Env} {o : Oper} {b : Bool} {a : Act} (he : aWanted ops env o = some b) (h : EnvRel F ρ env a.tmps) : Region.wanted o (yielded ops a.tmps) = b :=
  aWanted_sound' (F := F) (ρ := ρ) he (fun _ _ d v _ _ hv => h.at_ d v hv)
abbrev CallK := FuncId → List V → H → Option (V × H)
/-- What a call that the abstract side has reckoned is in the model. -/
def CallOk (P : Program) (F : Frz) (ρ : Ren) (f : FuncId) (xs : List Value) (w : World) (v : V) (h' : H) : Prop :=
  Calls P f xs.toArray w fun e w' => ∃ x F' ρ', e = .returned x ∧ Ext F ρ F' ρ' ∧ Sim F' ρ' h' w' ∧ RelV F' ρ' v x
def CallsOk (P : Program) (call : CallK) : Prop :=
  ∀ f args h v h', call f args h = some (v, h') → ∀ F ρ w xs, Sim F ρ h w → RelTs F ρ args xs → CallOk P F ρ f xs w v h'
def stepOp (C : Ctx) (call : CallK) (frz : Bool) (ev : Operand → Option V) (o : Oper) (h : H) : Option (V × H) :=
  match opEval C frz ev o h with
  | some (.v x, h') => some (x, h')
  | some (.skip, h') => some (unk, h')
  | some (.call f args, h') => call f args h'
  | none => none
def runOps (C : Ctx) (call : CallK) (frz : Nat → Bool) (ops : Array Oper) : List Oper → Env → H → Option (Env × H)
  | [], env, h => some (env, h)
  | o :: r, env, h => match aWanted ops env o with
    | none => none
    | some false => runOps C call frz ops r (envPut env o.dst unk) h
    | some true => match stepOp C call (frz (o.dst.getD 0)) (evalOp env) o h with
      | some (x, h') => runOps C call frz ops r (envPut env o.dst x) h'
      | none => none
/-- One operation as the walk meets it. -/
theorem stepOp_wp {call : CallK} (hcall : CallsOk P call) {frz : Bool} {ev : Operand → Option V} {o : Oper} {x : V} {h' : H} {a : Act} {K : Act → World → Prop} {Q : Exit → Act → World → Prop} (hC : CtxOk P C) (he : stepOp C call frz ev o h = some (x, h')) (sm : Sim F ρ h w)
    (hev : A.EvRel F ρ ev a o.op.operands.toList) (hK : ∀ v w' F' ρ', Ext F ρ F' ρ' → Sim F' ρ' h' w' → RelV F' ρ' x v → K (a.put o.dst v) w') : o.wp P a w K Q := by
  unfold stepOp at he
  unfold Oper.wp
  split at he
  · rename_i y h1 hop
    cases he
    obtain ⟨v, w', F', ρ', g1, g2, g3, g4⟩ := opEval_sound hC hop sm hev
    rw [g1]; exact hK v w' F' ρ' g2 g3 g4
  · rename_i h1 hop
    cases he
    obtain ⟨w', F', ρ', g1, g2, g3⟩ := opEval_sound hC hop sm hev
    rw [g1]; exact hK undef w' F' ρ' g2 g3 unk_rel
  · rename_i f args h1 hop
    obtain ⟨xs, g1, g2, g3, fn, g4⟩ := opEval_sound hC hop sm hev
    rw [g1]
    refine (hcall f args h1 x h' he F ρ w xs g2 g3).mono ?_
    rintro e w' ⟨y, F', ρ', rfl, q1, q2, q3⟩
    exact hK y w' F' ρ' q1 q2 q3
  · simp at he
theorem runOps_wp {call : CallK} (hcall : CallsOk P call) (hC : CtxOk P C) {frz : Nat → Bool} {ops : Array Oper} {Q : Exit → Act → World → Prop} {n : Nat} (hd : ∀ o ∈ ops, ∀ d, o.dst = some d → d < n) :
    ∀ (l : List Oper) (env : Env) (h : H) (env' : Env) (h' : H) (F : Frz) (ρ : Ren) (a : Act) (w : World), runOps C call frz ops l env h = some (env', h') → (∀ o ∈ l, o ∈ ops) → Sim F ρ h w → EnvRel F ρ env a.tmps → a.tmps.size = n →
      (∀ a' w' F' ρ', Ext F ρ F' ρ' → Sim F' ρ' h' w' → EnvRel F' ρ' env' a'.tmps → a'.tmps.size = n → a'.defers = a.defers → Q .normal a' w') → wpList P ops Q l a w
  | [], env, h, env', h', F, ρ, a, w, he, hl, sm, hr, hn, hQ => by
    simp only [runOps, Option.some.injEq, Prod.mk.injEq] at he
    obtain ⟨rfl, rfl⟩ := he
    exact hQ a w F ρ (.refl _ _) sm hr hn rfl
  | o :: r, env, h, env', h', F, ρ, a, w, he, hl, sm, hr, hn, hQ => by
    have hdo : ∀ d, o.dst = some d → d < a.tmps.size := fun d hd' => by rw [hn]; exact hd o (hl o (by simp)) d hd'
    have hput : ∀ v, (a.put o.dst v).tmps.size = n := fun v => by
      rw [← hn]; cases o.dst <;> simp [Act.put]
    have hdef : ∀ v, (a.put o.dst v).defers = a.defers := fun v => by cases o.dst <;> rfl
    simp only [runOps] at he
    simp only [wpList]
    split at he
    · simp at he
    · rename_i hw
      rw [aWanted_sound hw hr]
      simp only [Bool.false_eq_true, if_false]
      exact runOps_wp hcall hC hd r _ h env' h' F ρ _ w he (fun o ho => hl o (by simp [ho])) sm (hr.put o.dst unk_rel hdo) (hput _) (fun a' w' F' ρ' g1 g2 g3 g4 g5 => hQ a' w' F' ρ' g1 g2 g3 g4 (by rw [g5, hdef]))
    · rename_i hw
      rw [aWanted_sound hw hr]
      simp only [if_true]
      left
      split at he
      · rename_i x h1 hs
        refine stepOp_wp hcall hC hs sm (fun y _ v hv => hr.eval y v hv) (fun v w' F' ρ' e1 s1 r1 => ?_)
        exact runOps_wp hcall hC hd r _ h1 env' h' F' ρ' _ w' he (fun o ho => hl o (by simp [ho])) s1 ((hr.mono e1).put o.dst r1 hdo) (hput _)
          (fun a' w'' F'' ρ'' g1 g2 g3 g4 g5 => hQ a' w'' F'' ρ'' (e1.trans g1) g2 g3 g4 (by rw [g5, hdef]))
      · simp at he

/-! ### control -/
inductive Ex where
  | normal
  | exit (id : Nat)
  | ret
  deriving DecidableEq
def Ex.conv : Ex → Exit
  | .normal => .normal
  | .exit id => .exit id
  | .ret => .ret
def loopN (f : Env → H → Option (Ex × Env × H)) : Nat → Env → H → Option (Ex × Env × H)
  | 0, _, _ => none
  | n + 1, env, h => match f env h with
    | some (.normal, e, h') => loopN f n e h'
    | r => r
/-- How a region whose order is drawn is run; given from outside (A14). -/
def run (C : Ctx) (call : CallK) (frz : Nat → Bool) (drawn : Nat → Array Oper → Env → H → Option (Env × H)) (n : Nat) : Code → Env → H → Option (Ex × Env × H)
  | .skip, env, h => some (.normal, env, h)
  | .region id ops d, env, h => ((if d then drawn id ops env h else runOps C call frz ops ops.toList env h)).map fun x => (.normal, x.1, x.2)
  | .seq a b, env, h => match run C call frz drawn n a env h with
    | some (.normal, e, h') => run C call frz drawn n b e h'
    | r => r
  | .cond c a b, env, h => match evalOp env c with
    | some (.sc (.bool t)) => if t then run C call frz drawn n a env h else run C call frz drawn n b env h
    | _ => none
  | .block id b, env, h => match run C call frz drawn n b env h with
    | some (.exit id', e, h') => if id' = id then some (.normal, e, h') else some (.exit id', e, h')
    | r => r
  | .loop b, env, h => loopN (run C call frz drawn n b) n env h
  | .exit id, env, h => some (.exit id, env, h)
  | .ret, env, h => some (.ret, env, h)
  | _, _, _ => none
def Post (D : List Deferred) (F : Frz) (ρ : Ren) (n : Nat) (ex : Ex) (env : Env) (h : H) : Exit → Act → World → Prop := fun e a w =>
  ∃ F' ρ', e = ex.conv ∧ Ext F ρ F' ρ' ∧ Sim F' ρ' h w ∧ EnvRel F' ρ' env a.tmps ∧ a.tmps.size = n ∧ a.defers = D
/-- All temporaries that a code writes lie within the frame. -/
def codeFits (n : Nat) : Code → Bool
  | .region _ ops _ => ops.all fun o => match o.dst with | some d => decide (d < n) | none => true
  | .seq a b => codeFits n a && codeFits n b
  | .cond _ a b => codeFits n a && codeFits n b
  | .block _ b => codeFits n b
  | .loop b => codeFits n b
  | _ => true
def regionsAll (p : Nat → Array Oper → Bool) : Code → Bool
  | .region id ops d => !d || p id ops
  | .seq a b => regionsAll p a && regionsAll p b
  | .cond _ a b => regionsAll p a && regionsAll p b
  | .block _ b => regionsAll p b
  | .loop b => regionsAll p b
  | _ => true
def DrawnOk (P : Program) (D : List Deferred) (sz : Nat) (good : Nat → Array Oper → Bool) (drawn : Nat → Array Oper → Env → H → Option (Env × H)) : Prop :=
  ∀ id ops env h env' h', good id ops = true → drawn id ops env h = some (env', h') → (∀ o ∈ ops, ∀ d, o.dst = some d → d < sz) → ∀ F ρ a w, Sim F ρ h w → EnvRel F ρ env a.tmps → a.tmps.size = sz → a.defers = D →
    (Code.region id ops true).wp P (Post D F ρ sz .normal env' h') a w
theorem Post.ext {D F ρ F' ρ' n ex env h e a w} (x : Ext F ρ F' ρ') (p : Post D F' ρ' n ex env h e a w) : Post D F ρ n ex env h e a w :=
  let ⟨F'', ρ'', h1, h2, h3⟩ := p; ⟨F'', ρ'', h1, x.trans h2, h3⟩
theorem run_wp {D : List Deferred} {call : CallK} (hcall : CallsOk P call) (hC : CtxOk P C) {frz : Nat → Bool} {drawn : Nat → Array Oper → Env → H → Option (Env × H)} {sz : Nat} {good : Nat → Array Oper → Bool} (hdr : DrawnOk P D sz good drawn) (n : Nat) :
    ∀ (c : Code) (env : Env) (h : H) (ex : Ex) (env' : Env) (h' : H), run C call frz drawn n c env h = some (ex, env', h') → codeFits sz c = true → regionsAll good c = true → ∀ F ρ a w, Sim F ρ h w → EnvRel F ρ env a.tmps → a.tmps.size = sz → a.defers = D → c.wp P (Post D F ρ sz ex env' h') a w := by
  intro c
  induction c with
  | skip => intro env h ex env' h' he hf hg F ρ a w sm hr hs hd; simp only [run, Option.some.injEq, Prod.mk.injEq] at he; obtain ⟨rfl, rfl, rfl⟩ := he; exact wp_skip ⟨F, ρ, rfl, .refl _ _, sm, hr, hs, hd⟩
  | region id ops d =>
    intro env h ex env' h' he hf hg F ρ a w sm hr hs hd
    simp only [run, Option.map_eq_some_iff] at he
    obtain ⟨⟨e1, h1⟩, hx, he⟩ := he
    cases he
    have hdst : ∀ o ∈ ops, ∀ d, o.dst = some d → d < sz := fun o ho d hd' => by
      have := Array.all_eq_true_iff_forall_mem.1 hf o ho
      rw [hd'] at this; simpa using this
    cases d with
    | true => exact hdr id ops env h e1 h1 (by simpa [regionsAll] using hg) hx hdst F ρ a w sm hr hs hd
    | false =>
      refine wp_region_list (runOps_wp hcall hC hdst ops.toList env h e1 h1 F ρ a w hx (by simp) sm hr hs (fun a' w' F' ρ' g1 g2 g3 g4 g5 => ⟨F', ρ', rfl, g1, g2, g3, g4, by rw [g5, hd]⟩))
  | seq x y ihx ihy =>
    intro env h ex env' h' he hf hg F ρ a w sm hr hs hd
    simp only [codeFits, Bool.and_eq_true] at hf
    simp only [regionsAll, Bool.and_eq_true] at hg
    simp only [run] at he
    refine wp_seq ?_
    split at he
    · rename_i e1 h1 hx
      refine wp_mono (ihx _ _ _ _ _ hx hf.1 hg.1 F ρ a w sm hr hs hd) ?_
      rintro e a' w' ⟨F', ρ', rfl, g1, g2, g3, g4, g5⟩
      exact wp_mono (ihy _ _ _ _ _ he hf.2 hg.2 F' ρ' a' w' g2 g3 g4 g5) (fun e a w p => p.ext g1)
    · rename_i hne
      refine wp_mono (ihx _ _ _ _ _ he hf.1 hg.1 F ρ a w sm hr hs hd) ?_
      rintro e a' w' ⟨F', ρ', rfl, g⟩
      cases ex with
      | normal => exact absurd he (hne _ _)
      | exit id => exact ⟨F', ρ', rfl, g⟩
      | ret => exact ⟨F', ρ', rfl, g⟩
  | cond c x y ihx ihy =>
    intro env h ex env' h' he hf hg F ρ a w sm hr hs hd
    simp only [codeFits, Bool.and_eq_true] at hf
    simp only [regionsAll, Bool.and_eq_true] at hg
    simp only [run] at he
    split at he
    · rename_i t ht
      obtain ⟨hv, _⟩ := sc_val (hr.eval c _ ht)
      refine wp_cond hv ?_
      cases t
      · exact ihy _ _ _ _ _ he hf.2 hg.2 F ρ a w sm hr hs hd
      · exact ihx _ _ _ _ _ he hf.1 hg.1 F ρ a w sm hr hs hd
    · simp at he
  | block id b ih =>
    intro env h ex env' h' he hf hg F ρ a w sm hr hs hd
    simp only [run] at he
    refine wp_block ?_
    split at he
    · rename_i id' e1 h1 hx
      refine wp_mono (ih _ _ _ _ _ hx hf hg F ρ a w sm hr hs hd) ?_
      rintro e a' w' ⟨F', ρ', rfl, g⟩
      simp only [Ex.conv, Exit.inBlock]
      split at he
      · rename_i hid
        cases he
        rw [if_pos hid]; exact ⟨F', ρ', rfl, g⟩
      · rename_i hid
        cases he
        rw [if_neg hid]; exact ⟨F', ρ', rfl, g⟩
    · rename_i hne
      refine wp_mono (ih _ _ _ _ _ he hf hg F ρ a w sm hr hs hd) ?_
      rintro e a' w' ⟨F', ρ', rfl, g⟩
      cases ex with
      | normal => exact ⟨F', ρ', rfl, g⟩
      | exit id' => exact absurd he (hne _ _ _)
      | ret => exact ⟨F', ρ', rfl, g⟩
  | loop b ih =>
    intro env h ex env' h' he hf hg F ρ a w sm hr hs hd
    simp only [run] at he
    refine wp_loop_rounds n ?_
    have key : ∀ (m : Nat) (env : Env) (h : H) (F : Frz) (ρ : Ren) (a : Act) (w : World), loopN (run C call frz drawn n b) m env h = some (ex, env', h') → Sim F ρ h w → EnvRel F ρ env a.tmps → a.tmps.size = sz → a.defers = D →
        Code.rounds P b (Post D F ρ sz ex env' h') m a w := by
      intro m
      induction m with
      | zero => intro env h F ρ a w he; simp [loopN] at he
      | succ m ihm =>
        intro env h F ρ a w he sm hr hs hd
        rw [rounds_succ]
        simp only [loopN] at he
        split at he
        · rename_i e1 h1 hx
          refine wp_mono (ih _ _ _ _ _ hx hf hg F ρ a w sm hr hs hd) ?_
          rintro e a' w' ⟨F', ρ', rfl, g1, g2, g3, g4, g5⟩
          show Code.rounds P b _ m a' w'
          have := ihm e1 h1 F' ρ' a' w' he g2 g3 g4 g5
          -- the post may be weakened
          have mono : ∀ (k : Nat) (a : Act) (w : World), Code.rounds P b (Post D F' ρ' sz ex env' h') k a w → Code.rounds P b (Post D F ρ sz ex env' h') k a w := by
            intro k
            induction k with
            | zero => intro a w hh; exact hh
            | succ k ihk =>
              intro a w hh
              rw [rounds_succ] at hh ⊢
              refine wp_mono hh (fun e a w p => ?_)
              cases e with
              | normal => exact ihk _ _ p
              | _ => exact Post.ext g1 p
          exact mono m a' w' this
        · rename_i hne
          refine wp_mono (ih _ _ _ _ _ he hf hg F ρ a w sm hr hs hd) ?_
          rintro e a' w' ⟨F', ρ', rfl, g⟩
          cases ex with
          | normal => exact absurd he (hne _ _)
          | exit id => exact ⟨F', ρ', rfl, g⟩
          | ret => exact ⟨F', ρ', rfl, g⟩
    exact key n env h F ρ a w he sm hr hs hd
  | exit id => intro env h ex env' h' he hf hg F ρ a w sm hr hs hd; simp only [run, Option.some.injEq, Prod.mk.injEq] at he; obtain ⟨rfl, rfl, rfl⟩ := he; exact wp_exit ⟨F, ρ, rfl, .refl _ _, sm, hr, hs, hd⟩
  | ret => intro env h ex env' h' he hf hg F ρ a w sm hr hs hd; simp only [run, Option.some.injEq, Prod.mk.injEq] at he; obtain ⟨rfl, rfl, rfl⟩ := he; exact wp_ret ⟨F, ρ, rfl, .refl _ _, sm, hr, hs, hd⟩
  | rangeFunc f ps x y ihx ihy => intro env h ex env' h' he; simp [run] at he
  | scope b ih => intro env h ex env' h' he; simp [run] at he
  | label l => intro env h ex env' h' he; simp [run] at he
  | goto l => intro env h ex env' h' he; simp [run] at he
  | refuse why => intro env h ex env' h' he; simp [run] at he
end
end Go.A
