/- The keys of a map, collected in whatever order and sorted. -/
import Derived.Test.YtgekgcffmmbhbaaGreatA33
set_option linter.unusedVariables false
set_option linter.unusedSimpArgs false
noncomputable section
namespace Go.A
open Go
set_option linter.unusedSectionVars false
variable [Outer]
/-- A function that appends what comes of a range over the keys of a map. -/
def aSeq (C : Ctx) (call : CallK) (n : Nat) : NCallK := fun f args h =>
  match C.fn.get f with
  | none => none
  | some fn => match fn.body with
    | some (.seq a (.seq (.seq r1 (.block _ (.rangeFunc g ps assign body))) rest)) =>
      if args.length ≤ fn.ntmps ∧ codeFits fn.ntmps assign = true ∧ codeFits fn.ntmps body = true then
        (match run C call (frzOf C f) (drawnOf C call f) n a (initEnv args 0 .lf) h with
          | some (.normal, env0, h0) => (match run C call (frzOf C f) (drawnOf C call f) n r1 env0 h0, ps.toList with
            | some (.normal, env1, h1), [p] => if p < fn.ntmps then
                (match evalOp env1 g with
                  | some (.fn (.func gid) [] caps) => (aKeysOf C call n gid caps (aRound C call (frzOf C f) p assign body env1) h1).bind fun hs => mapO (fun h2 => endOf C call n f fn rest env1 h2) hs
                  | _ => none)
              else none
            | _, _ => none)
          | _ => none)
      else none
    | _ => none
/-- A function whose second region calls, as its second operation, a function of several outcomes. -/
def aSecond (C : Ctx) (call : CallK) (inner : NCallK) (n : Nat) : NCallK := fun f args h =>
  match C.fn.get f with
  | none => none
  | some fn => match fn.body with
    | some (.seq a (.seq (.region _ ops false) rest)) => if args.length ≤ fn.ntmps then
        (match run C call (frzOf C f) (drawnOf C call f) n a (initEnv args 0 .lf) h, ops.toList with
          | some (.normal, env0, h0), o1 :: o :: os => (runOps C call (frzOf C f) ops [o1] env0 h0).bind fun s1 => (match o.guard, opEval C (frzOf C f (o.dst.getD 0)) (evalOp s1.1) o s1.2 with
            | none, some (.call f' us, h1) => (inner f' us h1).bind fun outs => mapO (fun x => (runOps C call (frzOf C f) ops os (envPut s1.1 o.dst x.1) x.2).bind fun s2 => endOf C call n f fn rest s2.1 s2.2) outs
            | _, _ => none)
          | _, _ => none)
      else none
    | _ => none
def frzOut (o : V × H) : Option V := (frzV 9 o.1 o.2).map (·.1)
def aSorted (C : Ctx) (call : CallK) (n : Nat) : CallK := fun f args h =>
  (aSecond C call (aSecond C call (aSeq C call n) n) n f args { h with lo := h.next }).bind fun outs => match outs with
    | [] => none
    | o :: r => (frzOut o).bind fun v => if v.idFree && r.all (fun o' => match frzOut o' with
        | some v' => eqV v' v
        | none => false) then some (v, h) else none
section
variable {P : Program} {C : Ctx} {F : Frz} {ρ : Ren} {h : H} {w : World}
theorem plain1_keep {call : CallK} (hcall : CallsKeep call) {frz : Nat → Bool} {o : Oper} {env : Env} {s : Env × H} (he : plain1 C call frz o env h = some s) (hl : h.lo ≤ h.next) : Keep h s.2 := by
  unfold plain1 at he
  split at he
  · simp at he
  · split at he
    · simp only [Option.map_eq_some_iff] at he
      obtain ⟨x, hs, he⟩ := he
      subst he
      exact stepOp_keep hcall hl hs
    · simp at he
theorem runL_keep {call : CallK} (hcall : CallsKeep call) {frz : Nat → Bool} : ∀ (c : Code) (env : Env) (h : H) (env' : Env) (h' : H), runL C call frz c env h = some (env', h') → h.lo ≤ h.next → Keep h h' := by
  intro c
  induction c with
  | skip => intro env h env' h' he hl; simp only [runL, Option.some.injEq, Prod.mk.injEq] at he; rw [← he.2]; exact .refl _
  | region id ops d =>
    intro env h env' h' he hl
    simp only [runL] at he
    split at he
    · exact runOps_keep hcall _ _ _ _ _ he hl
    · simp at he
  | seq x y ihx ihy =>
    intro env h env' h' he hl
    simp only [runL] at he
    split at he
    · rename_i hx
      have q1 := ihx _ _ _ _ hx hl
      exact q1.trans (ihy _ _ _ _ he (q1.le hl))
    · simp at he
  | block id b ih => intro env h env' h' he hl; exact ih _ _ _ _ he hl
  | _ => intro env h env' h' he; simp [runL] at he
theorem aRound_keep {call : CallK} (hcall : CallsKeep call) {frz : Nat → Bool} {p : Nat} {assign body : Code} {env : Env} {k : V} {h' : H} (he : aRound C call frz p assign body env k h = some h') (hl : h.lo ≤ h.next) : Keep h h' := by
  unfold aRound at he
  split at he
  · rename_i hx
    simp only [Option.map_eq_some_iff] at he
    obtain ⟨s, hs, he⟩ := he
    subst he
    have q1 := runL_keep hcall _ _ _ _ _ hx hl
    exact q1.trans (runL_keep hcall _ _ _ _ _ hs (q1.le hl))
  · simp at he
theorem aNexts_keep {x : V} {outs : List (V × H)} (he : aNexts x h = some outs) (hl : h.lo ≤ h.next) : ∀ o ∈ outs, Keep h o.2 := by
  unfold aNexts at he
  split at he
  · split at he
    · split at he
      · split at he
        · rename_i hc
          split at he
          · cases he; intro o ho; rw [List.mem_singleton.1 ho]; exact .refl _
          · cases he
            intro o ho
            obtain ⟨e, _, rfl⟩ := List.mem_map.1 ho
            exact Keep.setHi hc.1
        · simp at he
      · simp at he
    · simp at he
  · simp at he
def RoundKeep (round : V → H → Option H) : Prop := ∀ k h h', round k h = some h' → h.lo ≤ h.next → Keep h h'
theorem aKBody_keep {call : CallK} (hcall : CallsKeep call) {frz : Nat → Bool} {round : V → H → Option H} (hrd : RoundKeep round) {ops2 ops3 : Array Oper} {c2 : Operand} {env : Env} {s' : Env × H} (he : aKBody C call frz round ops2 ops3 c2 env h = some s') (hl : h.lo ≤ h.next) : Keep h s'.2 := by
  unfold aKBody at he
  split at he
  · simp only [Option.bind_eq_some_iff] at he
    obtain ⟨x, hx, v, hv, u, hu, _, hok, s3, hs3, y, hm, s4, hs4, _, hcond, tr, hcl, kv, hkv, h5, hr5, s6, hs6, b, hb, he⟩ := he
    have hbf : s6 = s' := by cases b <;> simp at he; exact he
    subst hbf
    have q1 := runOps_keep hcall _ _ _ _ _ hs3 hl
    have q2 := plain1_keep hcall hs4 (q1.le hl)
    have q3 := hrd _ _ _ hr5 (q2.le (q1.le hl))
    exact ((q1.trans q2).trans q3).trans (plain1_keep hcall hs6 (q3.le (q2.le (q1.le hl))))
  · simp at he
theorem aKLoop_keep {call : CallK} (hcall : CallsKeep call) {frz : Nat → Bool} {round : V → H → Option H} (hrd : RoundKeep round) {ops1 ops2 ops3 : Array Oper} {c1 c2 : Operand} : ∀ (n : Nat) (env : Env) (h : H) (outs : List H), aKLoop C call frz round ops1 ops2 ops3 c1 c2 n env h = some outs → h.lo ≤ h.next → ∀ h' ∈ outs, Keep h h' := by
  intro n
  induction n with
  | zero => intro env h outs he; simp [aKLoop] at he
  | succ n ih =>
    intro env h outs he hl h' hin
    simp only [aKLoop, Option.bind_eq_some_iff] at he
    obtain ⟨heads, hh, he⟩ := he
    obtain ⟨hd, hhd, zs, hzs, hz⟩ := catO_mem' he h' hin
    simp only [Option.bind_eq_some_iff] at hzs
    obtain ⟨b, hb, hzs⟩ := hzs
    unfold aKHead at hh
    split at hh
    · simp only [Option.bind_eq_some_iff] at hh
      obtain ⟨x, hx, v, hv, nouts, hn, hmap⟩ := hh
      obtain ⟨out, hout, hpl⟩ := mapO_mem' hmap hd hhd
      have q1 := aNexts_keep hn hl out hout
      have q2 := plain1_keep hcall hpl (q1.le hl)
      cases b with
      | false =>
        simp only [Bool.false_eq_true, if_false, Option.some.injEq] at hzs
        subst hzs
        rw [List.mem_singleton.1 hz]
        exact q1.trans q2
      | true =>
        simp only [if_true, Option.bind_eq_some_iff] at hzs
        obtain ⟨s', hbody, hrest⟩ := hzs
        have q3 := aKBody_keep hcall hrd hbody (q2.le (q1.le hl))
        exact ((q1.trans q2).trans q3).trans (ih _ _ _ hrest (q3.le (q2.le (q1.le hl))) h' hz)
    · simp at hh
theorem aKeysOf_keep {call : CallK} (hcall : CallsKeep call) {n gid : Nat} {caps : List V} {round : V → H → Option H} (hrd : RoundKeep round) {outs : List H} (he : aKeysOf C call n gid caps round h = some outs) (hl : h.lo ≤ h.next) : ∀ h' ∈ outs, Keep h h' := by
  unfold aKeysOf at he
  split at he
  · simp at he
  · split at he
    · split at he
      · simp only [Option.bind_eq_some_iff] at he
        obtain ⟨_, hok, he⟩ := he
        split at he
        · simp only [Option.bind_eq_some_iff] at he
          obtain ⟨s, hs, he⟩ := he
          have q1 := runOps_keep hcall _ _ _ _ _ hs hl
          intro h' hin
          exact q1.trans (aKLoop_keep hcall hrd _ _ _ _ he (q1.le hl) h' hin)
        · simp at he
      · simp at he
    · simp at he
theorem aSeq_keep {call : CallK} (hcall : CallsKeep call) (n : Nat) : NCallsKeep (aSeq C call n) := by
  intro f args h outs he hl o ho
  unfold aSeq at he
  split at he
  · simp at he
  · split at he
    · split at he
      · split at he
        · rename_i hrun0
          have q0 := run_keep hcall (drawn_keep hcall f) n _ _ _ _ _ _ hrun0 hl
          split at he
          · rename_i hrun hps
            split at he
            · split at he
              · simp only [Option.bind_eq_some_iff] at he
                obtain ⟨hs, hk, hm⟩ := he
                obtain ⟨h2, hin, hend⟩ := mapO_mem' hm o ho
                have q1 := q0.trans (run_keep hcall (drawn_keep hcall f) n _ _ _ _ _ _ hrun (q0.le hl))
                have q2 := aKeysOf_keep hcall (fun k h h' hr hl => aRound_keep hcall hr hl) hk (q1.le hl) h2 hin
                exact (q1.trans q2).trans (endOf_keep hcall hend (q2.le (q1.le hl)))
              · simp at he
            · simp at he
          · simp at he
        · simp at he
      · simp at he
    · simp at he
theorem aSecond_keep {call : CallK} (hcall : CallsKeep call) {inner : NCallK} (hin : NCallsKeep inner) (n : Nat) : NCallsKeep (aSecond C call inner n) := by
  intro f args h outs he hl o ho
  unfold aSecond at he
  split at he
  · simp at he
  · split at he
    · split at he
      · split at he
        · rename_i hrun hops
          have q1 := run_keep hcall (drawn_keep hcall f) n _ _ _ _ _ _ hrun hl
          simp only [Option.bind_eq_some_iff] at he
          obtain ⟨s1, hs1, he⟩ := he
          have q2 := runOps_keep hcall _ _ _ _ _ hs1 (q1.le hl)
          split at he
          · rename_i hg hop
            have q3 := opEval_keep (q2.le (q1.le hl)) hop
            simp only [Option.bind_eq_some_iff] at he
            obtain ⟨outs', hi, hm⟩ := he
            obtain ⟨x, hx, hy⟩ := mapO_mem' hm o ho
            have q4 := hin _ _ _ _ hi (q3.le (q2.le (q1.le hl))) x hx
            simp only [Option.bind_eq_some_iff] at hy
            obtain ⟨s2, hs2, hy⟩ := hy
            have q5 := runOps_keep hcall _ _ _ _ _ hs2 (q4.le (q3.le (q2.le (q1.le hl))))
            exact ((((q1.trans q2).trans q3).trans q4).trans q5).trans (endOf_keep hcall hy (q5.le (q4.le (q3.le (q2.le (q1.le hl))))))
          · simp at he
        · simp at he
      · simp at he
    · simp at he
theorem aSecond_ok (hC : CtxOk P C) (hK : CodesOk C) {call : CallK} (hcall : CallsOk P call) {inner : NCallK} (hin : NCallsOk P inner) (n : Nat) : NCallsOk P (aSecond C call inner n) := by
  intro f args h outs he F ρ w xs sm hr
  unfold aSecond at he
  split at he
  · simp at he
  · rename_i fn hfn
    split at he
    · rename_i a0 id ops rest hcode
      split at he
      · rename_i hlen
        have hF := hC.fn _ _ hfn
        obtain ⟨k1, k2⟩ := hK.ok f fn _ hfn hcode
        simp only [regionsAll, codeFits, Bool.and_eq_true, Array.all_eq_true_iff_forall_mem] at k1 k2
        have hl := relTs_get hr
        have hsz : (xs.toArray ++ Array.replicate (fn.ntmps - xs.length) undef).size = fn.ntmps := by simp; omega
        have hdst : ∀ o ∈ ops, ∀ d, o.dst = some d → d < fn.ntmps := fun o ho d hd => by
          have := k2.2.1 o ho
          rw [hd] at this; simpa using this
        split at he
        · rename_i env0 h0 o1 o os hrun0 hops
          have hom : ∀ o' ∈ o1 :: o :: os, o' ∈ ops := fun o' ho' => by rw [← Array.mem_toList_iff, hops]; exact ho'
          simp only [Option.bind_eq_some_iff] at he
          obtain ⟨s1, hs1, he⟩ := he
          split at he
          · rename_i f' us h1 hg hop
            simp only [Option.bind_eq_some_iff] at he
            obtain ⟨outs', hi, hm⟩ := he
            refine calls_of_wp hF.at_ hcode (wp_seq ?_)
            refine wp_mono (run_wp (D := []) hcall hC (drawn_ok hC hcall [] f fn.ntmps) n a0 _ _ _ _ _ hrun0 k2.1 k1.1 F ρ { tmps := xs.toArray ++ Array.replicate (fn.ntmps - xs.toArray.size) undef, defers := [] } w sm (by simpa using initEnv_rel hr fn.ntmps) (by simpa using hsz) rfl) ?_
            rintro e a1 w1 ⟨F1, ρ1, rfl, e1, m1, r1, z1, d1⟩
            refine wp_seq (wp_region_list ?_)
            rw [hops]
            -- the operation ahead of the call
            have step1 : ∀ (K : Act → World → Prop) (Q : Exit → Act → World → Prop), (∀ a' w' F' ρ', Ext F1 ρ1 F' ρ' → Sim F' ρ' s1.2 w' → EnvRel F' ρ' s1.1 a'.tmps → a'.tmps.size = fn.ntmps → a'.defers = [] → K a' w') →
                (if Region.wanted o1 (yielded ops a1.tmps) = true then o1.wp P a1 w1 K Q else K (a1.put o1.dst undef) w1) := by
              intro K Q hKK
              simp only [runOps] at hs1
              split at hs1
              · simp at hs1
              · rename_i hw
                simp only [Option.some.injEq] at hs1
                subst hs1
                rw [aWanted_sound hw r1, if_neg (by simp)]
                exact hKK _ _ F1 ρ1 (.refl _ _) m1 (r1.put o1.dst unk_rel (fun d hd => by rw [z1]; exact hdst o1 (hom o1 (by simp)) d hd)) (by rw [put_size]; exact z1) (by rw [put_defers]; exact d1)
              · rename_i hw
                split at hs1
                · rename_i x hx hst
                  simp only [Option.some.injEq] at hs1
                  subst hs1
                  rw [aWanted_sound hw r1, if_pos rfl]
                  refine stepOp_wp hcall hC hst m1 (fun y _ v hv => r1.eval y v hv) (fun v w' F' ρ' g1 g2 g3 => ?_)
                  exact hKK _ _ F' ρ' g1 g2 ((r1.mono g1).put o1.dst g3 (fun d hd => by rw [z1]; exact hdst o1 (hom o1 (by simp)) d hd)) (by rw [put_size]; exact z1) (by rw [put_defers]; exact d1)
                · simp at hs1
            have key : ∀ a2 w2 F2 ρ2, Ext F1 ρ1 F2 ρ2 → Sim F2 ρ2 s1.2 w2 → EnvRel F2 ρ2 s1.1 a2.tmps → a2.tmps.size = fn.ntmps → a2.defers = [] →
                wpList P ops (Exit.then (rest.wp P (bodyPost P fn fun e w' => ∃ o ∈ outs, ∃ x F' ρ', e = .returned x ∧ Ext F ρ F' ρ' ∧ Sim F' ρ' o.2 w' ∧ RelV F' ρ' o.1 x)) (bodyPost P fn fun e w' => ∃ o ∈ outs, ∃ x F' ρ', e = .returned x ∧ Ext F ρ F' ρ' ∧ Sim F' ρ' o.2 w' ∧ RelV F' ρ' o.1 x)) (o :: os) a2 w2 := by
              intro a2 w2 F2 ρ2 e2 m2 r2 z2 d2
              simp only [wpList]
              rw [if_pos (wanted_none hg _)]
              left
              obtain ⟨ys, g1, g2, g3, fn', g4⟩ := opEval_sound (a := a2) hC hop m2 (fun y _ v hv => r2.eval y v hv)
              unfold Oper.wp
              rw [g1]
              refine (hin _ _ _ _ hi F2 ρ2 w2 ys g2 g3).mono ?_
              rintro e w3 ⟨x, hx, y, F3, ρ3, rfl, e3, m3, r3⟩
              obtain ⟨out, hout, hy⟩ := mapO_mem hm x hx
              simp only [Option.bind_eq_some_iff] at hy
              obtain ⟨s2, hs2, hy⟩ := hy
              have hdo : ∀ d, o.dst = some d → d < a2.tmps.size := fun d hd => by rw [z2]; exact hdst o (hom o (by simp)) d hd
              refine runOps_wp hcall hC hdst os _ _ _ _ F3 ρ3 _ w3 hs2 (fun o' ho' => hom o' (by simp [ho'])) m3 ((r2.mono e3).put o.dst r3 hdo) (by rw [put_size]; exact z2) (fun a4 w4 F4 ρ4 e4 m4 r4 z4 d4 => ?_)
              refine wp_mono (endOf_wp (D := []) hC hcall hy k2.2.2 k1.2.2 m4 r4 z4 (by rw [d4, put_defers]; exact d2)) ?_
              rintro e a5 w5 ⟨hex, hdf, vs, env', F5, ρ5, hres, hv, e5, m5, r5⟩
              obtain ⟨z, q1, q2⟩ := results_sound hC m5 r5 hres
              have fin : ∃ o ∈ outs, ∃ x F' ρ', Ending.returned z = .returned x ∧ Ext F ρ F' ρ' ∧ Sim F' ρ' o.2 w5 ∧ RelV F' ρ' o.1 x := ⟨out, hout, z, F5, ρ5, rfl, (((e1.trans e2).trans e3).trans e4).trans e5, m5, by rw [hv]; exact q2⟩
              rcases hex with rfl | rfl
              · exact ⟨hdf, z, q1, fin⟩
              · exact ⟨hdf, z, q1, fin⟩
            have h2 := step1 (fun a' w' => wpList P ops _ (o :: os) a' w') (Exit.then (rest.wp P (bodyPost P fn fun e w' => ∃ o ∈ outs, ∃ x F' ρ', e = .returned x ∧ Ext F ρ F' ρ' ∧ Sim F' ρ' o.2 w' ∧ RelV F' ρ' o.1 x)) (bodyPost P fn fun e w' => ∃ o ∈ outs, ∃ x F' ρ', e = .returned x ∧ Ext F ρ F' ρ' ∧ Sim F' ρ' o.2 w' ∧ RelV F' ρ' o.1 x)) key
            rw [wpList]
            split
            · rename_i hw; rw [if_pos hw] at h2; exact .inl h2
            · rename_i hw; rw [if_neg hw] at h2; exact h2
          · simp at he
        · simp at he
      · simp at he
    · simp at he
end
end Go.A
