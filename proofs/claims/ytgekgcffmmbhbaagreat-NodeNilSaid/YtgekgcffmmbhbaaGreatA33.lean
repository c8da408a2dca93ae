/- A range over the keys of a map: the walk. -/
import Derived.Test.YtgekgcffmmbhbaaGreatA32
set_option linter.unusedVariables false
set_option linter.unusedSimpArgs false
noncomputable section
namespace Go.A
open Go
set_option linter.unusedSectionVars false
variable [Outer]
section
variable {P : Program} {C : Ctx} {F : Frz} {ρ : Ren} {h : H} {w : World}
theorem isEntry_inv {o : Oper} {x : Operand} (h : isEntry o = some x) : o.guard = none ∧ o.op = .entry x ∧ o.dst ≠ some 0 := by
  unfold isEntry at h
  split at h
  · rename_i hg hop
    split at h
    · cases h
    · rename_i hd; cases h; exact ⟨hg, hop, hd⟩
  · cases h
theorem isNext_inv {o : Oper} {x : Operand} (h : isNext o = some x) : o.guard = none ∧ o.op = .next x false ∧ o.dst ≠ some 0 := by
  unfold isNext at h
  split at h
  · rename_i hg hop
    split at h
    · cases h
    · rename_i hd; cases h; exact ⟨hg, hop, hd⟩
  · cases h
theorem isMove0_inv {o : Oper} {y : Nat} (h : isMove0 o = some y) : o.guard = none ∧ o.op = .move (.tmp 0) ∧ o.dst = some y ∧ y ≠ 0 := by
  unfold isMove0 at h
  split at h
  · rename_i y' hg hop hd
    split at h
    · cases h
    · rename_i hne; cases h; exact ⟨hg, hop, hd, hne⟩
  · cases h
theorem isYield_inv {o : Oper} {y : Nat} {tr : Nat × Nat} (h : isYield o y = some tr) : o.guard = none ∧ (∃ ts, o.op = .call ⟨.value (.tmp y), #[.tmp tr.1], ts⟩) ∧ o.dst = some tr.2 ∧ tr.2 ≠ 0 := by
  unfold isYield at h
  split at h
  · rename_i y' args ts r hg hop hd
    split at h
    · rename_i t hargs
      split at h
      · rename_i hc
        cases h
        have : args = #[.tmp t] := by apply Array.ext'; simpa using hargs
        subst this
        obtain ⟨rfl, hr⟩ := hc
        exact ⟨hg, ⟨ts, hop⟩, hd, hr⟩
      · cases h
    · cases h
  · cases h
theorem isTest_inv {env : Env} {c : Operand} {b : Bool} (h : isTest env c = some b) : evalOp env c = some (.sc (.bool b)) := by
  unfold isTest at h
  split at h
  · rename_i b' hb; cases h; exact hb
  · cases h
theorem okOps_inv {os : List Oper} {u : Unit} (h : okOps os = some u) : ∀ o ∈ os, notDefer o = true ∧ o.dst ≠ some 0 := by
  unfold okOps at h
  split at h
  · rename_i hc
    intro o ho
    have := List.all_eq_true.1 hc o ho
    simpa using this
  · cases h
theorem EnvRel.skip {env : Env} {a : Act} {d : Nat} {v : Value} (h : EnvRel F ρ env a.tmps) (hd : env.get d = none) : EnvRel F ρ env (a.put (some d) v).tmps :=
  ⟨fun t u hu => by
    have hne : t ≠ d := fun e => by rw [e, hd] at hu; cases hu
    obtain ⟨h1, h2⟩ := h.at_ t u hu
    exact ⟨by rw [put_size]; exact h1, by rw [put_keep (fun e => by cases e; exact hne rfl)]; exact h2⟩⟩
theorem evalTmp (a : Act) (t : Nat) : a.eval (.tmp t) = a.tmps.getD t undef := rfl
abbrev yv (l : Nat) : Value := .func (.yield l) #[] #[]
theorem plain1_nd {call : CallK} {frz : Nat → Bool} {o : Oper} {env : Env} {s : Env × H} (he : plain1 C call frz o env h = some s) : o.guard = none ∧ o.dst ≠ some 0 := by
  unfold plain1 at he
  split at he
  · simp at he
  · rename_i hg
    split at he
    · rename_i hc; exact ⟨hg, hc.2⟩
    · simp at he
def RoundOk (P : Program) (m l p : Nat) (lp : Loop) (F0 : Frz) (ρ0 : Ren) (round : V → H → Option H) : Prop :=
  ∀ k h h' F ρ w x, round k h = some h' → Ext F0 ρ0 F ρ → Sim F ρ h w → RelV F ρ k x → RoundIn (wideR none) m P l lp.fn (lp.tmps.setIfInBounds p x) lp.assign lp.body w fun e w' => e = .returned (.bool true) ∧ ∃ F' ρ', Ext F ρ F' ρ' ∧ Sim F' ρ' h' w'
theorem aKBody_wp {call : CallK} (hcall : CallsOk P call) (hC : CtxOk P C) {frz : Nat → Bool} {round : V → H → Option H} {ops2 ops3 : Array Oper} {c2 : Operand} {env : Env} {s' : Env × H} {sz l m p : Nat} {lp : Loop} {F0 : Frz} {ρ0 : Ren} (he : aKBody C call frz round ops2 ops3 c2 env h = some s')
    (hd2 : ∀ o ∈ ops2, ∀ d, o.dst = some d → d < sz) (hd3 : ∀ o ∈ ops3, ∀ d, o.dst = some d → d < sz) (hps : lp.params = #[p]) (hround : RoundOk P (m - 1) l p lp F0 ρ0 round) (hl0 : F0 l = some (.loop lp)) (e0 : Ext F0 ρ0 F ρ) (sm : Sim F ρ h w) {a : Act} (hr : EnvRel F ρ env a.tmps) (hz : a.tmps.size = sz)
    (hy : a.tmps.getD 0 undef = yv l) {Q : Exit → Act → World → Prop} {i2 i3 : Nat}
    (hQ : ∀ a' w' F' ρ', Ext F0 ρ0 F' ρ' → Sim F' ρ' s'.2 w' → EnvRel F' ρ' s'.1 a'.tmps → a'.tmps.size = sz → a'.tmps.getD 0 undef = yv l → a'.defers = a.defers → Q .normal a' w') :
    (Code.seq (.region i2 ops2 false) (.seq (.region i3 ops3 false) (.cond c2 .ret .skip))).wpIn (wideR none) m P Q a w := by
  unfold aKBody at he
  split at he
  · rename_i e os2 mo ld cl nt hops2 hops3
    simp only [Option.bind_eq_some_iff] at he
    obtain ⟨x, hx, v, hv, u, hu, _, hok, s3, hs3, y, hm, s4, hs4, _, hcond, tr, hcl, kv, hkv, h5, hrd, s6, hs6, b, hb, he⟩ := he
    obtain ⟨ge, oe, de⟩ := isEntry_inv hx
    obtain ⟨gm, om, dm, ym⟩ := isMove0_inv hm
    obtain ⟨gc, ⟨ts, oc⟩, dc, rc⟩ := isYield_inv hcl
    have hok2 := okOps_inv hok
    have e2 : ops2 = (e :: os2).toArray := by apply Array.ext'; simpa using hops2
    have e3 : ops3 = #[mo, ld, cl, nt] := by apply Array.ext'; simpa using hops3
    have hcond' : s3.1.get y = none ∧ s4.1.get y = none ∧ ld.dst ≠ some y := by
      split at hcond
      · rename_i hc; exact hc
      · cases hcond
    obtain ⟨q1, q2, q3⟩ := hcond'
    have hbf : b = false ∧ s6 = s' := by
      cases b with
      | true => simp at he
      | false => simp at he; exact ⟨rfl, he⟩
    obtain ⟨rfl, rfl⟩ := hbf
    -- the entry
    have hm2 : ∀ o ∈ e :: os2, o ∈ ops2 := fun o ho => by rw [← Array.mem_toList_iff, hops2]; exact ho
    have hm3 : ∀ o ∈ [mo, ld, cl, nt], o ∈ ops3 := fun o ho => by rw [← Array.mem_toList_iff, hops3]; exact ho
    refine wpIn_seq (wpIn_region ?_)
    have hr2 : List.range ops2.size = 0 :: List.range' 1 os2.length := by rw [List.range_eq_range', e2]; simp [List.range'_succ]
    rw [hr2]
    obtain ⟨z, hz1, hz2⟩ := aEntry_sound (P := P) hu sm (hr.eval x v hv)
    refine opsIn_step (o := e) (by rw [e2]; simp) ge (op1_wpIn (v := z) (w' := w) (by simp [notDefer, oe]) (by unfold execOp; rw [oe]; simp [hz1]) ?_)
    have hde : ∀ d, e.dst = some d → d < a.tmps.size := fun d hd => by rw [hz]; exact hd2 e (hm2 e (by simp)) d hd
    refine runOps_wpIn hcall hC hd2 os2 1 _ _ _ _ F ρ _ w hs3 (fun o ho => (hok2 o ho).1) (fun q => by rw [e2]; simp [Nat.add_comm]) sm (hr.put e.dst hz2 hde) (by rw [put_size]; exact hz) (fun a3 w3 F3 ρ3 g1 g2 g3 g4 g5 g6 => ?_)
    have hy3 : a3.tmps.getD 0 undef = yv l := by rw [g6 0 (fun o ho => (hok2 o ho).2), put_keep de]; exact hy
    have hd3' : a3.defers = a.defers := by rw [g5, put_defers]
    -- the call
    refine wpIn_seq (wpIn_region ?_)
    have hr3 : List.range ops3.size = [0, 1, 2, 3] := by rw [e3]; rfl
    rw [hr3]
    refine opsIn_step (o := mo) (by rw [e3]; rfl) gm (op1_wpIn (v := yv l) (w' := w3) (by simp [notDefer, om]) (by unfold execOp; rw [om]; simp only [evalTmp, hy3]; rfl) ?_)
    rw [dm]
    have hyl : y < a3.tmps.size := by rw [g4]; exact hd3 mo (hm3 mo (by simp)) y dm
    have hr4 : EnvRel F3 ρ3 s3.1 (a3.put (some y) (yv l)).tmps := g3.skip q1
    obtain ⟨gl, dl⟩ := plain1_nd hs4
    obtain ⟨gn, dn⟩ := plain1_nd hs6
    refine opsIn_step (o := ld) (by rw [e3]; rfl) gl (plain1_wpIn (ro := none) hcall hC hs4 (fun d hd => by rw [put_size, g4]; exact hd3 ld (hm3 ld (by simp)) d hd) g2 hr4 (fun a4 w4 F4 ρ4 k1 k2 k3 k4 k5 k6 => ?_)).2.2
    have hy4 : a4.tmps.getD 0 undef = yv l := by rw [k6 0 dl, put_keep (fun e => by cases e; exact ym rfl)]; exact hy3
    have hyy4 : a4.tmps.getD y undef = yv l := by rw [k6 y q3]; simp [Act.put, hyl]
    obtain ⟨_, hkx⟩ := k3.at_ _ _ hkv
    have e4 : Ext F0 ρ0 F4 ρ4 := (e0.trans g1).trans k1
    have hl4 := e4.f _ _ hl0
    refine opsIn_step (o := cl) (by rw [e3]; rfl) gc ⟨fun _ _ => trivial, ?_⟩
    have hsem : cl.semAt (wideR none).round a4.eval = execOp a4.eval cl := rfl
    have hex : (execOp a4.eval cl).run P w4 = .ok (.round l lp.fn (lp.tmps.setIfInBounds p (a4.tmps.getD tr.1 undef)) lp.assign lp.body) w4 := by
      unfold execOp
      rw [oc]
      have hyi := run_yield (P := P) (args := #[a4.tmps.getD tr.1 undef]) (k2.frz _ _ hl4) (by rw [hps]; rfl)
      rw [hps] at hyi
      simp only [resolve, evalTmp, hyy4, Sem.run_bind]
      simpa [Deferred.ofValue, invoke, evalTmp] using hyi
    rw [hsem, hex, Oper.uponIn_round]
    refine ⟨fun hq => (by cases hq), ?_⟩
    refine (hround kv s4.2 h5 F4 ρ4 w4 _ hrd e4 k2 hkx).mono ?_
    rintro e w5 ⟨rfl, F5, ρ5, e5, s5⟩
    have hrl : tr.2 < a4.tmps.size := by rw [k4, put_size, g4]; exact hd3 cl (hm3 cl (by simp)) _ dc
    have hr5 : EnvRel F5 ρ5 (s4.1.set tr.2 (.sc (.bool true))) (a4.put cl.dst (.bool true)).tmps := by
      rw [dc]
      exact (k3.mono e5).put (some tr.2) (sc_rel rfl) (fun d hd => by cases hd; exact hrl)
    refine opsIn_step (o := nt) (by rw [e3]; rfl) gn (plain1_wpIn (ro := none) hcall hC hs6 (fun d hd => by rw [put_size, k4, put_size, g4]; exact hd3 nt (hm3 nt (by simp)) d hd) s5 hr5 (fun a6 w6 F6 ρ6 j1 j2 j3 j4 j5 j6 => ?_)).2.2
    have hy6 : a6.tmps.getD 0 undef = yv l := by rw [j6 0 dn, put_keep (by rw [dc]; exact fun e => rc (Option.some.inj e))]; exact hy4
    obtain ⟨hcv, _⟩ := sc_val (j3.eval c2 _ (isTest_inv hb))
    refine wpIn_cond_false hcv (wpIn_skip ?_)
    exact hQ a6 w6 F6 ρ6 ((e4.trans e5).trans j1) j2 j3 (by rw [j4, put_size, k4, put_size, g4]) hy6 (by rw [j5, put_defers, k5, put_defers, hd3'])
  · simp at he
theorem aKLoop_wp {call : CallK} (hcall : CallsOk P call) (hC : CtxOk P C) {frz : Nat → Bool} {round : V → H → Option H} {ops1 ops2 ops3 : Array Oper} {c1 c2 : Operand} {sz l m p i1 i2 i3 b0 b1 : Nat} {lp : Loop} {F0 : Frz} {ρ0 : Ren} {D : List Deferred}
    (hd1 : ∀ o ∈ ops1, ∀ d, o.dst = some d → d < sz) (hd2 : ∀ o ∈ ops2, ∀ d, o.dst = some d → d < sz) (hd3 : ∀ o ∈ ops3, ∀ d, o.dst = some d → d < sz) (hps : lp.params = #[p]) (hround : RoundOk P (m - 1) l p lp F0 ρ0 round) (hl0 : F0 l = some (.loop lp)) {Q : Exit → Act → World → Prop} :
    ∀ (n : Nat) (env : Env) (h : H) (outs : List H) (F : Frz) (ρ : Ren) (a : Act) (w : World), aKLoop C call frz round ops1 ops2 ops3 c1 c2 n env h = some outs → Ext F0 ρ0 F ρ → Sim F ρ h w → EnvRel F ρ env a.tmps → a.tmps.size = sz → a.tmps.getD 0 undef = yv l → a.defers = D →
      (∀ a' w' F' ρ' h', h' ∈ outs → Ext F0 ρ0 F' ρ' → Sim F' ρ' h' w' → a'.defers = D → Q (.exit b0) a' w') →
      Code.roundsIn (wideR none) m P (.seq (.region i1 ops1 false) (.seq (.cond c1 .skip (.exit b0)) (.block b1 (.seq (.region i2 ops2 false) (.seq (.region i3 ops3 false) (.cond c2 .ret .skip)))))) Q n a w := by
  intro n
  induction n with
  | zero => intro env h outs F ρ a w he; simp [aKLoop] at he
  | succ n ih =>
    intro env h outs F ρ a w he e0 sm hr hz hy hdf hQ
    rw [roundsIn_succ]
    simp only [aKLoop, Option.bind_eq_some_iff] at he
    obtain ⟨heads, hh, he⟩ := he
    unfold aKHead at hh
    split at hh
    · rename_i o1 o2 hops1
      simp only [Option.bind_eq_some_iff] at hh
      obtain ⟨x, hx, v, hv, nouts, hn, hmap⟩ := hh
      obtain ⟨ge, oe, de⟩ := isNext_inv hx
      have e1 : ops1 = #[o1, o2] := by apply Array.ext'; simpa using hops1
      have hm1 : ∀ o ∈ [o1, o2], o ∈ ops1 := fun o ho => by rw [← Array.mem_toList_iff, hops1]; exact ho
      obtain ⟨out, hout, z, w1, hz1, s1, hz2⟩ := aNexts_sound (P := P) (ty := o1.type) hn sm (hr.eval x v hv)
      obtain ⟨hd, hhd, hpl⟩ := mapO_mem hmap out hout
      obtain ⟨zs, hzs, hsub⟩ := catO_mem he hd hhd
      simp only [Option.bind_eq_some_iff] at hzs
      obtain ⟨b, hb, hzs⟩ := hzs
      refine wpIn_seq (wpIn_region ?_)
      have hr1 : List.range ops1.size = [0, 1] := by rw [e1]; rfl
      rw [hr1]
      refine opsIn_step (o := o1) (by rw [e1]; rfl) ge (op1_wpIn (v := z) (w' := w1) (by simp [notDefer, oe]) (by unfold execOp; rw [oe]; simp [hz1]) ?_)
      have hde : ∀ d, o1.dst = some d → d < a.tmps.size := fun d hd => by rw [hz]; exact hd1 o1 (hm1 o1 (by simp)) d hd
      obtain ⟨gl, dl⟩ := plain1_nd hpl
      refine opsIn_step (o := o2) (by rw [e1]; rfl) gl (plain1_wpIn (ro := none) hcall hC hpl (fun d hd => by rw [put_size, hz]; exact hd1 o2 (hm1 o2 (by simp)) d hd) s1 (hr.put o1.dst hz2 hde) (fun a4 w4 F4 ρ4 k1 k2 k3 k4 k5 k6 => ?_)).2.2
      have hy4 : a4.tmps.getD 0 undef = yv l := by rw [k6 0 dl, put_keep de]; exact hy
      have hdf4 : a4.defers = D := by rw [k5, put_defers]; exact hdf
      have hz4 : a4.tmps.size = sz := by rw [k4, put_size]; exact hz
      obtain ⟨hcv, _⟩ := sc_val (k3.eval c1 _ (isTest_inv hb))
      refine wpIn_seq ?_
      cases b with
      | false =>
        simp only [Bool.false_eq_true, if_false, Option.some.injEq] at hzs
        subst hzs
        refine wpIn_cond_false hcv (wpIn_exit ?_)
        exact hQ a4 w4 F4 ρ4 _ (hsub _ (by simp)) (e0.trans k1) k2 hdf4
      | true =>
        simp only [if_true, Option.bind_eq_some_iff] at hzs
        obtain ⟨s', hbody, hrest⟩ := hzs
        refine wpIn_cond_true hcv (wpIn_skip (wpIn_block ?_))
        refine aKBody_wp hcall hC hbody hd2 hd3 hps hround hl0 (e0.trans k1) k2 k3 hz4 hy4 (fun a' w' F' ρ' g1 g2 g3 g4 g5 g6 => ?_)
        exact ih _ _ _ F' ρ' a' w' hrest g1 g2 g3 g4 g5 (by rw [g6]; exact hdf4) (fun a'' w'' F'' ρ'' h'' hin => hQ a'' w'' F'' ρ'' h'' (hsub _ hin))
    · simp at hh
theorem aKeysOf_calls {call : CallK} (hcall : CallsOk P call) (hC : CtxOk P C) (hK : CodesOk C) {n m l p gid : Nat} {caps : List V} {ys : List Value} {round : V → H → Option H} {outs : List H} {lp : Loop} (he : aKeysOf C call n gid caps round h = some outs) (hps : lp.params = #[p])
    (hround : RoundOk P (m - 1) l p lp F ρ round) (hl0 : F l = some (.loop lp)) (sm : Sim F ρ h w) (hr : RelTs F ρ caps ys) :
    CallsIn (wideR none) m P gid (#[yv l] ++ ys.toArray) w fun e w' => ∃ h' ∈ outs, ∃ F' ρ', (∃ v, e = .returned v) ∧ Ext F ρ F' ρ' ∧ Sim F' ρ' h' w' := by
  unfold aKeysOf at he
  split at he
  · simp at he
  · rename_i fk hfk
    split at he
    · rename_i i0 ops0 b0 i1 ops1 c1 b0' b1 i2 ops2 i3 ops3 c2 hcode
      split at he
      · rename_i hc
        obtain ⟨rfl, hlen⟩ := hc
        simp only [Option.bind_eq_some_iff] at he
        obtain ⟨_, hok, he⟩ := he
        split at he
        · rename_i hres
          simp only [Option.bind_eq_some_iff] at he
          obtain ⟨s, hs, he⟩ := he
          have hF := hC.fn _ _ hfk
          obtain ⟨k1, k2⟩ := hK.ok gid fk _ hfk hcode
          simp only [codeFits, Bool.and_eq_true, Array.all_eq_true_iff_forall_mem] at k2
          have hds : ∀ {ops : Array Oper}, (∀ o ∈ ops, (match o.dst with | some d => decide (d < fk.ntmps) | none => true) = true) → ∀ o ∈ ops, ∀ d, o.dst = some d → d < fk.ntmps := fun hh o ho d hd => by
            have := hh o ho
            rw [hd] at this; simpa using this
          have hl := relTs_get hr
          have hok0 := okOps_inv hok
          have hsz : ((#[yv l] ++ ys.toArray) ++ Array.replicate (fk.ntmps - (#[yv l] ++ ys.toArray).size) undef).size = fk.ntmps := by simp; omega
          have hget0 : ((#[yv l] ++ ys.toArray) ++ Array.replicate (fk.ntmps - (#[yv l] ++ ys.toArray).size) undef).getD 0 undef = yv l := by
            rw [Array.getD_eq_getD_getElem?, Array.getElem?_append_left (by rw [Array.size_append]; show 0 < 1 + _; omega), Array.getElem?_append_left (by show 0 < 1; omega)]; rfl
          have hini : EnvRel F ρ (initEnv caps 1 .lf) ((#[yv l] ++ ys.toArray) ++ Array.replicate (fk.ntmps - (#[yv l] ++ ys.toArray).size) undef) := by
            refine ⟨fun t v hv => ?_⟩
            rcases initEnv_get caps 1 .lf t v hv with ⟨j, rfl, hj⟩ | ⟨_, hq⟩
            · obtain ⟨x, h1, h2⟩ := relTs_nth hr hj
              have hlt := (List.getElem?_eq_some_iff.1 h1).1
              refine ⟨by rw [hsz]; omega, ?_⟩
              have : ((#[yv l] ++ ys.toArray) ++ Array.replicate (fk.ntmps - (#[yv l] ++ ys.toArray).size) undef).getD (1 + j) undef = x := by
                rw [Array.getD_eq_getD_getElem?, Array.getElem?_append_left (by simp; omega), Array.getElem?_append_right (by simp)]
                simp [h1]
              rw [this]; exact h2
            · simp at hq
          refine callsIn_of_wp hF.at_ hcode trivial ?_ rfl
          refine wpIn_seq (wpIn_region ?_)
          rw [List.range_eq_range']
          have hsize : ops0.size = ops0.toList.length := by simp
          rw [hsize]
          refine runOps_wpIn hcall hC (hds k2.1) ops0.toList 0 _ _ _ _ F ρ _ w hs (fun o ho => (hok0 o ho).1) (by simp) sm hini hsz (fun a1 w1 F1 ρ1 g1 g2 g3 g4 g5 g6 => ?_)
          refine wpIn_block (wpIn_loop_rounds n ?_)
          refine aKLoop_wp hcall hC (hds k2.2.1) (hds k2.2.2.2.1) (hds k2.2.2.2.2.1) hps hround hl0 n _ _ outs F1 ρ1 a1 w1 he g1 g2 g3 g4 (by rw [g6 0 (fun o ho => (hok0 o ho).2)]; exact hget0) g5 (fun a' w' F' ρ' h' q1 q2 q3 q4 => ?_)
          show Exit.inBlock b0 _ (.exit b0) a' w'
          simp only [Exit.inBlock, if_true]
          obtain ⟨x0, hres0, _⟩ := results_sound (fn := fk) (vs := []) hC q3 (⟨fun t v hv => by simp at hv⟩ : EnvRel F' ρ' .lf a'.tmps) (by rw [hres]; rfl)
          exact ⟨q4, _, hres0, h', q1, F', ρ', ⟨_, rfl⟩, q2, q3⟩
        · simp at he
      · simp at he
    · simp at he
end
end Go.A
