/- Regions whose order is drawn: soundness, the end. -/
import Derived.Test.YtgekgcffmmbhbaaGreatA17
set_option linter.unusedVariables false
set_option linter.unusedSimpArgs false
noncomputable section
namespace Go.A
open Go
set_option linter.unusedSectionVars false
variable [Outer]
section
variable {P : Program} {C : Ctx} {call : CallK} {frz : Nat → Bool} {ops : Array Oper} {floats : List (Nat × Nat × Nat)}
theorem noDst_mono {k i i' t : Nat} (h : noDst ops k i' t) (hi : i ≤ i') : noDst ops k i t := fun j o h1 h2 => h j o h1 (by omega)
theorem drawn_any {D : List Deferred} (hcall : CallsOk P call) (hC : CtxOk P C) (pf : PlanFacts ops floats) {F0 : Frz} {ρ0 : Ren} {n0 n1 : Nat} (hn0 : ρ0.nx ≤ n0) {env0 env1 envF : Env} {snF : List H} {sz : Nat} (henv : ∀ t, (∀ o ∈ ops, isA o = true → o.dst ≠ some t) → env1.get t = env0.get t) (hdst : ∀ o ∈ ops, ∀ d, o.dst = some d → d < sz)
    (hat : ∀ (i : Nat) (o : Oper), ops[i]? = some o → Nonempty (At C call frz ops 0 env1 envF snF i o)) (hlen : snF.length = cntE ops ops.size + 1) (hold : ∀ t, noDst ops 0 ops.size t → envF.get t = env0.get t)
    (hfl : floats.all (fun x => if isAi ops x.1 then allocOk C ops envF snF n0 n1 floats x else floatOk C ops envF snF x) = true) {hF : H} (hhF : Hat snF (cntE ops ops.size) hF) :
    ∀ (fuel : Nat) (listed : Array Bool) (a : Act) (w : World), Inv P D ops F0 ρ0 n0 n1 env0 envF snF sz listed a w → unl ops listed ≤ fuel → wpAny P .any ops (Post D F0 ρ0 sz .normal envF hF) fuel listed a w := by
  have done : ∀ (listed : Array Bool) (a : Act) (w : World), Inv P D ops F0 ρ0 n0 n1 env0 envF snF sz listed a w → (∀ i, i < ops.size → L listed i) → Post D F0 ρ0 sz .normal envF hF .normal a w := by
    intro listed a w I hall
    have hc : cntL ops listed = cntE ops ops.size := by
      unfold cntL cntE
      exact List.countP_congr (fun x hx => by have := hall x (List.mem_range.1 hx); unfold L at this; simp [this])
    have hh : I.h = hF := by have := I.hat; rw [hc] at this; exact this.uniq hhF
    refine ⟨I.F, I.ρ, rfl, I.ext, by rw [← hh]; exact I.sim, ⟨fun t v hv => ?_⟩, I.tsz, I.defs⟩
    rw [I.tsz]
    by_cases hn : noDst ops 0 ops.size t
    · rw [hold t hn] at hv; exact I.old t v (fun j o _ ho => hn j o (Nat.zero_le _) (Array.getElem?_eq_some_iff.1 ho).1 ho) hv
    · unfold noDst at hn
      have : ∃ (j : Nat) (o : Oper), j < ops.size ∧ ops[j]? = some o ∧ o.dst = some t := by
        apply Classical.byContradiction
        intro hne
        apply hn
        intro j o _ h2 h3 h4
        exact hne ⟨j, o, h2, h3, h4⟩
      obtain ⟨j, o, h1, h2, h3⟩ := this
      exact I.new j o t v (hall j h1) h2 h3 hv
  have ready_nil : ∀ (listed : Array Bool), listed.size = ops.size → Region.ready .any ops listed = [] → ∀ i, i < ops.size → L listed i := by
    intro listed hs hr i
    induction i using Nat.strongRecOn with
    | _ i ih =>
      intro hi
      apply Classical.byContradiction
      intro hnl
      have ho : ops[i]? = some ops[i] := Array.getElem?_eq_getElem hi
      have : i ∈ Region.ready .any ops listed := by
        rw [mem_ready]
        refine ⟨?_, ops[i], ho, fun e he hb => ih e.on (pf.lt i _ ho e he hb) (by have := pf.lt i _ ho e he hb; omega)⟩
        unfold L at hnl
        have hlt : i < listed.size := by omega
        simp [hlt] at hnl ⊢
        exact hnl
      rw [hr] at this
      simp at this
  intro fuel
  induction fuel with
  | zero =>
    intro listed a w I hu
    have hall : ∀ i, i < ops.size → L listed i := fun i hi => by
      have hz : unl ops listed = 0 := by omega
      unfold unl at hz
      rw [List.countP_eq_zero] at hz
      have := hz i (List.mem_range.2 hi)
      unfold L; simpa using this
    refine ⟨?_, done listed a w I hall⟩
    cases hr : Region.ready .any ops listed with
    | nil => rfl
    | cons i r =>
      have hm : i ∈ Region.ready .any ops listed := by rw [hr]; simp
      obtain ⟨h1, o, h2, _⟩ := mem_ready.1 hm
      have hi := (Array.getElem?_eq_some_iff.1 h2).1
      have := hall i hi
      have hlt : i < listed.size := by rw [I.size]; exact hi
      unfold L at this
      simp [hlt] at h1 this
      rw [h1] at this; cases this
  | succ fuel ih =>
    intro listed a w I hu
    refine ⟨fun hr => done listed a w I (ready_nil listed I.size hr), fun i hi => ?_⟩
    obtain ⟨hun0, o, ho, hall⟩ := mem_ready.1 hi
    have hin : i < ops.size := (Array.getElem?_eq_some_iff.1 ho).1
    have hun : listed.getD i false = false := by
      have hlt : i < listed.size := by rw [I.size]; exact hin
      simp [hlt] at hun0 ⊢; exact hun0
    have hom : o ∈ ops := Array.mem_of_getElem? ho
    have hEi : isEi ops i = isE o := by unfold isEi; rw [ho]
    have hu' : unl ops (listed.setIfInBounds i true) ≤ fuel := by
      have hlt : i < listed.size := by rw [I.size]; exact hin
      have e1 : ∀ l : Array Bool, unl ops l + (List.range ops.size).countP (fun e => true && l.getD e false) = ops.size := fun l => by
        unfold unl
        have := List.length_eq_countP_add_countP (fun e => l.getD e false) (l := List.range ops.size)
        simp only [List.length_range] at this
        simp only [Bool.true_and]
        have e2 : List.countP (fun e => !l.getD e false) (List.range ops.size) = List.countP (fun a => decide ¬l.getD a false = true) (List.range ops.size) :=
          List.countP_congr (fun x _ => by simp)
        omega
      have e3 := countP_set (fun _ => true) listed i hlt hun ops.size hin
      have h1 := e1 listed
      have h2 := e1 (listed.setIfInBounds i true)
      simp only [if_true] at e3
      omega
    obtain ⟨A⟩ := hat i o ho
    -- operands
    have hop : ∀ t ∈ o.looksAt ops, ∀ v, A.env_.get t = some v → t < a.tmps.size ∧ RelV I.F I.ρ v (a.tmps.getD t undef) := fun t ht v hv => by
      rw [I.tsz]
      by_cases hn : noDst ops 0 ops.size t
      · rw [A.old t (noDst_mono hn (by omega)), henv t (fun o' ho' _ => (by obtain ⟨q, hq, hq'⟩ := Array.getElem_of_mem ho'; exact hn q o' (Nat.zero_le _) hq (by rw [Array.getElem?_eq_getElem hq, hq'])))] at hv
        exact I.old t v (fun j o' _ ho' => hn j o' (Nat.zero_le _) (Array.getElem?_eq_some_iff.1 ho').1 ho') hv
      · have : ∃ (j : Nat) (p : Oper), j < ops.size ∧ ops[j]? = some p ∧ p.dst = some t := by
          apply Classical.byContradiction
          intro hne
          apply hn
          intro j o _ h2 h3 h4
          exact hne ⟨j, o, h2, h3, h4⟩
        obtain ⟨j, p, h1, h2, h3⟩ := this
        rcases pf.look i j o p t ho h2 h3 ht with ⟨e, he, hb, rfl⟩ | ⟨_, hpA, e, he, hb, hei⟩
        · have hlt := pf.lt i o ho e he hb
          rw [A.new t e.on p (Nat.zero_le _) hlt h2 h3] at hv
          exact I.new e.on p t v (hall e he hb) h2 h3 hv
        · have uniq : ∀ (q : Nat) (p' : Oper), ops[q]? = some p' → p'.dst = some t → q = j := fun q p' hq hd => by
            apply Classical.byContradiction
            intro hne
            exact pf.dist j q p p' t (Ne.symm hne) h2 hq h3 hd
          have hij : i < j := by have := pf.lt j p h2 e he hb; omega
          rw [A.old t (fun q p' h1 h4 hq hd => (by have := uniq q p' hq hd; omega)), henv t (fun p' hp' hA hd => (by
            obtain ⟨q, hq, hq'⟩ := Array.getElem_of_mem hp'
            have hq2 : ops[q]? = some p' := by rw [Array.getElem?_eq_getElem hq, hq']
            have := uniq q p' hq2 hd
            subst this
            rw [h2] at hq2; cases hq2
            rw [hpA] at hA; cases hA))] at hv
          refine I.old t v (fun q p' hL hq hd => ?_) hv
          have := uniq q p' hq hd
          subst this
          have hLi : L listed i := by rw [← hei]; exact I.closed q p hL h2 e he hb
          unfold L at hLi; rw [hun] at hLi; cases hLi
    have hopF : isE o = false → memFree o = false → ∀ t ∈ o.looksAt ops, ∀ v, envF.get t = some v → t < a.tmps.size ∧ RelV I.F I.ρ v (a.tmps.getD t undef) := fun hq1 hq2 t ht v hv => by
      rw [I.tsz]
      by_cases hn : noDst ops 0 ops.size t
      · rw [hold t hn] at hv; exact I.old t v (fun j o' _ ho' => hn j o' (Nat.zero_le _) (Array.getElem?_eq_some_iff.1 ho').1 ho') hv
      · have : ∃ (j : Nat) (p : Oper), j < ops.size ∧ ops[j]? = some p ∧ p.dst = some t := by
          apply Classical.byContradiction
          intro hne
          apply hn
          intro j o _ h2 h3 h4
          exact hne ⟨j, o, h2, h3, h4⟩
        obtain ⟨j, p, h1, h2, h3⟩ := this
        rcases pf.look i j o p t ho h2 h3 ht with ⟨e, he, hb, rfl⟩ | ⟨hh, _⟩
        · exact I.new e.on p t v (hall e he hb) h2 h3 hv
        · rw [hq1, hq2] at hh; simp at hh
    have guardLooks : ∀ j want d, o.guard = some (j, want) → (ops[j]?).bind (·.dst) = some d → d ∈ o.looksAt ops := fun j want d hg hd => by
      unfold Oper.looksAt
      rw [hg]
      simp [hd]
    have evrel : ∀ env : Env, (∀ t ∈ o.looksAt ops, ∀ v, env.get t = some v → t < a.tmps.size ∧ RelV I.F I.ρ v (a.tmps.getD t undef)) → Go.A.EvRel I.F I.ρ (evalOp env) a o.op.operands.toList := by
      intro env h x hx v hv
      cases x with
      | tmp t => exact (h t (List.mem_append_left _ (List.mem_filterMap.2 ⟨.tmp t, by simpa using hx, rfl⟩)) v hv).2
      | const c => exact ofConst_rel hv
      | func f => simp only [evalOp, Option.some.injEq] at hv; subst hv; exact sc_rel rfl
      | global g => simp [evalOp] at hv
    have hcnt : isE o = true → cntL ops listed = cntE ops i := fun hE => by
      unfold cntL cntE
      rw [← countP_lt (isEi ops) i ops.size (by omega)]
      exact List.countP_congr (fun e he => by
        have hen := List.mem_range.1 he
        have hoe : ops[e]? = some ops[e] := Array.getElem?_eq_getElem hen
        by_cases hEe : isEi ops e = true
        · have hEe' : isE ops[e] = true := by unfold isEi at hEe; rw [hoe] at hEe; exact hEe
          simp only [hEe, Bool.true_and, decide_eq_true_eq]
          constructor
          · intro hl
            apply Classical.byContradiction
            intro hge
            have hne : e ≠ i := by rintro rfl; rw [hun] at hl; cases hl
            have hr := pf.eff e i _ o hoe ho hEe' hE (by omega)
            have : L listed i := hr.listed I.closed hl
            unfold L at this; rw [hun] at this; cases this
          · intro hlt
            exact (pf.eff i e o _ ho hoe hE hEe' hlt).ready I.closed ho hall
        · simp [hEe])
    have hh : isE o = true → I.h = A.h_ := fun hE => by
      have := I.hat; rw [hcnt hE] at this; exact this.uniq A.hat
    have step : ∀ {x : V} {v : Value} {h' : H} {w' : World} {F' : Frz} {ρ' : Ren}, (∀ d, o.dst = some d → envF.get d = some x) → Ext I.F I.ρ F' ρ' → Sim F' ρ' h' w' → RelV F' ρ' x v →
        Hat snF (cntL ops listed + (if isE o then 1 else 0)) h' → wpAny P .any ops (Post D F0 ρ0 sz .normal envF hF) fuel (listed.setIfInBounds i true) (a.put o.dst v) w' := fun h1 h2 h3 h4 h5 => by
      obtain ⟨I'⟩ := I.next pf.dist ho hun hall (hdst o hom) h1 h2.w (I.ext.trans h2) (Nat.le_trans I.nx h2.n) (fun b hb1 hb2 hb3 _ => (by rw [h2.s b (Nat.lt_of_lt_of_le hb2 I.nx)]; exact hb3)) h3 h4 h5
      exact ih _ _ _ I' hu'
    unfold wpOp
    rw [ho]
    simp only
    rcases A.out with ⟨hA, hw, hx, hE⟩ | ⟨hA, d, x, hd, hx1, hx⟩ | ⟨hA, hw, x, h', hst, hx, hE⟩
    · rw [aWanted_sound' (F := I.F) (ρ := I.ρ) hw (fun j want d v hg hd hv => hop d (guardLooks j want d hg hd) v hv)]
      simp only [Bool.false_eq_true, if_false]
      refine step hx (.refl _ _) I.sim unk_rel ?_
      cases hq : isE o with
      | true => simp only [if_true]; rw [hcnt hq, hh hq]; exact hE hq
      | false => simp only [Bool.false_eq_true, if_false, Nat.add_zero]; exact I.hat
    · -- a variable that was made ahead
      have hg : o.guard = none := by
        cases hg : o.guard with
        | none => rfl
        | some gw => have := (pf.grd i o gw.1 gw.2 ho hg).1; rw [hA] at this; cases this
      have hwt : Region.wanted o (yielded ops a.tmps) = true := by unfold Region.wanted; rw [hg]
      rw [hwt]
      simp only [if_true]
      left
      have hq : isE o = false := isA_not hA
      have hm : memFree o = false := by
        cases hm : memFree o with
        | false => rfl
        | true => have := (memFree_not hm).2; rw [hA] at this; cases this
      obtain ⟨lo, hi, c1, c2, c3, c4, c5, c6⟩ := pf.flt i o ho hq hm
      have c4 : (i, lo, hi) ∈ floats := by
        rcases c4 with ⟨_, c4⟩ | c4
        · rw [hA] at c4; cases c4
        · exact c4
      have l1 : lo ≤ cntL ops listed := by
        rw [c5]; unfold cntL
        refine List.countP_mono_left (fun e he hb => ?_)
        simp only [Bool.and_eq_true] at hb ⊢
        exact ⟨hb.1, (masks_reach hb.2).ready I.closed ho hall⟩
      have l2 : cntL ops listed ≤ hi := by
        rw [c6]; unfold cntL
        refine List.countP_mono_left (fun e he hb => ?_)
        simp only [Bool.and_eq_true, Bool.not_eq_true'] at hb ⊢
        refine ⟨hb.1, ?_⟩
        cases hbb : bef (masks ops) e i with
        | false => rfl
        | true =>
          have := (masks_reach hbb).listed I.closed hb.2
          unfold L at this; rw [hun] at this; cases this
      have hfo := List.all_eq_true.1 hfl _ c4
      have hAi : isAi ops i = true := by unfold isAi; rw [ho]; exact hA
      simp only [hAi, if_true] at hfo
      unfold allocOk at hfo
      simp only [ho] at hfo
      split at hfo
      · rename_i o' b ho' hid
        cases ho'
        simp only [Bool.and_eq_true, decide_eq_true_eq, List.all_eq_true, List.mem_range, Bool.or_eq_true] at hfo
        obtain ⟨⟨⟨f1, f2⟩, f3⟩, f4⟩ := hfo
        have f5 := (f4 (cntL ops listed) (by omega)).resolve_left (by omega)
        rw [I.hat.get] at f5
        simp only at f5
        unfold madeAt at f5
        simp only [Bool.and_eq_true, decide_eq_true_eq, hd, Option.bind_some, hx] at f5
        obtain ⟨f6, f7⟩ := f5
        have hrb : I.ρ b = none := by
          refine I.fresh b f1 f2 (fun j hj hjb => ?_)
          have hji : j ≠ i := by rintro rfl; unfold L at hj; rw [hun] at hj; cases hj
          have hAj : ∃ oj, ops[j]? = some oj ∧ isA oj = true := by
            unfold allocId at hjb
            split at hjb
            · rename_i oj hoj
              split at hjb
              · rename_i hAj; exact ⟨oj, hoj, hAj⟩
              · cases hjb
            · cases hjb
          obtain ⟨oj, hoj, hAj⟩ := hAj
          have hmj : memFree oj = false := by
            cases hm' : memFree oj with
            | false => rfl
            | true => have := (memFree_not hm').2; rw [hAj] at this; cases this
          obtain ⟨lo', hi', _, _, _, d4, _, _⟩ := pf.flt j oj hoj (isA_not hAj) hmj
          have d4 : (j, lo', hi') ∈ floats := by
            rcases d4 with ⟨_, d4⟩ | d4
            · rw [hAj] at d4; cases d4
            · exact d4
          rcases f3 _ d4 with q | q
          · exact hji (by simpa using q)
          · exact q hjb
        have fin : ∀ (y : Blk) (v : Value) (obj : Obj) (l : Loc), I.h.get b = some y → l.bb = w.heap.size → ObjOk I.F I.ρ y l obj → (execOp a.eval o).run P w = .ok (.value v) { w with heap := w.heap.push obj } →
            (∀ ρ' : Ren, ρ' b = some l → RelV I.F ρ' x v) → o.wp P a w (wpAny P .any ops (Post D F0 ρ0 sz .normal envF hF) fuel (listed.setIfInBounds i true)) (Post D F0 ρ0 sz .normal envF hF) := by
          intro y v obj l hgetb hlbb hob hrun hrel
          obtain ⟨we, s'⟩ := I.sim.fill (w' := { w with heap := w.heap.push obj }) (l := l) hgetb hrb f6 hlbb
            (fun n hn => by rw [Array.getElem?_push_lt hn, Array.getElem?_eq_getElem hn]) (by simp) hob
          unfold Oper.wp
          rw [hrun]
          have hext0 : Ext F0 ρ0 I.F ⟨fun c => if c = b then some l else I.ρ c, I.ρ.nx⟩ :=
            ⟨I.ext.f, fun c l hc => we.r _ _ (I.ext.r _ _ hc), I.ext.n, fun c hc => by
              have : c ≠ b := by omega
              simp only [this, if_false]; exact I.ext.s c hc⟩
          have hxd : ∀ d', o.dst = some d' → envF.get d' = some x := fun d' hd' => by rw [hd] at hd'; cases hd'; exact hx
          obtain ⟨I'⟩ := I.next pf.dist ho hun hall (hdst o hom) hxd we hext0 I.nx (fun c hc1 hc2 hc3 hc4 => by
            have : c ≠ b := by rintro rfl; exact hc4 hid
            simp only [this, if_false]; exact hc3) s' (hrel _ (by simp)) (by rw [hq]; simp only [Bool.false_eq_true, if_false, Nat.add_zero]; exact I.hat)
          exact ih _ _ _ I' hu'
        split at f7
        · rename_i t p u hop' hxv hgetb
          cases hxv
          split at f7
          · rename_i ti hty
            have hv := V.beq_eq f7
            subst hv
            have hxb : p = ⟨b, [], 0⟩ := by
              unfold allocId at hid
              rw [ho] at hid
              simp only [hA, if_true, hd, hx] at hid
              split at hid
              · rename_i b' hb'; cases hid; cases hb'; rfl
              · rename_i b' hb'; cases hb'
              · cases hid
            subst hxb
            obtain ⟨cs, r1, r2, r3⟩ := opEval_A (P := P) (a := a) hC hty w o hop' I.F I.ρ
            have hob : ObjOk I.F I.ρ (.cells ti.zero false) ⟨w.heap.size, 0, cs.length⟩ (.cells cs.toArray t (0, 0)) :=
              .cells (by simp) (.inl rfl) r1 r2 (fun j u hu => by simpa using hu)
            exact fin _ _ _ _ hgetb rfl hob r3 (fun ρ' hρ => ptr_rel (p := ⟨b, [], 0⟩) (l := ⟨w.heap.size, 0, cs.length⟩) hρ)
          · cases f7
        · rename_i t b' hop' hxv hgetb
          cases hxv
          have hxb : b' = b := by
            unfold allocId at hid
            rw [ho] at hid
            simp only [hA, if_true, hd, hx] at hid
            exact Option.some.inj hid
          subst hxb
          have hrun : (execOp a.eval o).run P w = .ok (.value (.map (some w.heap.size))) { w with heap := w.heap.push (.map #[] 0) } := by
            have hmk : (Instr.makeMap t none).run P w = .ok (.map (some w.heap.size)) (w.alloc (.map #[] 0)) := rfl
            unfold execOp
            rw [hop']
            simp [hmk]
          exact fin _ _ _ ⟨w.heap.size, 0, 0⟩ hgetb rfl (.map .nil) hrun (fun ρ' hρ => ⟨_, .map (l := ⟨w.heap.size, 0, 0⟩) hρ, rfl⟩)
        · cases f7
      · cases hfo
    · rw [aWanted_sound' (F := I.F) (ρ := I.ρ) hw (fun j want d v hg hd hv => hop d (guardLooks j want d hg hd) v hv)]
      simp only [if_true]
      left
      cases hq : isE o with
      | true =>
        refine stepOp_wp (F := I.F) (ρ := I.ρ) (h := A.h_) hcall hC hst (by rw [← hh hq]; exact I.sim) (evrel _ hop) (fun v w' F' ρ' e1 s1 r1 => ?_)
        refine step hx e1 s1 r1 ?_
        rw [hq]; simp only [if_true]; rw [hcnt hq]; exact hE hq
      | false =>
        -- the value, in the heap that stands
        have hst' : opEval C (frz (o.dst.getD 0)) (evalOp A.env_) o A.h_ = some (.v x, A.h_) := by
          unfold stepOp at hst
          split at hst
          · rename_i y h1 hop'
            cases hst
            obtain ⟨rfl, _⟩ := opEval_quiet' hq hA hop'
            exact hop'
          · rename_i h1 hop'
            obtain ⟨_, y, hy⟩ := opEval_quiet' hq hA hop'
            cases hy
          · rename_i f args h1 hop'
            obtain ⟨_, y, hy⟩ := opEval_quiet' hq hA hop'
            cases hy
          · simp at hst
        have fin : ∀ env : Env, (∀ t ∈ o.looksAt ops, ∀ v, env.get t = some v → t < a.tmps.size ∧ RelV I.F I.ρ v (a.tmps.getD t undef)) → opEval C (frz (o.dst.getD 0)) (evalOp env) o I.h = some (.v x, I.h) →
            o.wp P a w (wpAny P .any ops (Post D F0 ρ0 sz .normal envF hF) fuel (listed.setIfInBounds i true)) (Post D F0 ρ0 sz .normal envF hF) := by
          intro env henv he
          obtain ⟨v, w', F', ρ', g1, g2, g3, g4⟩ := opEval_sound hC he I.sim (evrel env henv)
          unfold Oper.wp
          rw [g1]
          refine step hx g2 g3 g4 ?_
          rw [hq]; simp only [Bool.false_eq_true, if_false, Nat.add_zero]; exact I.hat
        cases hm : memFree o with
        | true => exact fin _ hop (opEval_free hm hst')
        | false =>
          obtain ⟨lo, hi, c1, c2, c3, c4, c5, c6⟩ := pf.flt i o ho hq hm
          have l1 : lo ≤ cntL ops listed := by
            rw [c5]; unfold cntL
            refine List.countP_mono_left (fun e he hb => ?_)
            simp only [Bool.and_eq_true] at hb ⊢
            exact ⟨hb.1, (masks_reach hb.2).ready I.closed ho hall⟩
          have l2 : cntL ops listed ≤ hi := by
            rw [c6]; unfold cntL
            refine List.countP_mono_left (fun e he hb => ?_)
            simp only [Bool.and_eq_true, Bool.not_eq_true'] at hb ⊢
            refine ⟨hb.1, ?_⟩
            cases hbb : bef (masks ops) e i with
            | false => rfl
            | true =>
              have := (masks_reach hbb).listed I.closed hb.2
              unfold L at this; rw [hun] at this; cases this
          rcases c4 with ⟨c4, _⟩ | c4
          · have : I.h = A.h_ := by
              have hh' := I.hat
              rw [show cntL ops listed = cntE ops i by omega] at hh'
              exact hh'.uniq A.hat
            exact fin _ hop (by rw [this]; exact hst')
          · have hfo := List.all_eq_true.1 hfl _ c4
            have hAi : isAi ops i = false := by unfold isAi; rw [ho]; exact hA
            simp only [hAi, Bool.false_eq_true, if_false] at hfo
            unfold floatOk at hfo
            simp only [ho] at hfo
            have hwF : aWanted ops envF o = some true := by
              rw [← hw]
              unfold aWanted
              cases hg : o.guard with
              | none => rfl
              | some gw =>
                obtain ⟨g, want⟩ := gw
                simp only
                cases hd : (ops[g]?).bind (·.dst) with
                | none => rfl
                | some d =>
                  simp only
                  obtain ⟨p, hp1, hp2⟩ := Option.bind_eq_some_iff.1 hd
                  obtain ⟨_, e, he, hb, rfl⟩ := pf.grd i o g want ho hg
                  rw [A.new d e.on p (Nat.zero_le _) (pf.lt i o ho e he hb) hp1 hp2]
            rw [hwF] at hfo
            simp only [List.all_eq_true, List.mem_range, Bool.or_eq_true, decide_eq_true_eq] at hfo
            have := (hfo (cntL ops listed) (by omega)).resolve_left (by omega)
            rw [I.hat.get] at this
            simp only at this
            obtain ⟨d, hd⟩ := Option.isSome_iff_exists.1 c3
            rw [hd] at this
            split at this
            · rename_i u h2 d' hop' hd'
              cases hd'
              rw [hx d hd] at this
              simp only at this
              have hu := V.beq_eq this
              subst hu
              obtain ⟨rfl, _⟩ := opEval_quiet' hq hA hop'
              exact fin _ (hopF hq hm) (by rw [opEval_frz (frz' := false) hq]; exact hop')
            · cases this
theorem aDrawn_wp {D : List Deferred} (hcall : CallsOk P call) (hC : CtxOk P C) (hp : planOk ops floats = true) {id : Nat} {env0 envF : Env} {h0 hF : H} {F0 : Frz} {ρ0 : Ren} {a : Act} {w : World} {sz : Nat} (he : aDrawn C call frz floats ops env0 h0 = some (envF, hF))
    (hdst : ∀ o ∈ ops, ∀ d, o.dst = some d → d < sz) (sm : Sim F0 ρ0 h0 w) (hr : EnvRel F0 ρ0 env0 a.tmps) (hs : a.tmps.size = sz) (hd : a.defers = D) : (Code.region id ops true).wp P (Post D F0 ρ0 sz .normal envF hF) a w := by
  have pf := planFacts hp
  unfold aDrawn at he
  split at he
  · simp at he
  · rename_i env1 h1 hpre
    obtain ⟨p1, p2, p3, p4⟩ := preA_facts _ _ _ _ _ hpre
    split at he
    · rename_i e sn hrun
      split at he
      · rename_i hfl
        split at he
        · rename_i h' rest
          simp only [Option.some.injEq, Prod.mk.injEq] at he
          obtain ⟨rfl, rfl⟩ := he
          obtain ⟨_, hlen, hA, hB⟩ := runD_facts (C := C) (call := call) (frz := frz) pf.dist ops.toList 0 env1 [h1] e (h' :: rest) hrun (by simp) (by simp [cntE])
          have e0 : 0 + ops.toList.length = ops.size := by simp
          rw [e0] at hlen hA hB
          refine wp_region_any hC.mixed ?_
          have hex : Ext F0 ρ0 F0 ⟨ρ0.at_, h1.next⟩ := ⟨fun _ _ x => x, fun _ _ x => x, Nat.le_trans sm.nx p1, fun _ _ => rfl⟩
          have hsm : Sim F0 ⟨ρ0.at_, h1.next⟩ h1 { w with drawn := w.drawn + 1 } :=
            ⟨sm.frz, fun b l hb => Nat.lt_of_lt_of_le (sm.dom b l hb) p1,
             fun b x l hx hl => by
              obtain ⟨o, ho, hk⟩ := sm.blk b x l (by rw [← p3 b (sm.dom b l hl)]; exact hx) hl
              exact ⟨o, ho, hk.mono hex⟩,
             fun b b' l l' x x' hl hl' hx hx' hbb => sm.inj b b' l l' x x' hl hl' (by rw [← p3 b (sm.dom b l hl)]; exact hx) (by rw [← p3 b' (sm.dom b' l' hl')]; exact hx') hbb,
             fun b x l hx hl hw => sm.live b x l (by rw [← p3 b (sm.dom b l hl)]; exact hx) hl hw, Nat.le_refl _, sm.io⟩
          have hfalse : ∀ j, (Array.replicate ops.size false).getD j false = false := fun j => by
            by_cases hj : j < ops.size <;> simp [hj]
          have h0at : Hat (h' :: rest) 0 h1 := by
            obtain ⟨⟨pre, hpre⟩, _⟩ := runD_facts (C := C) (call := call) (frz := frz) pf.dist ops.toList 0 env1 [h1] e (h' :: rest) hrun (by simp) (by simp [cntE])
            exact ⟨pre, [], hpre, rfl⟩
          have hc0 : cntL ops (Array.replicate ops.size false) = 0 := by
            unfold cntL
            rw [List.countP_eq_zero]
            intro x _
            rw [hfalse]; simp
          have henv : ∀ t, (∀ o ∈ ops, isA o = true → o.dst ≠ some t) → env1.get t = env0.get t := fun t ht => p4 t (fun o ho => ht o (by simpa using ho))
          refine drawn_any hcall hC pf (n0 := h0.next) (n1 := h1.next) sm.nx henv hdst (fun i o ho => hB i o (Nat.zero_le _) (Array.getElem?_eq_some_iff.1 ho).1 ho) hlen
            (fun t ht => by rw [hA t ht]; exact henv t (fun o ho _ => by obtain ⟨q, hq, hq'⟩ := Array.getElem_of_mem ho; exact ht q o (Nat.zero_le _) hq (by rw [Array.getElem?_eq_getElem hq, hq'])))
            hfl ⟨[], rest, rfl, by simpa using hlen⟩ ops.size _ a _
            ⟨F0, ⟨ρ0.at_, h1.next⟩, h1, hex, (fun j o hj => (by unfold L at hj; rw [hfalse] at hj; cases hj)), by simp, by rw [hc0]; exact h0at, hsm, Nat.le_refl _,
              (fun b hb1 hb2 _ => (by
                show ρ0 b = none
                cases hq : ρ0 b with
                | none => rfl
                | some l => have := sm.dom b l hq; omega)),
              (fun t v _ hv => (by have := (hr.mono hex).at_ t v hv; rw [hs] at this; exact this)),
              (fun j o d v hj => (by unfold L at hj; rw [hfalse] at hj; cases hj)), hs, hd⟩ ?_
          unfold unl
          exact Nat.le_trans List.countP_le_length (by simp)
        · simp at he
      · simp at he
    · simp at he
end
end Go.A
