/- Regions whose order is drawn: soundness. -/
import Derived.Test.YtgekgcffmmbhbaaGreatA16
set_option linter.unusedVariables false
set_option linter.unusedSimpArgs false
noncomputable section
namespace Go.A
open Go
set_option linter.unusedSectionVars false
variable [Outer]
def L (listed : Array Bool) (i : Nat) : Prop := listed.getD i false = true
structure PlanFacts (ops : Array Oper) (floats : List (Nat × Nat × Nat)) : Prop where
  lt : ∀ (j : Nat) (o : Oper), ops[j]? = some o → ∀ e ∈ o.after, Region.binds .any e = true → e.on < j
  dist : Distinct ops
  look : ∀ (j i : Nat) (o p : Oper) (d : Nat), ops[j]? = some o → ops[i]? = some p → p.dst = some d → d ∈ o.looksAt ops → (∃ e ∈ o.after, Region.binds .any e = true ∧ e.on = i) ∨ ((isE o = true ∨ memFree o = true) ∧ isA p = false ∧ ∃ e ∈ p.after, Region.binds .any e = true ∧ e.on = j)
  grd : ∀ (j : Nat) (o : Oper) (g : Nat) (want : Bool), ops[j]? = some o → o.guard = some (g, want) → isA o = false ∧ ∃ e ∈ o.after, Region.binds .any e = true ∧ e.on = g
  eff : ∀ (j i : Nat) (o p : Oper), ops[j]? = some o → ops[i]? = some p → isE o = true → isE p = true → i < j → Reach ops j i
  flt : ∀ (j : Nat) (o : Oper), ops[j]? = some o → isE o = false → memFree o = false → ∃ lo hi, lo ≤ cntE ops j ∧ cntE ops j ≤ hi ∧ o.dst.isSome = true ∧ ((lo = hi ∧ isA o = false) ∨ (j, lo, hi) ∈ floats) ∧
    lo = (List.range ops.size).countP (fun e => isEi ops e && bef (masks ops) j e) ∧ hi = (List.range ops.size).countP (fun e => isEi ops e && !bef (masks ops) e j)
theorem dirAfter_spec {o : Oper} {i : Nat} (h : dirAfter o i = true) : ∃ e ∈ o.after, Region.binds .any e = true ∧ e.on = i := by
  unfold dirAfter at h
  obtain ⟨e, he, hb⟩ := Array.any_eq_true'.1 h
  simp only [Bool.and_eq_true, beq_iff_eq] at hb
  exact ⟨e, he, hb⟩
theorem planFacts {ops : Array Oper} {floats : List (Nat × Nat × Nat)} (h : planOk ops floats = true) : PlanFacts ops floats := by
  unfold planOk at h
  simp only [List.all_eq_true, List.mem_range] at h
  have all : ∀ (j : Nat) (o : Oper), ops[j]? = some o → _ := fun j o ho => by
    have := h j (Array.getElem?_eq_some_iff.1 ho).1
    rw [ho] at this
    simp only [Bool.and_eq_true] at this
    exact this
  have pair : ∀ (j i : Nat) (o p : Oper), ops[j]? = some o → ops[i]? = some p → _ := fun j i o p ho hp => by
    have := (all j o ho).1.1.2
    simp only [List.all_eq_true, List.mem_range] at this
    have := this i (Array.getElem?_eq_some_iff.1 hp).1
    rw [hp] at this
    simp only [Bool.and_eq_true] at this
    exact this
  refine ⟨fun j o ho e he hb => ?_, fun i j o p d hne ho hp hd => ?_, fun j i o p d ho hp hd hl => ?_, fun j o g want ho hg => ?_, fun j i o p ho hp h1 h2 hlt => ?_, fun j o ho h1 h2 => ?_⟩
  · have := Array.all_eq_true_iff_forall_mem.1 (all j o ho).1.1.1 e he
    simpa [hb] using this
  · have := (pair j i p o hp ho).1
    rw [hd] at this
    simp only [Bool.and_eq_true, Bool.or_eq_true, beq_iff_eq, decide_eq_true_eq] at this
    exact this.1.resolve_left hne
  · have := (pair j i o p ho hp).1
    rw [hd] at this
    simp only [Bool.and_eq_true, Bool.or_eq_true, Bool.not_eq_true'] at this
    rcases this.2 with (q | q) | q
    · have hc : (o.looksAt ops).contains d = true := by simpa using hl
      rw [hc] at q; cases q
    · exact .inl (dirAfter_spec q)
    · exact .inr ⟨q.1.1, q.1.2, dirAfter_spec q.2⟩
  · have := (all j o ho).1.2
    rw [hg] at this
    simp only [Bool.and_eq_true, Bool.not_eq_true'] at this
    exact ⟨this.2, dirAfter_spec this.1.1⟩
  · have := (pair j i o p ho hp).2
    rw [h1, h2] at this
    simp only [Bool.true_and, Bool.or_eq_true, Bool.not_eq_true', decide_eq_false_iff_not] at this
    exact masks_reach (this.resolve_left (fun q => q hlt))
  · have := (all j o ho).2
    rw [h1, h2] at this
    simp only [Bool.false_or, Bool.and_eq_true, decide_eq_true_eq, Bool.or_eq_true, List.contains_iff_mem, Bool.not_eq_true'] at this
    exact ⟨_, _, this.1.1.1, this.1.1.2, this.1.2, this.2, rfl, rfl⟩
def Closed (ops : Array Oper) (listed : Array Bool) : Prop := ∀ (j : Nat) (o : Oper), L listed j → ops[j]? = some o → ∀ e ∈ o.after, Region.binds .any e = true → L listed e.on
theorem Reach.listed {ops : Array Oper} {listed : Array Bool} (hc : Closed ops listed) {j i : Nat} (hr : Reach ops j i) : L listed j → L listed i := by
  induction hr with
  | one ho he hb => exact fun hj => hc _ _ hj ho _ he hb
  | step ho he hb _ ih => exact fun hj => ih (hc _ _ hj ho _ he hb)
theorem Reach.ready {ops : Array Oper} {listed : Array Bool} (hc : Closed ops listed) {j i : Nat} (hr : Reach ops j i) {o : Oper} (ho : ops[j]? = some o) (hall : ∀ e ∈ o.after, Region.binds .any e = true → L listed e.on) : L listed i := by
  cases hr with
  | one ho' he hb => rw [ho] at ho'; cases ho'; exact hall _ he hb
  | step ho' he hb hr => rw [ho] at ho'; cases ho'; exact hr.listed hc (hall _ he hb)
def cntL (ops : Array Oper) (listed : Array Bool) : Nat := (List.range ops.size).countP fun e => isEi ops e && listed.getD e false
theorem countP_lt (f : Nat → Bool) (i : Nat) : ∀ n, i ≤ n → (List.range n).countP (fun e => f e && decide (e < i)) = (List.range i).countP f := by
  intro n hn
  obtain ⟨k, rfl⟩ := Nat.exists_eq_add_of_le hn
  clear hn
  induction k with
  | zero =>
    simp only [Nat.add_zero]
    exact List.countP_congr (fun x hx => by simp [List.mem_range.1 hx])
  | succ k ih =>
    rw [← Nat.add_assoc, List.range_succ, List.countP_append, ih]
    simp [List.countP_cons]
theorem countP_set (f : Nat → Bool) (listed : Array Bool) (i : Nat) (hi : i < listed.size) (hu : listed.getD i false = false) : ∀ n, i < n →
    (List.range n).countP (fun e => f e && (listed.setIfInBounds i true).getD e false) = (List.range n).countP (fun e => f e && listed.getD e false) + (if f i then 1 else 0) := by
  intro n hn
  have same : ∀ e, e ≠ i → (listed.setIfInBounds i true).getD e false = listed.getD e false := fun e he => by
    simp [Array.getElem?_setIfInBounds_ne (Ne.symm he)]
  have atI : (listed.setIfInBounds i true).getD i false = true := by simp [hi]
  obtain ⟨k, rfl⟩ := Nat.exists_eq_add_of_le (Nat.succ_le_of_lt hn)
  clear hn
  induction k with
  | zero =>
    simp only [Nat.add_zero, Nat.succ_eq_add_one, List.range_succ, List.countP_append]
    have : (List.range i).countP (fun e => f e && (listed.setIfInBounds i true).getD e false) = (List.range i).countP (fun e => f e && listed.getD e false) :=
      List.countP_congr (fun x hx => by rw [same x (by have := List.mem_range.1 hx; omega)])
    rw [this]
    simp only [List.countP_cons, List.countP_nil, atI, hu, Bool.and_true, Bool.and_false, Bool.false_eq_true, if_false, Nat.zero_add, Nat.add_zero]
  | succ k ih =>
    rw [← Nat.add_assoc, List.range_succ, List.countP_append, List.countP_append, ih]
    simp only [List.countP_cons, List.countP_nil, same (i.succ + k) (by omega)]
    omega
theorem opEval_frz {C : Ctx} {frz frz' : Bool} {ev : Operand → Option V} {o : Oper} {h : H} (hE : isE o = false) : opEval C frz ev o h = opEval C frz' ev o h := by
  unfold opEval
  unfold isE isE0 isA at hE
  split <;> try rfl
  split <;> try rfl
  simp_all
section
variable {P : Program} {C : Ctx} {call : CallK} {frz : Nat → Bool} {ops : Array Oper} {floats : List (Nat × Nat × Nat)}
structure Inv (P : Program) (D : List Deferred) (ops : Array Oper) (F0 : Frz) (ρ0 : Ren) (n0 n1 : Nat) (env0 envF : Env) (snF : List H) (sz : Nat) (listed : Array Bool) (a : Act) (w : World) where
  F : Frz
  ρ : Ren
  h : H
  ext : Ext F0 ρ0 F ρ
  closed : Closed ops listed
  size : listed.size = ops.size
  hat : Hat snF (cntL ops listed) h
  sim : Sim F ρ h w
  nx : n1 ≤ ρ.nx
  fresh : ∀ b, n0 ≤ b → b < n1 → (∀ j, L listed j → allocId ops envF j ≠ some b) → ρ b = none
  old : ∀ t v, (∀ (j : Nat) (o : Oper), L listed j → ops[j]? = some o → o.dst ≠ some t) → env0.get t = some v → t < sz ∧ RelV F ρ v (a.tmps.getD t undef)
  new : ∀ (i : Nat) (o : Oper) (d : Nat) (v : V), L listed i → ops[i]? = some o → o.dst = some d → envF.get d = some v → d < sz ∧ RelV F ρ v (a.tmps.getD d undef)
  tsz : a.tmps.size = sz
  defs : a.defers = D
def unl (ops : Array Oper) (listed : Array Bool) : Nat := (List.range ops.size).countP fun e => !listed.getD e false
theorem opEval_A {C : Ctx} (hC : CtxOk P C) {a : Act} {t : TypeId} {ti : TI} (ht : C.ty.get t = some ti) (w : World) (o : Oper) (ho : o.op = .alloc t) (F : Frz) (ρ : Ren) :
    ∃ cs, Rel F ρ ti.zero cs ∧ ti.zero.isTup = false ∧ (execOp a.eval o).run P w = .ok (.value (.pointer (some ⟨w.heap.size, 0, none⟩))) { w with heap := w.heap.push (.cells cs.toArray t) } := by
  obtain ⟨i, d, z, g1, g2, g3, g4, g5, g6, g7, g8, g9⟩ := (hC.ty _ _ ht).ok
  obtain ⟨cs, hr, rfl⟩ := g7 F ρ
  have hcells : (ti.zero.pack cs).cells = cs.toArray := by
    apply Array.ext'; simpa using hr.isAgg_pack g8
  refine ⟨cs, hr, g8, ?_⟩
  unfold execOp
  rw [ho]
  simp [Instr.alloc, zeroValue, typeInfo, g1, g6, newVar, newRow, hcells]
/-- What the abstract side made ahead comes to be. -/
theorem Sim.fill {F : Frz} {ρ : Ren} {h : H} {w w' : World} (s : Sim F ρ h w) {b : Nat} {x : Blk} {o : Obj} {l : Loc} (hx : h.get b = some x) (hr : ρ b = none) (hlt' : b < h.next) (hb : l.bb = w.heap.size)
    (h1 : ∀ n, n < w.heap.size → w'.heap[n]? = w.heap[n]?) (h2 : w'.heap[w.heap.size]? = some o) (h3 : ObjOk F ρ x l o) (eio : SameIo w w' := by exact ⟨rfl, rfl⟩) :
    WExt F ρ F ⟨fun c => if c = b then some l else ρ c, ρ.nx⟩ ∧ Sim F ⟨fun c => if c = b then some l else ρ c, ρ.nx⟩ h w' := by
  have he : WExt F ρ F ⟨fun c => if c = b then some l else ρ c, ρ.nx⟩ := ⟨fun _ _ _ _ hh => hh, fun c l' hl' => by
    have : c ≠ b := by rintro rfl; rw [hr] at hl'; cases hl'
    simp only [this, if_false]; exact hl'⟩
  have hF : ∀ n o, F n = some o → n < w.heap.size := fun n o hn => (Array.getElem?_eq_some_iff.1 (s.frz n o hn)).1
  have hlt : ∀ c y l', h.get c = some y → ρ c = some l' → l'.bb < w.heap.size := fun c y l' hy hl' => by
    obtain ⟨o', ho', _⟩ := s.blk c y l' hy hl'
    exact (Array.getElem?_eq_some_iff.1 ho').1
  refine ⟨he, ⟨fun n o' hn => ?_, fun c l' hl' => ?_, fun c y l' hy hl' => ?_, fun c c' l1 l2 y y' hl1 hl2 hy hy' hbb => ?_, fun c y l' hy hl' hwr => ?_, s.nx, s.same eio⟩⟩
  · rw [h1 n (hF n o' hn)]; exact s.frz n o' hn
  · by_cases e : c = b
    · rw [e]; exact hlt'
    · simp only [e, if_false] at hl'; exact s.dom c l' hl'
  · by_cases e : c = b
    · subst e
      simp only [if_true, Option.some.injEq] at hl'; subst hl'
      rw [hx] at hy; cases hy
      exact ⟨o, by rw [hb]; exact h2, h3.wmono he⟩
    · simp only [e, if_false] at hl'
      obtain ⟨o', ho', hk⟩ := s.blk c y l' hy hl'
      exact ⟨o', by rw [h1 _ (hlt c y l' hy hl')]; exact ho', hk.wmono he⟩
  · by_cases e : c = b <;> by_cases e' : c' = b
    · rw [e, e']
    · simp only [e, if_true, Option.some.injEq] at hl1; subst hl1
      simp only [e', if_false] at hl2
      have := hlt _ _ _ hy' hl2; omega
    · simp only [e', if_true, Option.some.injEq] at hl2; subst hl2
      simp only [e, if_false] at hl1
      have := hlt _ _ _ hy hl1; omega
    · simp only [e, if_false] at hl1
      simp only [e', if_false] at hl2
      exact s.inj c c' l1 l2 y y' hl1 hl2 hy hy' hbb
  · by_cases e : c = b
    · simp only [e, if_true, Option.some.injEq] at hl'; subst hl'
      cases hq : F l.bb with
      | none => rfl
      | some o' => have := hF _ _ hq; omega
    · simp only [e, if_false] at hl'
      exact s.live c y l' hy hl' hwr
theorem preA_facts {C : Ctx} : ∀ (l : List Oper) (env : Env) (h : H) (env' : Env) (h' : H), preA C l env h = some (env', h') → h.next ≤ h'.next ∧ h'.lo = h.lo ∧ (∀ b, b < h.next → h'.get b = h.get b) ∧ (∀ t, (∀ o ∈ l, isA o = true → o.dst ≠ some t) → env'.get t = env.get t)
  | [], env, h, env', h', he => by
    simp only [preA, Option.some.injEq, Prod.mk.injEq] at he
    obtain ⟨rfl, rfl⟩ := he
    exact ⟨Nat.le_refl _, rfl, fun _ _ => rfl, fun _ _ => rfl⟩
  | o :: r, env, h, env', h', he => by
    unfold preA at he
    split at he
    · rename_i t d ho hd
      split at he
      · rename_i x h1 hx
        unfold aAlloc at hx
        simp only [Option.map_eq_some_iff] at hx
        obtain ⟨ti, _, hx⟩ := hx
        cases hx
        obtain ⟨g1, g2, g3, g4⟩ := preA_facts r _ _ env' h' he
        refine ⟨Nat.le_trans (Nat.le_succ _) g1, g2, fun b hb => ?_, fun t' ht => ?_⟩
        · rw [g3 b (Nat.lt_succ_of_lt hb)]
          show (h.push _).get b = _
          rw [H.get_push, if_neg (by omega)]
        · rw [g4 t' (fun o' ho' => ht o' (by simp [ho']))]
          refine Tr.get_set_ne _ _ (fun e => ht o (by simp) (by unfold isA; rw [ho]) (by rw [hd, e]))
      · simp at he
    · simp at he
    · rename_i t d ho hd
      obtain ⟨g1, g2, g3, g4⟩ := preA_facts r _ _ env' h' he
      refine ⟨Nat.le_trans (Nat.le_succ _) g1, g2, fun b hb => ?_, fun t' ht => ?_⟩
      · rw [g3 b (Nat.lt_succ_of_lt hb)]
        show (h.push _).get b = _
        rw [H.get_push, if_neg (by omega)]
      · rw [g4 t' (fun o' ho' => ht o' (by simp [ho']))]
        refine Tr.get_set_ne _ _ (fun e => ht o (by simp) (by unfold isA; rw [ho]) (by rw [hd, e]))
    · simp at he
    · obtain ⟨g1, g2, g3, g4⟩ := preA_facts r env h env' h' he
      exact ⟨g1, g2, g3, fun t' ht => g4 t' (fun o' ho' => ht o' (by simp [ho']))⟩
/-- Whatever the i-th operation leaves: the next state. -/
theorem Inv.next {D F0 ρ0 n0 n1 env0 envF snF sz listed a w} (I : Inv P D ops F0 ρ0 n0 n1 env0 envF snF sz listed a w) (hD : Distinct ops) {i : Nat} {o : Oper} (ho : ops[i]? = some o) (hun : listed.getD i false = false)
    (hall : ∀ e ∈ o.after, Region.binds .any e = true → L listed e.on) (hdst : ∀ d, o.dst = some d → d < sz) {x : V} {v : Value} {h' : H} {w' : World} {F' : Frz} {ρ' : Ren} (hx : ∀ d, o.dst = some d → envF.get d = some x)
    (hext : WExt I.F I.ρ F' ρ') (hext0 : Ext F0 ρ0 F' ρ') (hnx : n1 ≤ ρ'.nx) (hfr : ∀ b, n0 ≤ b → b < n1 → I.ρ b = none → allocId ops envF i ≠ some b → ρ' b = none) (hsim : Sim F' ρ' h' w') (hrel : RelV F' ρ' x v) (hhat : Hat snF (cntL ops listed + (if isE o then 1 else 0)) h') :
    Nonempty (Inv P D ops F0 ρ0 n0 n1 env0 envF snF sz (listed.setIfInBounds i true) (a.put o.dst v) w') := by
  have hi : i < listed.size := by rw [I.size]; exact (Array.getElem?_eq_some_iff.1 ho).1
  have hLset : ∀ j, L (listed.setIfInBounds i true) j → j = i ∨ L listed j := fun j hj => by
    by_cases e : j = i
    · exact .inl e
    · right; unfold L at hj ⊢; simpa [Array.getElem?_setIfInBounds_ne (Ne.symm e)] using hj
  have hLmono : ∀ j, L listed j → L (listed.setIfInBounds i true) j := fun j hj => getD_set_true hj
  have hEi : isEi ops i = isE o := by unfold isEi; rw [ho]
  refine ⟨⟨F', ρ', h', hext0, fun j p hj hp e he hb => ?_, by simp [I.size], ?_, hsim, hnx, fun b h1 h2 h3 => ?_, fun t u ht hu => ?_, fun j p d u hj hp hd hu => ?_, ?_, ?_⟩⟩
  · rcases hLset j hj with rfl | hj
    · rw [ho] at hp; cases hp; exact hLmono _ (hall e he hb)
    · exact hLmono _ (I.closed j p hj hp e he hb)
  · have : cntL ops (listed.setIfInBounds i true) = cntL ops listed + (if isE o then 1 else 0) := by
      unfold cntL
      rw [countP_set (isEi ops) listed i hi hun ops.size (Array.getElem?_eq_some_iff.1 ho).1, hEi]
    rw [this]; exact hhat
  · exact hfr b h1 h2 (I.fresh b h1 h2 (fun j hj => h3 j (hLmono j hj))) (h3 i (by unfold L; simp [hi]))
  · obtain ⟨h1, h2⟩ := I.old t u (fun j p hj hp => ht j p (hLmono j hj) hp) hu
    refine ⟨h1, ?_⟩
    have : (a.put o.dst v).tmps.getD t undef = a.tmps.getD t undef := by
      cases hd : o.dst with
      | none => rfl
      | some d =>
        have hne : d ≠ t := fun e => ht i o (by unfold L; simp [hi]) ho (by rw [hd, e])
        simp [Act.put, Array.getElem?_setIfInBounds_ne hne]
    rw [this]; exact h2.wmono hext
  · by_cases e : j = i
    · subst e
      rw [ho] at hp; cases hp
      rw [hx d hd] at hu; cases hu
      have := hdst d hd
      refine ⟨this, ?_⟩
      rw [hd]
      simp [Act.put, I.tsz, this, hrel]
    · have hj' := (hLset j hj).resolve_left e
      obtain ⟨h1, h2⟩ := I.new j p d u hj' hp hd hu
      refine ⟨h1, ?_⟩
      have : (a.put o.dst v).tmps.getD d undef = a.tmps.getD d undef := by
        cases hd' : o.dst with
        | none => rfl
        | some d' =>
          have hne : d' ≠ d := fun e' => hD i j o p d' (Ne.symm e) ho hp hd' (by rw [hd, e'])
          simp [Act.put, Array.getElem?_setIfInBounds_ne hne]
      rw [this]; exact h2.wmono hext
  · rw [← I.tsz]; cases o.dst <;> simp [Act.put]
  · rw [← I.defs]; cases o.dst <;> rfl
end
end Go.A
