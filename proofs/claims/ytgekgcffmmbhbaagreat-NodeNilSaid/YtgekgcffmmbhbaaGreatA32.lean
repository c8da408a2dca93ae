/- A range over the keys of a map, whichever order they come in; sorted keys. -/
import Derived.Test.YtgekgcffmmbhbaaGreatA31
import Derived.LoopNIn
set_option linter.unusedVariables false
set_option linter.unusedSimpArgs false
noncomputable section
namespace Go.A
open Go
set_option linter.unusedSectionVars false
variable [Outer]
def catO {α β : Type} (f : α → Option (List β)) : List α → Option (List β)
  | [] => some []
  | x :: r => match f x with
    | some y => (match catO f r with
      | some ys => some (y ++ ys)
      | none => none)
    | none => none
theorem catO_mem {α β : Type} {f : α → Option (List β)} : ∀ {l : List α} {ys : List β}, catO f l = some ys → ∀ x ∈ l, ∃ zs, f x = some zs ∧ ∀ z ∈ zs, z ∈ ys
  | [], ys, h, x, hx => by simp at hx
  | a :: r, ys, h, x, hx => by
    simp only [catO] at h
    split at h
    · rename_i y hy
      split at h
      · rename_i zs hz
        cases h
        rcases List.mem_cons.1 hx with rfl | hx
        · exact ⟨y, hy, fun z hz' => by simp [hz']⟩
        · obtain ⟨z, h1, h2⟩ := catO_mem hz x hx; exact ⟨z, h1, fun q hq => by simp [h2 q hq]⟩
      · simp at h
    · simp at h
theorem catO_mem' {α β : Type} {f : α → Option (List β)} : ∀ {l : List α} {ys : List β}, catO f l = some ys → ∀ y ∈ ys, ∃ x ∈ l, ∃ zs, f x = some zs ∧ y ∈ zs
  | [], ys, h, y, hy => by simp only [catO, Option.some.injEq] at h; subst h; simp at hy
  | a :: r, ys, h, y, hy => by
    simp only [catO] at h
    split at h
    · rename_i y' hy'
      split at h
      · rename_i zs hz
        cases h
        rcases List.mem_append.1 hy with hy | hy
        · exact ⟨a, by simp, y', hy', hy⟩
        · obtain ⟨z, h1, h2⟩ := catO_mem' hz y hy; exact ⟨z, by simp [h1], h2⟩
      · simp at h
    · simp at h
/-- What the next step of a walk over a map may hand out. -/
def aNexts (x : V) (h : H) : Option (List (V × H)) :=
  match x with
  | .ptr ⟨b, [], 0⟩ => match h.get b with
    | some (.it m since seen last) => match h.get m with
      | some (.map es clock) => if h.lo ≤ b ∧ es.all (fun e => decide (e.2.2 < since)) = true ∧ since ≤ last then
          (match es.filter (fun e => !seen.contains e.2.2) with
            | [] => some [(.tup [.sc (.bool false)], h)]
            | e :: r => some ((e :: r).map fun e => (.tup [.sc (.bool true), e.1, e.2.1], h.set b (.it m since (seen ++ [e.2.2]) clock)))) else none
      | _ => none
    | _ => none
  | _ => none
def aEntry (x : V) (h : H) : Option V :=
  match x with
  | .ptr ⟨b, [], 0⟩ => match h.get b with
    | some (.it m since seen last) => match h.get m, seen.getLast? with
      | some (.map es clock), some n => if clock = last then (es.find? (fun e => e.2.2 == n)).map fun e => .tup [e.1, e.2.1] else none
      | _, _ => none
    | _ => none
  | _ => none
def plain1 (C : Ctx) (call : CallK) (frz : Nat → Bool) (o : Oper) (env : Env) (h : H) : Option (Env × H) :=
  match o.guard with
  | some _ => none
  | none => if notDefer o = true ∧ o.dst ≠ some 0 then (stepOp C call (frz (o.dst.getD 0)) (evalOp env) o h).map fun x => (envPut env o.dst x.1, x.2) else none
def isMove0 (o : Oper) : Option Nat :=
  match o.guard, o.op, o.dst with
  | none, .move (.tmp 0), some y => if y = 0 then none else some y
  | _, _, _ => none
def isYield (o : Oper) (y : Nat) : Option (Nat × Nat) :=
  match o.guard, o.op, o.dst with
  | none, .call ⟨.value (.tmp y'), args, _⟩, some r => match args.toList with
    | [.tmp t] => if y' = y ∧ r ≠ 0 then some (t, r) else none
    | _ => none
  | _, _, _ => none
def isEntry (o : Oper) : Option Operand :=
  match o.guard, o.op with
  | none, .entry x => if o.dst = some 0 then none else some x
  | _, _ => none
def isNext (o : Oper) : Option Operand :=
  match o.guard, o.op with
  | none, .next x false => if o.dst = some 0 then none else some x
  | _, _ => none
def isTest (env : Env) (c : Operand) : Option Bool :=
  match evalOp env c with
  | some (.sc (.bool b)) => some b
  | _ => none
def okOps (os : List Oper) : Option Unit := if (os.all fun o => notDefer o && decide (o.dst ≠ some 0)) = true then some () else none
def aKBody (C : Ctx) (call : CallK) (frz : Nat → Bool) (round : V → H → Option H) (ops2 ops3 : Array Oper) (c2 : Operand) (env : Env) (h : H) : Option (Env × H) :=
  match ops2.toList, ops3.toList with
  | e :: os2, [m, ld, cl, nt] =>
    (isEntry e).bind fun x => (evalOp env x).bind fun v => (aEntry v h).bind fun u => (okOps os2).bind fun _ =>
    (runOps C call frz ops2 os2 (envPut env e.dst u) h).bind fun s3 => (isMove0 m).bind fun y =>
    (plain1 C call frz ld s3.1 s3.2).bind fun s4 => (if s3.1.get y = none ∧ s4.1.get y = none ∧ ld.dst ≠ some y then some () else none).bind fun _ =>
    (isYield cl y).bind fun tr => (s4.1.get tr.1).bind fun kv => (round kv s4.2).bind fun h5 =>
    (plain1 C call frz nt (s4.1.set tr.2 (.sc (.bool true))) h5).bind fun s6 => (isTest s6.1 c2).bind fun b => if b then none else some s6
  | _, _ => none
def aKHead (C : Ctx) (call : CallK) (frz : Nat → Bool) (ops1 : Array Oper) (env : Env) (h : H) : Option (List (Env × H)) :=
  match ops1.toList with
  | [o1, o2] => (isNext o1).bind fun x => (evalOp env x).bind fun v => (aNexts v h).bind fun outs => mapO (fun out => plain1 C call frz o2 (envPut env o1.dst out.1) out.2) outs
  | _ => none
def aKLoop (C : Ctx) (call : CallK) (frz : Nat → Bool) (round : V → H → Option H) (ops1 ops2 ops3 : Array Oper) (c1 c2 : Operand) : Nat → Env → H → Option (List H)
  | 0, _, _ => none
  | n + 1, env, h => (aKHead C call frz ops1 env h).bind fun heads => catO (fun s => (isTest s.1 c1).bind fun b => if b then (aKBody C call frz round ops2 ops3 c2 s.1 s.2).bind fun r => aKLoop C call frz round ops1 ops2 ops3 c1 c2 n r.1 r.2 else some [s.2]) heads
def aKeysOf (C : Ctx) (call : CallK) (n : Nat) (gid : FuncId) (caps : List V) (round : V → H → Option H) (h : H) : Option (List H) :=
  match C.fn.get gid with
  | none => none
  | some fk => match fk.body with
    | some (.seq (.region _ ops0 false) (.block b0 (.loop (.seq (.region _ ops1 false) (.seq (.cond c1 .skip (.exit b0')) (.block _ (.seq (.region _ ops2 false) (.seq (.region _ ops3 false) (.cond c2 .ret .skip))))))))) =>
      if b0 = b0' ∧ caps.length + 1 ≤ fk.ntmps then
        (okOps ops0.toList).bind fun _ => (match fk.results.toList with
          | [] => (runOps C call (frzOf C gid) ops0 ops0.toList (initEnv caps 1 .lf) h).bind fun s => aKLoop C call (frzOf C gid) round ops1 ops2 ops3 c1 c2 n s.1 s.2
          | _ => none)
      else none
    | _ => none
section
variable {P : Program} {C : Ctx} {F : Frz} {ρ : Ren} {h : H} {w : World}
theorem EntsOk.memE : ∀ {es : List (V × V × Nat)} {ents : List MapEntry}, EntsOk F ρ es ents → ∀ e ∈ ents, ∃ x ∈ es, RelV F ρ x.1 e.key ∧ RelV F ρ x.2.1 e.val ∧ e.born = x.2.2
  | _, _, .nil, e, he => by simp at he
  | _, _, .cons h1 h2 h3 h4, e, he => by
    rcases List.mem_cons.1 he with rfl | he
    · exact ⟨_, List.mem_cons_self, h1, h2, h3⟩
    · obtain ⟨x, q1, q2⟩ := EntsOk.memE h4 e he; exact ⟨x, by simp [q1], q2⟩
theorem EntsOk.findE {n : Nat} : ∀ {es : List (V × V × Nat)} {ents : List MapEntry}, EntsOk F ρ es ents → ∀ x, es.find? (fun e => e.2.2 == n) = some x → ∃ e, ents.find? (fun e => e.born == n) = some e ∧ RelV F ρ x.1 e.key ∧ RelV F ρ x.2.1 e.val
  | _, _, .nil, x, hx => by simp at hx
  | _, _, .cons (k := k) (v := v) (n := n') (es := es) (e := e) (ents := ents) h1 h2 h3 h4, x, hx => by
    subst h3
    simp only [List.find?_cons] at hx ⊢
    cases hq : e.born == n with
    | true => rw [hq] at hx; cases hx; exact ⟨e, rfl, h1, h2⟩
    | false => rw [hq] at hx; exact EntsOk.findE h4 x hx
theorem aNexts_sound {x : V} {outs : List (V × H)} {xv : Value} {ty : TypeId} (he : aNexts x h = some outs) (s : Sim F ρ h w) (hx : RelV F ρ x xv) :
    ∃ out ∈ outs, ∃ z w', (Instr.next xv false ty).run P w = .ok z w' ∧ Sim F ρ out.2 w' ∧ RelV F ρ out.1 z := by
  unfold aNexts at he
  split at he
  · rename_i b
    split at he
    · rename_i m since seen last hb
      split at he
      · rename_i es clock hm
        split at he
        · rename_i hc
          obtain ⟨c1, c2, c3⟩ := hc
          obtain ⟨cs, hr, rfl⟩ := hx
          cases hr with
          | ptr hl =>
            rename_i l
            obtain ⟨o, ho, hok⟩ := s.blk b _ _ hb hl
            cases hok with
            | it hml hsh =>
              rename_i lm
              obtain ⟨o2, ho2, hok2⟩ := s.blk m _ _ hm hml
              cases hok2 with
              | map hes =>
                rename_i ents
                have hold : ∀ x ∈ ents.toList, x.born < since := fun x hx => by
                  have := hes.born (fun n => decide (n < since)) c2 x hx
                  simpa using this
                have hleft : (leftOf ents seen.toArray).toList = ents.toList.filter fun e => !seen.contains e.born := by simp [leftOf]
                have hf := hes.filter (fun n => !seen.contains n)
                have hxe : (V.ptr ⟨b, [], 0⟩).pack [.pointer (some ⟨l.bb, l.sh + 0, none⟩)] = .pointer (some ⟨l.bb, 0, none⟩) := by rw [hsh]; rfl
                have hrun := run_next_at (P := P) w ty l.bb lm.bb since last seen.toArray ents clock ho ho2 hold c3
                have goal : ∃ out ∈ outs, ∃ z w', (Instr.next (.pointer (some ⟨l.bb, 0, none⟩)) false ty).run P w = .ok z w' ∧ Sim F ρ out.2 w' ∧ RelV F ρ out.1 z := by
                  split at he
                  · rename_i hnil
                    cases he
                    rw [hnil] at hf
                    have h0 : (leftOf ents seen.toArray).toList = [] := by rw [hleft]; generalize ents.toList.filter _ = q at hf; cases hf; rfl
                    rcases hrun with ⟨_, hrun⟩ | ⟨e, he', _⟩
                    · exact ⟨_, List.mem_singleton.2 rfl, _, w, hrun, s, ⟨_, .tup (.cons (.sc (v := .bool false) rfl) .nil), rfl⟩⟩
                    · rw [h0] at he'; simp at he'
                  · rename_i e0 r0 hone
                    cases he
                    rw [hone] at hf
                    rcases hrun with ⟨hz, _⟩ | ⟨e', he', w1, hw1, hrun⟩
                    · have h0 : (leftOf ents seen.toArray).toList = [] := by
                        have : (leftOf ents seen.toArray).toList.length = 0 := by simpa using hz
                        exact List.eq_nil_of_length_eq_zero this
                      rw [hleft] at h0
                      rw [h0] at hf; cases hf
                    · rw [hleft] at he'
                      obtain ⟨y, hy, k1, k2, k3⟩ := hf.memE e' he'
                      have hheap : w1.heap = w.heap := by rcases hw1 with rfl | rfl <;> rfl
                      have hlt := (Array.getElem?_eq_some_iff.1 ho).1
                      refine ⟨_, List.mem_map_of_mem hy, _, _, hrun, s.put (o := .mapIter (some lm.bb) since (seen ++ [y.2.2]).toArray clock) hb hl rfl (fun q hq => ?_) ?_ (.it hml hsh) rfl (by simp) (by rcases hw1 with hw1 | hw1 <;> rw [hw1] <;> exact ⟨rfl, rfl⟩), ?_⟩
                      · show (w1.heap.setIfInBounds l.bb _)[q]? = _
                        rw [hheap]; simp [Array.getElem?_setIfInBounds_ne (Ne.symm hq)]
                      · show (w1.heap.setIfInBounds l.bb _)[l.bb]? = _
                        rw [hheap]; simp [hlt, k3]
                      · obtain ⟨kc, q1, q2⟩ := k1
                        obtain ⟨vc, v1, v2⟩ := k2
                        refine ⟨_, .tup (.cons (.sc (v := .bool true) rfl) (.cons q1 (.cons v1 .nil))), ?_⟩
                        rw [q2, v2]; rfl
                rw [hxe]; exact goal
        · simp at he
      · simp at he
    · simp at he
  · simp at he
theorem aEntry_sound {x y : V} {xv : Value} (he : aEntry x h = some y) (s : Sim F ρ h w) (hx : RelV F ρ x xv) : ∃ z, (Instr.entry xv).run P w = .ok z w ∧ RelV F ρ y z := by
  unfold aEntry at he
  split at he
  · rename_i b
    split at he
    · rename_i m since seen last hb
      split at he
      · rename_i es clock n hm hla
        split at he
        · rename_i hcl
          subst hcl
          simp only [Option.map_eq_some_iff] at he
          obtain ⟨e, hfe, he⟩ := he
          subst he
          obtain ⟨cs, hr, rfl⟩ := hx
          cases hr with
          | ptr hl =>
            rename_i l
            obtain ⟨o, ho, hok⟩ := s.blk b _ _ hb hl
            cases hok with
            | it hml hsh =>
              rename_i lm
              obtain ⟨o2, ho2, hok2⟩ := s.blk m _ _ hm hml
              cases hok2 with
              | map hes =>
                rename_i ents
                obtain ⟨e', hfe', k1, k2⟩ := hes.findE e hfe
                have hfa : ents.find? (fun x => x.born == n) = some e' := by rw [← Array.find?_toList]; exact hfe'
                have hba : seen.toArray.back? = some n := by simpa using hla
                have hxe : (V.ptr ⟨b, [], 0⟩).pack [.pointer (some ⟨l.bb, l.sh + 0, none⟩)] = .pointer (some ⟨l.bb, 0, none⟩) := by rw [hsh]; rfl
                rw [hxe]
                refine ⟨.tuple #[e'.key, e'.val], ?_, ?_⟩
                · simp only [Instr.entry, getObj, Sem.run_bind, Sem.run, ho, ho2, Result.andThen, hba, bne_self_eq_false, Bool.false_eq_true, if_false, hfa]
                  rfl
                · obtain ⟨kc, q1, q2⟩ := k1
                  obtain ⟨vc, v1, v2⟩ := k2
                  refine ⟨_, .tup (.cons q1 (.cons v1 .nil)), ?_⟩
                  rw [q2, v2]; rfl
        · simp at he
      · simp at he
    · simp at he
  · simp at he
theorem opsIn_step {FF : Fence} {n : Nat} {ops : Array Oper} {Q : Exit → Act → World → Prop} {i : Nat} {rest : List Nat} {o : Oper} {a : Act} (ho : ops[i]? = some o) (hg : o.guard = none) (h : o.wpIn FF n P a w (wpOpsIn FF n P ops Q rest) Q) : wpOpsIn FF n P ops Q (i :: rest) a w := by
  simp only [wpOpsIn, ho]
  rw [if_pos (wanted_none hg _)]
  exact h
theorem op1_wpIn {ro : Option Nat} {n : Nat} {o : Oper} {a : Act} {v : Value} {w' : World} {K : Act → World → Prop} {Q : Exit → Act → World → Prop} (hnd : notDefer o = true) (hex : (execOp a.eval o).run P w = .ok (.value v) w') (hk : K (a.put o.dst v) w') : o.wpIn (wideR ro) n P a w K Q := by
  have hsem : o.semAt (wideR ro).round a.eval = execOp a.eval o := Oper.semAt_eq _ _ _ (fun c hc => by simp [notDefer, hc] at hnd)
  refine ⟨fun _ _ => trivial, ?_⟩
  rw [hsem, hex]; exact hk
theorem put_keep {a : Act} {d : Option Nat} {v : Value} {t : Nat} (ht : d ≠ some t) : (a.put d v).tmps.getD t undef = a.tmps.getD t undef := by
  cases d with
  | none => rfl
  | some d => simp [Act.put, Array.getElem?_setIfInBounds_ne (show d ≠ t from fun e => ht (by rw [e]))]
theorem put_defers {a : Act} {d : Option Nat} {v : Value} : (a.put d v).defers = a.defers := by cases d <;> rfl
theorem put_size {a : Act} {d : Option Nat} {v : Value} : (a.put d v).tmps.size = a.tmps.size := by cases d <;> simp [Act.put]
theorem plain1_wpIn {call : CallK} (hcall : CallsOk P call) (hC : CtxOk P C) {frz : Nat → Bool} {o : Oper} {env env' : Env} {h' : H} {a : Act} {K : Act → World → Prop} {Q : Exit → Act → World → Prop} {ro : Option Nat} {n : Nat} (he : plain1 C call frz o env h = some (env', h')) (hd : ∀ d, o.dst = some d → d < a.tmps.size)
    (sm : Sim F ρ h w) (hr : EnvRel F ρ env a.tmps) (hK : ∀ a' w' F' ρ', Ext F ρ F' ρ' → Sim F' ρ' h' w' → EnvRel F' ρ' env' a'.tmps → a'.tmps.size = a.tmps.size → a'.defers = a.defers → (∀ t, o.dst ≠ some t → a'.tmps.getD t undef = a.tmps.getD t undef) → K a' w') :
    o.guard = none ∧ o.dst ≠ some 0 ∧ o.wpIn (wideR ro) n P a w K Q := by
  unfold plain1 at he
  split at he
  · simp at he
  · rename_i hg
    split at he
    · rename_i hc
      simp only [Option.map_eq_some_iff] at he
      obtain ⟨⟨x, h1⟩, hs, he⟩ := he
      cases he
      refine ⟨hg, hc.2, stepOp_wpIn hcall hc.1 hC hs sm (fun y _ v hv => hr.eval y v hv) (fun v w' F' ρ' e1 s1 r1 => ?_)⟩
      exact hK _ w' F' ρ' e1 s1 ((hr.mono e1).put o.dst r1 hd) put_size put_defers (fun t ht => put_keep ht)
    · simp at he
end
end Go.A
