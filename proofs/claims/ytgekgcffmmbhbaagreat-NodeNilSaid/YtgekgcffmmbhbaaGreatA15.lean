/- Regions whose order is drawn: run in the text's order; what floats is held against every heap that it may meet. -/
import Derived.Test.YtgekgcffmmbhbaaGreatA14
set_option linter.unusedVariables false
set_option linter.unusedSimpArgs false
noncomputable section
namespace Go.A
open Go

/-! ### what stands before what -/
inductive Reach (ops : Array Oper) : Nat → Nat → Prop
  | one {j : Nat} {o : Oper} {e : Edge} (h : ops[j]? = some o) (he : e ∈ o.after) (hb : Region.binds .any e = true) : Reach ops j e.on
  | step {j i : Nat} {o : Oper} {e : Edge} (h : ops[j]? = some o) (he : e ∈ o.after) (hb : Region.binds .any e = true) (hr : Reach ops e.on i) : Reach ops j i
def maskOf (acc : List Nat) (o : Oper) : Nat := o.after.toList.foldl (fun s e => if Region.binds .any e then s ||| 2 ^ e.on ||| acc.getD e.on 0 else s) 0
def masksGo : List Oper → List Nat → List Nat
  | [], acc => acc
  | o :: r, acc => masksGo r (acc ++ [maskOf acc o])
def masks (ops : Array Oper) : List Nat := masksGo ops.toList []
def bef (m : List Nat) (j i : Nat) : Bool := (m.getD j 0).testBit i
theorem maskOf_bit {acc : List Nat} {o : Oper} {i : Nat} (h : (maskOf acc o).testBit i = true) : ∃ e ∈ o.after, Region.binds .any e = true ∧ (e.on = i ∨ (acc.getD e.on 0).testBit i = true) := by
  unfold maskOf at h
  have key : ∀ (l : List Edge) (s : Nat), (l.foldl (fun s e => if Region.binds .any e then s ||| 2 ^ e.on ||| acc.getD e.on 0 else s) s).testBit i = true →
      s.testBit i = true ∨ ∃ e ∈ l, Region.binds .any e = true ∧ (e.on = i ∨ (acc.getD e.on 0).testBit i = true) := by
    intro l
    induction l with
    | nil => intro s hs; exact .inl hs
    | cons e l ih =>
      intro s hs
      simp only [List.foldl_cons] at hs
      rcases ih _ hs with h1 | ⟨e', he', h1⟩
      · split at h1
        · rename_i hb
          simp only [Nat.testBit_or, Bool.or_eq_true] at h1
          rcases h1 with (h1 | h1) | h1
          · exact .inl h1
          · refine .inr ⟨e, by simp, hb, .inl ?_⟩
            rw [Nat.testBit_two_pow] at h1
            simpa using h1
          · exact .inr ⟨e, by simp, hb, .inr h1⟩
        · exact .inl h1
      · exact .inr ⟨e', by simp [he'], h1⟩
  rcases key _ _ h with h1 | ⟨e, he, h1⟩
  · simp at h1
  · exact ⟨e, by simpa using he, h1⟩
theorem masks_reach {ops : Array Oper} {j i : Nat} (h : bef (masks ops) j i = true) : Reach ops j i := by
  have key : ∀ (l : List Oper) (acc : List Nat) (k : Nat), acc.length = k → (∀ q, l[q]? = ops[k + q]?) → (∀ j i, (acc.getD j 0).testBit i = true → Reach ops j i) → ∀ j i, ((masksGo l acc).getD j 0).testBit i = true → Reach ops j i := by
    intro l
    induction l with
    | nil => intro acc k _ _ h1 j i h2; exact h1 j i h2
    | cons o l ih =>
      intro acc k hk hl h1 j i h2
      refine ih (acc ++ [maskOf acc o]) (k + 1) (by simp [hk]) (fun q => by have := hl (q + 1); simp at this; rw [this]; congr 1; omega) (fun j i hj => ?_) j i h2
      by_cases hlt : j < acc.length
      · rw [List.getD_eq_getElem?_getD, List.getElem?_append_left hlt, ← List.getD_eq_getElem?_getD] at hj; exact h1 j i hj
      · by_cases he : j = acc.length
        · subst he
          rw [List.getD_eq_getElem?_getD, List.getElem?_append_right (Nat.le_refl _)] at hj
          simp at hj
          obtain ⟨e, he, hb, hor⟩ := maskOf_bit hj
          have ho : ops[acc.length]? = some o := by have := hl 0; simp at this; rw [hk]; exact this.symm
          rcases hor with rfl | hor
          · exact .one ho he hb
          · exact .step ho he hb (h1 _ _ hor)
        · have : (acc ++ [maskOf acc o]).getD j 0 = 0 := by
            rw [List.getD_eq_getElem?_getD, List.getElem?_eq_none (by simp; omega)]; rfl
          rw [this] at hj; simp at hj
  exact key ops.toList [] 0 rfl (by simp) (by simp) j i h

/-! ### the run -/
/-- The variables and maps that the region makes are made ahead of it. -/
def preA (C : Ctx) : List Oper → Env → H → Option (Env × H)
  | [], env, h => some (env, h)
  | o :: r, env, h => match o.op, o.dst with
    | .alloc t, some d => match aAlloc C t h with
      | some (x, h') => preA C r (env.set d x) h'
      | none => none
    | .alloc _, none => none
    | .makeMap _ none, some d => preA C r (env.set d (.map h.next)) (h.push (.map [] 0))
    | .makeMap _ none, none => none
    | _, _ => preA C r env h
def isAi (ops : Array Oper) (i : Nat) : Bool := match ops[i]? with | some o => isA o | none => false
def allocId (ops : Array Oper) (env : Env) (j : Nat) : Option Nat :=
  match ops[j]? with
  | some o => if isA o then (match o.dst with
    | some d => (match env.get d with
      | some (.ptr ⟨b, [], 0⟩) => some b
      | some (.map b) => some b
      | _ => none)
    | none => none) else none
  | none => none
def madeAt (C : Ctx) (o : Oper) (env : Env) (h : H) (b : Nat) : Bool :=
  decide (b < h.next) && (match o.op, o.dst.bind env.get, h.get b with
    | .alloc t, some (.ptr _), some (.cells u false) => (match C.ty.get t with
      | some ti => V.beq u ti.zero
      | none => false)
    | .makeMap _ none, some (.map _), some (.map [] 0) => true
    | _, _, _ => false)
/-- What the region makes: until it is there nobody wrote it. -/
def allocOk (C : Ctx) (ops : Array Oper) (env : Env) (sn : List H) (n0 n1 : Nat) (floats : List (Nat × Nat × Nat)) (x : Nat × Nat × Nat) : Bool :=
  match ops[x.1]?, allocId ops env x.1 with
  | some o, some b => decide (n0 ≤ b) && decide (b < n1) && floats.all (fun y => y.1 == x.1 || decide (allocId ops env y.1 ≠ some b)) &&
      (List.range (x.2.2 + 1)).all fun j => decide (j < x.2.1) || (match sn[sn.length - 1 - j]? with
        | some h => madeAt C o env h b
        | none => false)
  | _, _ => false
def runD (C : Ctx) (call : CallK) (frz : Nat → Bool) (ops : Array Oper) : List Oper → Env → List H → Option (Env × List H)
  | [], env, sn => some (env, sn)
  | o :: r, env, sn => match sn with
    | [] => none
    | h :: _ => if isA o then (match o.dst with
        | some d => (match env.get d with
          | some x => runD C call frz ops r (envPut env o.dst x) sn
          | none => none)
        | none => none) else
      match aWanted ops env o with
      | none => none
      | some false => runD C call frz ops r (envPut env o.dst unk) (if isE o then h :: sn else sn)
      | some true => match stepOp C call (frz (o.dst.getD 0)) (evalOp env) o h with
        | some (x, h') => runD C call frz ops r (envPut env o.dst x) (if isE o then h' :: sn else sn)
        | none => none
def floatOk (C : Ctx) (ops : Array Oper) (env : Env) (sn : List H) (x : Nat × Nat × Nat) : Bool :=
  match ops[x.1]? with
  | some o => match aWanted ops env o with
    | some false => true
    | some true => (List.range (x.2.2 + 1)).all fun j => decide (j < x.2.1) || (match sn[sn.length - 1 - j]? with
      | some h => (match opEval C false (evalOp env) o h, o.dst with
        | some (.v u, _), some d => (match env.get d with
          | some v => V.beq u v
          | none => false)
        | _, _ => false)
      | none => false)
    | none => false
  | none => false
def aDrawn (C : Ctx) (call : CallK) (frz : Nat → Bool) (floats : List (Nat × Nat × Nat)) (ops : Array Oper) (env : Env) (h : H) : Option (Env × H) :=
  match preA C ops.toList env h with
  | none => none
  | some (env0, h0) => match runD C call frz ops ops.toList env0 [h0] with
    | some (e, sn) => if floats.all (fun x => if isAi ops x.1 then allocOk C ops e sn h.next h0.next floats x else floatOk C ops e sn x) then (match sn with
      | h' :: _ => some (e, h')
      | [] => none) else none
    | none => none
def isEi (ops : Array Oper) (i : Nat) : Bool := match ops[i]? with | some o => isE o | none => false
def cntE (ops : Array Oper) (i : Nat) : Nat := (List.range i).countP (isEi ops)
def dirAfter (o : Oper) (i : Nat) : Bool := o.after.any fun e => Region.binds .any e && e.on == i
def planOk (ops : Array Oper) (floats : List (Nat × Nat × Nat)) : Bool :=
  let n := ops.size
  let m := masks ops
  (List.range n).all fun j => match ops[j]? with
    | none => false
    | some o =>
      (o.after.all fun e => !Region.binds .any e || decide (e.on < j)) &&
      ((List.range n).all fun i => match ops[i]? with
        | none => false
        | some p =>
          (match p.dst with
            | some d => (i == j || decide (o.dst ≠ some d)) && (!(o.looksAt ops).contains d || dirAfter o i || ((isE o || memFree o) && !isA p && dirAfter p j))
            | none => true) &&
          (!(isE o && isE p && decide (i < j)) || bef m j i)) &&
      (match o.guard with
        | some (g, _) => dirAfter o g && decide (g < n) && !isA o
        | none => true) &&
      (isE o || memFree o ||
        (let lo := (List.range n).countP fun e => isEi ops e && bef m j e
         let hi := (List.range n).countP fun e => isEi ops e && !bef m e j
         decide (lo ≤ cntE ops j) && decide (cntE ops j ≤ hi) && o.dst.isSome && ((decide (lo = hi) && !isA o) || floats.contains (j, lo, hi))))
end Go.A
