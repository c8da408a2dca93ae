/- The tables of a program: what is asked of them, as one Bool. -/
import Derived.Test.YtgekgcffmmbhbaaGreatA21
set_option linter.unusedVariables false
set_option linter.unusedSimpArgs false
noncomputable section
namespace Go.A
open Go
def zBeq : Value → Value → Bool
  | .slice none 0 0, .slice none 0 0 => true
  | a, b => scBeq a b
theorem zBeq_eq {a b : Value} (h : zBeq a b = true) : a = b := by
  unfold zBeq at h
  split at h
  · rfl
  · exact scBeq_eq h
mutual
def V.flat : V → Option (List Value)
  | .sc v => if scalar v then some [v] else none
  | .nl b => if b then some [.slice none 0 0] else none
  | .agg vs => V.flatL vs
  | _ => none
def V.flatL : List V → Option (List Value)
  | [] => some []
  | v :: vs => if v.isTup then none else match v.flat, V.flatL vs with
    | some a, some b => some (a ++ b)
    | _, _ => none
end
mutual
theorem V.flat_rel {F ρ} : ∀ {v : V} {cs : List Value}, v.flat = some cs → Rel F ρ v cs
  | .sc v, cs, h => by
    simp only [V.flat] at h
    split at h
    · rename_i hs; cases h; exact .sc hs
    · simp at h
  | .nl b, cs, h => by
    cases b
    · simp [V.flat] at h
    · simp only [V.flat, if_true, Option.some.injEq] at h; subst h; exact .nl rfl
  | .agg vs, cs, h => .agg (V.flatL_rel (by simpa [V.flat] using h))
  | .ptr _, cs, h => by simp [V.flat] at h
  | .sl _ _ _ _ _, cs, h => by simp [V.flat] at h
  | .list _, cs, h => by simp [V.flat] at h
  | .lp _, cs, h => by simp [V.flat] at h
  | .map _, cs, h => by simp [V.flat] at h
  | .fn _ _ _, cs, h => by simp [V.flat] at h
  | .iface _ _, cs, h => by simp [V.flat] at h
  | .tup _, cs, h => by simp [V.flat] at h
theorem V.flatL_rel {F ρ} : ∀ {vs : List V} {cs : List Value}, V.flatL vs = some cs → RelL F ρ vs cs
  | [], cs, h => by simp only [V.flatL, Option.some.injEq] at h; subst h; exact .nil
  | v :: vs, cs, h => by
    simp only [V.flatL] at h
    split at h
    · simp at h
    · rename_i ht
      split at h
      · rename_i a b h1 h2
        cases h
        exact .cons (by simpa using ht) (V.flat_rel h1) (V.flatL_rel h2)
      · simp at h
end
def zBeqL : List Value → List Value → Bool
  | [], [] => true
  | a :: as, b :: bs => zBeq a b && zBeqL as bs
  | _, _ => false
theorem zBeqL_eq : ∀ {as bs : List Value}, zBeqL as bs = true → as = bs
  | [], bs, h => by cases bs <;> simp [zBeqL] at h; rfl
  | a :: as, bs, h => by
    cases bs with
    | nil => simp [zBeqL] at h
    | cons b bs => simp [zBeqL] at h; rw [zBeq_eq h.1, zBeqL_eq h.2]
def zeroB (x : V) (z : Value) : Bool :=
  match x, z with
  | .agg vs, .agg cs => match V.flatL vs with
    | some l => zBeqL l cs.toList
    | none => false
  | .agg _, _ => false
  | x, z => match x.flat with
    | some [v] => zBeq v z
    | _ => false
theorem zeroB_rel {x : V} {z : Value} (h : zeroB x z = true) (F : Frz) (ρ : Ren) : RelV F ρ x z := by
  unfold zeroB at h
  split at h
  · split at h
    · rename_i cs l hl
      refine ⟨l, .agg (V.flatL_rel hl), ?_⟩
      have := zBeqL_eq h
      simp [V.pack, this]
    · cases h
  · cases h
  · rename_i hne1 hne2
    split at h
    · rename_i v hv
      have := zBeq_eq h
      subst this
      refine ⟨[v], V.flat_rel hv, ?_⟩
      cases x <;> first | rfl | simp_all [V.flat]
    · cases h
def fieldsB (P : Program) : List (Nat × Nat × Bool × Nat) → List Field → Bool
  | [], [] => true
  | (off, n, g, t) :: r, f :: fs => f.offset == off && f.type == t && (match P.info? f.type with | some i => i.size == n | none => false) && (match P.underlying f.type with | some d => aggD d == g | none => false) && fieldsB P r fs
  | _, _ => false
theorem fieldsB_ok {P : Program} : ∀ {l : List (Nat × Nat × Bool × Nat)} {fs : List Field}, fieldsB P l fs = true →
    (l = fs.map fun f => (f.offset, P.cellsOf f.type, ((P.underlying f.type).map aggD).getD false, f.type)) ∧
      (fs.mapM fun f => (P.info? f.type).map fun i => (f.offset, i.size)) = some (l.map fun x => (x.1, x.2.1)) ∧ (fs.all fun f => (P.underlying f.type).isSome) = true
  | [], fs, h => by cases fs <;> simp [fieldsB] at h; exact ⟨rfl, by simp, rfl⟩
  | (off, n, g, t) :: r, fs, h => by
    cases fs with
    | nil => simp [fieldsB] at h
    | cons f fs =>
      simp only [fieldsB, Bool.and_eq_true, beq_iff_eq] at h
      obtain ⟨⟨⟨⟨rfl, rfl⟩, h3⟩, h4⟩, h5⟩ := h
      obtain ⟨i1, i2, i3⟩ := fieldsB_ok h5
      split at h3
      · rename_i i hi
        split at h4
        · rename_i d hd
          simp only [beq_iff_eq] at h3 h4
          refine ⟨?_, ?_, ?_⟩
          · rw [List.map_cons, ← i1]
            simp [Program.cellsOf, hi, hd, h3, h4]
          · rw [List.mapM_cons, i2]
            simp [hi, h3]
          · rw [List.all_cons, i3]; simp [hd]
        · cases h4
      · cases h3
def kindB (P : Program) : TK → TypeDesc → Bool
  | .int k, .int k' => decide (k = k')
  | .bool, .bool => true
  | .strg, .string => true
  | .str fs, .struct fields => fieldsB P fs fields.toList
  | .arr n e, .array n' e' => n == n' && e == e'
  | .slc e, .slice e' => e == e'
  | .ptr e, .pointer e' => e == e'
  | .ifc, .interface _ => true
  | .map k e, .map k' e' => k == k' && e == e'
  | .other, .func _ _ _ => true
  | _, _ => false
theorem kindB_ok {P : Program} {k : TK} {d : TypeDesc} (h : kindB P k d = true) : kindOk P k d := by
  cases k <;> cases d <;> first | exact fieldsB_ok h | (simp_all [kindB, kindOk]; done)
def tiB (P : Program) (t : TypeId) (ti : TI) : Bool :=
  match P.info? t, P.underlying t with
  | some i, some d => i.size == ti.sz && i.bytes == ti.bytes && kindB P ti.k d && (match i.zero with | some z => zeroB ti.zero z | none => false) &&
      !ti.zero.isTup && ti.zero.isAgg == ti.isAgg && ti.zero.size == ti.sz && (!ti.eq || eqOk P t)
  | _, _ => false
theorem tiB_ok {P : Program} {t : TypeId} {ti : TI} (h : tiB P t ti = true) : TIOk P t ti := by
  unfold tiB at h
  split at h
  · rename_i i d hi hd
    simp only [Bool.and_eq_true, beq_iff_eq, Bool.not_eq_true', Bool.or_eq_true] at h
    obtain ⟨⟨⟨⟨⟨⟨⟨h1, h2⟩, h3⟩, h4⟩, h5⟩, h6⟩, h7⟩, h8⟩ := h
    split at h4
    · rename_i z hz
      exact ⟨fun he => h8.resolve_left (by simp [he]), ⟨i, d, z, hi, hd, h1, h2, kindB_ok h3, hz, zeroB_rel h4, h5, h6, h7⟩⟩
    · cases h4
  · cases h
/-- All that is asked of the tables, to be reckoned once. -/
def fnB (C : Ctx) (f : FuncId) (fn : Func) : Bool :=
  !(fn.name == "runtime.NumGoroutine") && (match fn.body with
    | some code => regionsAll (goodOf C f) code && codeFits fn.ntmps code
    | none => false)
def methB (P : Program) (t : TypeId) (m : String) (f : FuncId) : Bool :=
  match P.info? t, P.underlying t with
  | some i, some d => (match i.methods.find? (·.name == m) with
    | some row => row.path.isEmpty && (match row.func with
      | some (g, false) => g == f
      | _ => false) && (match d with
      | .pointer _ => false
      | _ => true)
    | none => false)
  | _, _ => false
theorem methB_ok {P : Program} {t : TypeId} {m : String} {f : FuncId} (h : methB P t m f = true) : MethOk P t m f := by
  unfold methB at h
  split at h
  · rename_i i d hi hd
    split at h
    · rename_i row hrow
      simp only [Bool.and_eq_true, Array.isEmpty_iff] at h
      obtain ⟨⟨h1, h2⟩, h3⟩ := h
      split at h2
      · rename_i g hg
        simp only [beq_iff_eq] at h2
        subst h2
        exact ⟨i, row, d, hi, hrow, h1, hg, hd, fun e he => by subst he; simp at h3⟩
      · cases h2
    · cases h
  · cases h
theorem mem_flat {α : Type} {p : α → Prop} {ls : List (List α)} (h : ∀ l ∈ ls, ∀ x ∈ l, p x) : ∀ x ∈ ls.flatten, p x := fun x hx => by
  obtain ⟨l, hl, hx⟩ := List.mem_flatten.1 hx
  exact h l hl x hx
structure Tables (P : Program) (C : Ctx) (tys : List (Nat × TI)) (fns : List (Nat × Func)) (exts : List (Nat × Nat)) (meths : List (Nat × List (String × FuncId))) : Prop where
  ext : C.ext = .ofList exts
  exts : ∀ x ∈ exts, ExtOk P x.1 x.2
  meth : C.meth = .ofList meths
  meths : (meths.all fun x => x.2.all fun y => methB P x.1 y.1 y.2) = true
  ty : C.ty = .ofList tys
  fn : C.fn = .ofList fns
  tys : ∀ x ∈ tys, tiB P x.1 x.2 = true
  at_ : ∀ x ∈ fns, P.funcs[x.1]? = some x.2
  fns : ∀ x ∈ fns, fnB C x.1 x.2 = true
  mixed : P.follows .mixedOrders = true
theorem lookup_mem {ms : List (String × FuncId)} {m : String} {f : FuncId} (h : ms.lookup m = some f) : (m, f) ∈ ms := by
  induction ms with
  | nil => simp at h
  | cons x ms ih =>
    obtain ⟨a, b⟩ := x
    rw [List.lookup_cons] at h
    split at h
    · rename_i hq
      have : m = a := by simpa using hq
      cases h
      subst this
      simp
    · exact List.mem_cons_of_mem _ (ih h)
theorem Tables.ctx {P : Program} {C : Ctx} {tys : List (Nat × TI)} {fns : List (Nat × Func)} {exts : List (Nat × Nat)} {meths : List (Nat × List (String × FuncId))} (t : Tables P C tys fns exts meths) : CtxOk P C := by
  refine ⟨fun k n h => ?_, fun t' ms m f h h' => ?_, fun n ti h => ?_, fun f fn h => ?_, t.mixed⟩
  · rw [t.ext] at h
    exact t.exts _ (Tr.get_ofList exts k n h)
  · rw [t.meth] at h
    have h1 := List.all_eq_true.1 t.meths _ (Tr.get_ofList meths t' ms h)
    exact methB_ok (List.all_eq_true.1 h1 (m, f) (lookup_mem h'))
  · rw [t.ty] at h
    have := t.tys _ (Tr.get_ofList tys n ti h)
    exact tiB_ok this
  · rw [t.fn] at h
    have hm := Tr.get_ofList fns f fn h
    have := t.fns _ hm
    simp only [fnB, Bool.and_eq_true, Bool.not_eq_true'] at this
    refine ⟨t.at_ _ hm, ?_, this.1⟩
    cases hb : fn.body with
    | none => rw [hb] at this; simp at this
    | some c => rfl
theorem Tables.codes {P : Program} {C : Ctx} {tys : List (Nat × TI)} {fns : List (Nat × Func)} {exts : List (Nat × Nat)} {meths : List (Nat × List (String × FuncId))} (t : Tables P C tys fns exts meths) : CodesOk C := by
  refine ⟨fun f fn code h hb => ?_⟩
  rw [t.fn] at h
  have := t.fns _ (Tr.get_ofList fns f fn h)
  simp only [fnB, hb, Bool.and_eq_true] at this
  exact this.2
end Go.A
