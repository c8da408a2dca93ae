/- Regions whose order is drawn. -/
import Derived.Test.YtgekgcffmmbhbaaGreatA13
import Derived.OrdersHeld
set_option linter.unusedVariables false
set_option linter.unusedSimpArgs false
noncomputable section
namespace Go.A
open Go
def isE0 (o : Oper) : Bool :=
  match o.op with
  | .alloc _ | .box _ _ | .buildSlice _ _ _ | .store _ _ _ | .makeMap _ _ | .mapUpdate _ _ _ _ | .makeSlice _ _ _ | .range _ _ | .next _ _ => true
  | .call c => match c.callee with
    | .builtin .len | .builtin .min | .builtin .max => false
    | _ => true
  | _ => false
/-- A new variable of zero. -/
def isA (o : Oper) : Bool :=
  match o.op with
  | .alloc _ | .makeMap _ none => true
  | _ => false
def isE (o : Oper) : Bool := isE0 o && !isA o
/-- What is the same in every heap. -/
def memFree (o : Oper) : Bool :=
  match o.op with
  | .move _ | .assign _ | .pick _ _ _ | .build _ _ | .nilCheck _ | .binOp _ _ _ _ _ | .unOp _ _ _ | .makeInterface _ _ | .fieldAddr _ _ _ | .indexAddr _ _ _ | .extract _ _ | .typeAssert _ _ _ _
  | .index _ _ _ | .field _ _ _ | .makeFunc _ _ _ => true
  | .call c => match c.callee with
    | .builtin .min | .builtin .max => true
    | _ => false
  | _ => false
section
variable {C : Ctx}
theorem more_quiet {ev : Operand → Option V} {o : Oper} {h : H} {r : OR} {h' : H} (hE : isE0 o = false) (he : moreEval C ev o h = some (r, h')) : h' = h ∧ ∃ x, r = .v x := by
  unfold moreEval at he
  unfold isE0 at hE
  split at he <;> simp only [*] at hE <;> first
    | (simp at hE; done)
    | (split at he <;> (try (simp at he; done)); split at he <;> (try (simp at he; done)); split at he <;> (try (simp at he; done)); split at he <;> (try (simp at he; done)); split at he <;> (try (simp at he; done)); cases he; exact ⟨rfl, _, rfl⟩)
    | (simp at he; done)
    | (split at he <;> first | (simp at he; done) | (simp only [Option.map_eq_some_iff] at he; obtain ⟨v, hx, he⟩ := he; cases he; exact ⟨rfl, _, rfl⟩) | (cases he; exact ⟨rfl, _, rfl⟩))
    | skip
  rename_i c hop
  split at he
  · rename_i b hcal
    simp only [hcal] at hE
    split at he
    · rename_i vs hvs
      simp only [Option.map_eq_some_iff] at he
      obtain ⟨⟨z, h1⟩, hb, he⟩ := he
      cases he
      unfold moreCall at hb
      split at hb <;> first | (simp at hE; done) | skip
      · split at hb
        · cases hb; exact ⟨rfl, _, rfl⟩
        · simp only [Option.map_eq_some_iff] at hb; obtain ⟨q, _, hb⟩ := hb; cases hb; exact ⟨rfl, _, rfl⟩
      · simp only [Option.map_eq_some_iff] at hb; obtain ⟨q, _, hb⟩ := hb; cases hb; exact ⟨rfl, _, rfl⟩
      · simp only [Option.map_eq_some_iff] at hb; obtain ⟨q, _, hb⟩ := hb; cases hb; exact ⟨rfl, _, rfl⟩
      · simp at hb
    · simp at he
  · simp at he
theorem moreCall_key {b : Builtin} {ts : List TypeId} {vs : List V} {h h2 : H} (hb : b = .min ∨ b = .max) : (moreCall C b ts vs h).map (·.1) = (moreCall C b ts vs h2).map (·.1) := by
  rcases hb with rfl | rfl
  · show ((aMinMax false vs).map fun z => (z, h)).map (·.1) = ((aMinMax false vs).map fun z => (z, h2)).map (·.1)
    rw [Option.map_map, Option.map_map]; rfl
  · show ((aMinMax true vs).map fun z => (z, h)).map (·.1) = ((aMinMax true vs).map fun z => (z, h2)).map (·.1)
    rw [Option.map_map, Option.map_map]; rfl
theorem more_key {ev : Operand → Option V} {o : Oper} {h h2 : H} (hF : memFree o = true) : (moreEval C ev o h).map (·.1) = (moreEval C ev o h2).map (·.1) := by
  unfold moreEval
  unfold memFree at hF
  cases hop : o.op <;> simp only [hop] at hF ⊢ <;> first
    | (simp at hF; done)
    | rfl
    | (split <;> first | rfl | (simp only [Option.map_map]; rfl))
    | skip
  rename_i c
  cases hcal : c.callee <;> simp only [hcal] at hF ⊢ <;> first
    | (simp at hF; done)
    | skip
  rename_i b
  have hb : b = .min ∨ b = .max := by
    cases b <;> first | exact .inl rfl | exact .inr rfl | (simp at hF; done)
  split
  · rename_i vs hvs
    have := moreCall_key (C := C) (ts := c.argTypes.toList) (vs := vs) (h := h) (h2 := h2) hb
    cases h1 : moreCall C b c.argTypes.toList vs h <;> cases h3 : moreCall C b c.argTypes.toList vs h2 <;> rw [h1, h3] at this <;> simp_all
  · rfl
theorem opEval_quiet {frz : Bool} {ev : Operand → Option V} {o : Oper} {h : H} {r : OR} {h' : H} (hE : isE0 o = false) (he : opEval C frz ev o h = some (r, h')) : h' = h ∧ ∃ x, r = .v x := by
  have hE0 := hE
  unfold opEval at he
  unfold isE0 at hE
  cases hop : o.op
  case convert s d x =>
    simp only [hop] at he
    split at he
    · split at he
      · cases he; exact ⟨rfl, _, rfl⟩
      · exact more_quiet hE0 he
    · simp at he
  all_goals
    simp only [hop] at hE he
    first
    | (simp at hE; done)
    | exact more_quiet hE0 he
    | (simp only [Option.map_eq_some_iff] at he; obtain ⟨v, hx, he⟩ := he; cases he; exact ⟨rfl, _, rfl⟩)
    | (split at he <;> first | (simp at he; done) | (simp only [Option.map_eq_some_iff] at he; obtain ⟨v, hx, he⟩ := he; cases he; exact ⟨rfl, _, rfl⟩))
    | (split at he <;> first | (simp at he; done) | (split at he <;> first | (simp at he; done) | (cases he; exact ⟨rfl, _, rfl⟩)))
    | skip
  rename_i c
  cases hcal : c.callee <;> simp only [hcal] at hE he <;> first
    | (simp at hE; done)
    | exact more_quiet hE0 he
    | skip
  rename_i b
  cases b <;> first | (simp at hE; done) | exact more_quiet hE0 he
theorem opEval_free {frz : Bool} {ev : Operand → Option V} {o : Oper} {h h2 : H} {x : V} (hF : memFree o = true) (he : opEval C frz ev o h = some (.v x, h)) : opEval C frz ev o h2 = some (.v x, h2) := by
  have hF0 := hF
  have key : (opEval C frz ev o h).map (·.1) = (opEval C frz ev o h2).map (·.1) ∧ ∀ r h3, opEval C frz ev o h2 = some (r, h3) → h3 = h2 := by
    refine ⟨?_, fun r h3 he2 => (opEval_quiet (by
      unfold memFree at hF; unfold isE0
      cases hop : o.op <;> simp only [hop] at hF ⊢ <;> first | rfl | (simp at hF; done) | skip
      split at hF <;> simp_all) he2).1⟩
    unfold opEval
    unfold memFree at hF
    cases hop : o.op <;> simp only [hop] at hF ⊢ <;> first
      | (simp at hF; done)
      | exact more_key hF0
      | rfl
      | (simp only [Option.map_map]; rfl)
      | (split <;> first | rfl | (simp only [Option.map_map]; rfl))
      | (split <;> first | rfl | (split <;> rfl))
      | skip
    rename_i c
    cases hcal : c.callee <;> simp only [hcal] at hF ⊢ <;> first
      | (simp at hF; done)
      | exact more_key hF0
      | skip
    rename_i b
    cases b <;> first | (simp at hF; done) | exact more_key hF0
  obtain ⟨k1, k2⟩ := key
  rw [he] at k1
  cases hq : opEval C frz ev o h2 with
  | none => rw [hq] at k1; simp at k1
  | some y =>
    obtain ⟨r, h3⟩ := y
    rw [hq] at k1
    simp at k1
    subst k1
    rw [k2 _ _ hq]
theorem opEval_quiet' {frz : Bool} {ev : Operand → Option V} {o : Oper} {h : H} {r : OR} {h' : H} (hE : isE o = false) (hA : isA o = false) (he : opEval C frz ev o h = some (r, h')) : h' = h ∧ ∃ x, r = .v x :=
  opEval_quiet (by unfold isE at hE; rw [hA] at hE; simpa using hE) he
theorem memFree_not {o : Oper} (h : memFree o = true) : isE o = false ∧ isA o = false := by
  unfold memFree at h
  unfold isE isE0 isA
  split at h <;> simp_all
  split at h <;> simp_all
theorem isA_not {o : Oper} (h : isA o = true) : isE o = false := by unfold isE; rw [h]; simp
end
end Go.A
