/- One operation: what it yields, and that this is what the model does. -/
import Derived.Test.YtgekgcffmmbhbaaGreatA10
set_option linter.unusedVariables false
set_option linter.unusedSimpArgs false
noncomputable section
namespace Go.A
open Go
set_option linter.unusedSectionVars false
variable [Outer]
inductive OR where
  | v (x : V)
  | skip
  | call (f : FuncId) (args : List V)
section
variable {P : Program} {C : Ctx} (hC : CtxOk P C) {F : Frz} {ρ : Ren} {h : H} {w : World}
def evL (ev : Operand → Option V) : List Operand → Option (List V)
  | [] => some []
  | x :: r => match ev x, evL ev r with
    | some v, some vs => some (v :: vs)
    | _, _ => none
def evP (ev : Operand → Option V) : List (Nat × Operand) → Option (List (Nat × V))
  | [] => some []
  | (i, x) :: r => match ev x, evP ev r with
    | some v, some vs => some ((i, v) :: vs)
    | _, _ => none
def evO (ev : Operand → Option V) : Option Operand → Option (Option V)
  | none => some none
  | some x => (ev x).map some
/-- Of the temporaries and constants that it names, the abstract side knows what the model has. -/
def EvRel (F : Frz) (ρ : Ren) (ev : Operand → Option V) (a : Act) (xs : List Operand) : Prop := ∀ x ∈ xs, ∀ v, ev x = some v → RelV F ρ v (a.eval x)
theorem evL_rel {ev : Operand → Option V} {a : Act} : ∀ {xs : List Operand} {vs : List V}, evL ev xs = some vs → (∀ x ∈ xs, ∀ v, ev x = some v → RelV F ρ v (a.eval x)) → RelTs F ρ vs (xs.map a.eval)
  | [], vs, he, _ => by simp only [evL, Option.some.injEq] at he; subst he; exact .nil
  | x :: r, vs, he, hr => by
    simp only [evL] at he
    split at he
    · rename_i v vs' h1 h2
      cases he
      obtain ⟨cs, hc, hv⟩ := hr x (by simp) v h1
      rw [List.map_cons, hv]
      exact .cons hc (evL_rel h2 (fun y hy => hr y (by simp [hy])))
    · simp at he
theorem evP_rel {ev : Operand → Option V} {a : Act} : ∀ {xs : List (Nat × Operand)} {vs : List (Nat × V)}, evP ev xs = some vs → (∀ x ∈ xs.map (·.2), ∀ v, ev x = some v → RelV F ρ v (a.eval x)) → RelParts F ρ vs (xs.map fun x => (x.1, a.eval x.2))
  | [], vs, he, _ => by simp only [evP, Option.some.injEq] at he; subst he; exact .nil
  | (i, x) :: r, vs, he, hr => by
    simp only [evP] at he
    split at he
    · rename_i v vs' h1 h2
      cases he
      exact .cons (hr x (by simp) v h1) (evP_rel h2 (fun y hy => hr y (by simp at hy ⊢; exact .inr hy)))
    · simp at he
theorem evO_rel {ev : Operand → Option V} {a : Act} {x : Option Operand} {v : Option V} (he : evO ev x = some v) (hr : ∀ y ∈ x.toList, ∀ v, ev y = some v → RelV F ρ v (a.eval y)) : RelO F ρ v (x.map a.eval) := by
  cases x with
  | none => simp only [evO, Option.some.injEq] at he; subst he; exact .none
  | some y =>
    simp only [evO, Option.map_eq_some_iff] at he
    obtain ⟨u, hu, rfl⟩ := he
    exact .some (hr y (by simp) u hu)

/-! ### small operations -/
def aConvert (C : Ctx) (s d : TypeId) (x : V) (h : H) : Option V :=
  match C.ty.get s, C.ty.get d with
  | some si, some di => match di.k with
    | .int k => match si.k, x with
      | .int _, .sc (.int _ n) => some (.sc (.int k (k.wrap n)))
      | _, _ => none
    | .strg => match si.k with
      | .strg => match x with
        | .sc (.string st) => some (.sc (.string st))
        | _ => none
      | .slc e => match C.ty.get e with
        | some ⟨.int .u8, 1, _, _, _⟩ => if isStr x then none else (match aElems x 1 h with
          | some xs => (toBytes xs).map fun b => .sc (.string b)
          | none => none)
        | _ => none
      | _ => none
    | _ => none
  | _, _ => none
where
  toBytes (xs : List V) : Option ByteArray := (toList xs).map fun l => ⟨l.toArray⟩
  toList : List V → Option (List UInt8)
    | [] => some []
    | .sc (.int .u8 n) :: r => (toList r).map (UInt8.ofNat n.toNat :: ·)
    | _ => none
theorem push_loop : ∀ (xs : List V) (l : List UInt8) (cs : List Value) (acc : ByteArray), aConvert.toList xs = some l → RelL F ρ xs cs →
    ((forIn cs acc fun (c : Value) (r : ByteArray) => (match c with
      | .int .u8 n => (pure (ForInStep.yield (r.push (UInt8.ofNat n.toNat))) : Sem (ForInStep ByteArray))
      | _ => (do (stuck "bytesToString: byte expected" : Sem PUnit); pure (ForInStep.yield r)))) : Sem ByteArray).run P w = .ok ⟨acc.data ++ l.toArray⟩ w
  | [], l, cs, acc, he, hr => by
    cases hr; simp only [aConvert.toList, Option.some.injEq] at he; subst he; simp
  | x :: xs, l, cs, acc, he, hr => by
    cases hr with
    | cons hn hx hr =>
      unfold aConvert.toList at he
      split at he
      · simp_all
      · rename_i n r heq
        simp only [List.cons.injEq] at heq
        obtain ⟨rfl, rfl⟩ := heq
        simp only [Option.map_eq_some_iff] at he
        obtain ⟨l', hl', rfl⟩ := he
        cases hx
        have ih := push_loop xs l' _ (acc.push (UInt8.ofNat n.toNat)) hl' hr
        simp only [List.cons_append, List.nil_append, List.forIn_cons, Sem.run_bind, Sem.run_pure, Result.andThen_ok]
        rw [ih]
        congr 1
        simp [ByteArray.push]
      · simp at he
include hC in
theorem aConvert_sound {s d : TypeId} {x z : V} {xv : Value} (he : aConvert C s d x h = some z) (sm : Sim F ρ h w) (hx : RelV F ρ x xv) : ∃ v, (convert s d xv).run P w = .ok v w ∧ RelV F ρ z v := by
  unfold aConvert at he
  split at he
  · rename_i si di hs hd
    obtain ⟨sd, _, hsu, _, _, _, hsk⟩ := (hC.ty _ _ hs).agg
    obtain ⟨dd, _, hdu, _, _, _, hdk⟩ := (hC.ty _ _ hd).agg
    split at he
    · rename_i k hk
      rw [hk] at hdk
      cases dd <;> simp only [kindOk] at hdk
      subst hdk
      split at he
      · rename_i k' k2 n hk2
        rw [hk2] at hsk
        cases sd <;> simp only [kindOk] at hsk
        cases he
        obtain ⟨rfl, _⟩ := sc_val hx
        exact ⟨_, by simp [convert, run_underlying hsu, run_underlying hdu, Conv.intToInt], sc_rel rfl⟩
      · simp at he
    · rename_i hk
      rw [hk] at hdk
      cases dd <;> simp only [kindOk] at hdk
      split at he
      · rename_i hk2
        rw [hk2] at hsk
        cases sd <;> simp only [kindOk] at hsk
        split at he
        · cases he
          obtain ⟨rfl, _⟩ := sc_val hx
          exact ⟨_, by simp [convert, run_underlying hsu, run_underlying hdu], sc_rel rfl⟩
        · simp at he
      · rename_i e hk2
        rw [hk2] at hsk
        cases sd <;> simp only [kindOk] at hsk
        subst hsk
        split at he
        · rename_i by_ zz eq_ hte
          obtain ⟨ed, _, heu, _, _, _, hek⟩ := (hC.ty _ _ hte).agg
          cases ed <;> simp only [kindOk] at hek
          subst hek
          split at he
          · simp at he
          · rename_i hns
            split at he
            · rename_i xs hxs
              simp only [Option.map_eq_some_iff, aConvert.toBytes] at he
              obtain ⟨b, ⟨l, hl, rfl⟩, rfl⟩ := he
              obtain ⟨cs, hrow⟩ := aElems_sound hxs sm hx
              rcases hrow.val with ⟨a, c, rfl, hcells⟩ | ⟨st, rfl, _⟩
              · have hlen := hrow.len
                refine ⟨.string ⟨l.toArray⟩, ?_, sc_rel rfl⟩
                have hload : ∀ b, a = some b → (loadCells b xs.length).run P w = .ok cs.toArray w := fun b hb => by
                  have := run_loadCells_list (P := P) w b cs (fun j u hu => by obtain ⟨b', hb', hcell⟩ := hcells j u hu; rw [hb] at hb'; cases hb'; exact hcell)
                  rwa [hlen, Nat.mul_one] at this
                simp only [convert, Sem.run_bind, run_underlying hsu, run_underlying hdu, run_underlying heu, Result.andThen_ok]
                cases a with
                | none =>
                  have hc0 : cs = [] := by
                    cases hcs : cs with
                    | nil => rfl
                    | cons u r => obtain ⟨b, hb, _⟩ := hcells 0 u (by rw [hcs]; rfl); cases hb
                  have hx0 : xs = [] := by rw [hc0] at hlen; simp at hlen; exact List.eq_nil_of_length_eq_zero hlen.symm
                  subst hx0
                  simp only [aConvert.toList, Option.some.injEq] at hl
                  subst hl
                  simp [Conv.bytesToString]
                  rfl
                | some b =>
                  have hp := push_loop (P := P) (w := w) xs l cs ByteArray.empty hl hrow.rel
                  simp only [Conv.bytesToString, Sem.run_bind, hload b rfl, Result.andThen_ok]
                  rw [← Array.forIn_toList]
                  simp only at hp ⊢
                  refine Eq.trans (congrArg (fun r => Result.andThen r _) hp) ?_
                  simp
              · exfalso
                obtain ⟨cs', hr', hq⟩ := hx
                cases hr' <;> simp [V.pack] at hq
                subst hq; simp [isStr] at hns
            · simp at he
        · simp at he
      · simp at he
    · simp at he
  · simp at he
end
end Go.A
