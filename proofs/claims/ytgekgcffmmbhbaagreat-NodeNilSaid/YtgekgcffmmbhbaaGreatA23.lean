/- Maps: what is looked up, put in, taken out, walked over. -/
import Derived.Test.YtgekgcffmmbhbaaGreatA11
import Derived.DeepKeys3
set_option linter.unusedVariables false
set_option linter.unusedSimpArgs false
noncomputable section
namespace Go.A
open Go
set_option linter.unusedSectionVars false
/-! ### equality of values, to be reckoned -/
def scBeq : Value → Value → Bool
  | .bool a, .bool b => a == b
  | .int k a, .int k' b => decide (k = k') && a == b
  | .string a, .string b => a.data.toList == b.data.toList
  | .pointer none, .pointer none => true
  | .map none, .map none => true
  | .nilFunc, .nilFunc => true
  | .nilIface, .nilIface => true
  | .func f ⟨[]⟩ ⟨[]⟩, .func g ⟨[]⟩ ⟨[]⟩ => decide (f = g)
  | _, _ => false
variable [Outer]
omit [Outer] in
theorem scBeq_eq {a b : Value} (h : scBeq a b = true) : a = b := by
  unfold scBeq at h
  split at h <;> simp_all
  rename_i x y
  obtain ⟨⟨x⟩⟩ := x
  obtain ⟨⟨y⟩⟩ := y
  simp_all
mutual
def V.beq : V → V → Bool
  | .sc a, .sc b => scBeq a b
  | .nl a, .nl b => a == b
  | .ptr p, .ptr q => decide (p = q)
  | .sl p a b c d, .sl p' a' b' c' d' => decide (p = p') && a == a' && b == b' && c == c' && decide (d = d')
  | .list xs, .list ys => V.beqL xs ys
  | .lp x, .lp y => V.beq x y
  | .map a, .map b => a == b
  | .fn f xs ys, .fn g us vs => decide (f = g) && V.beqL xs us && V.beqL ys vs
  | .iface t x, .iface u y => t == u && V.beq x y
  | .agg xs, .agg ys => V.beqL xs ys
  | .tup xs, .tup ys => V.beqL xs ys
  | _, _ => false
def V.beqL : List V → List V → Bool
  | [], [] => true
  | x :: xs, y :: ys => V.beq x y && V.beqL xs ys
  | _, _ => false
end
mutual
theorem V.beq_eq : ∀ {x y : V}, V.beq x y = true → x = y
  | .sc a, y, h => by cases y <;> simp [V.beq] at h; rw [scBeq_eq h]
  | .nl a, y, h => by cases y <;> simp [V.beq] at h; rw [h]
  | .ptr p, y, h => by cases y <;> simp [V.beq] at h; rw [h]
  | .sl p a b c d, y, h => by cases y <;> simp [V.beq] at h; obtain ⟨⟨⟨⟨rfl, rfl⟩, rfl⟩, rfl⟩, rfl⟩ := h; rfl
  | .list xs, y, h => by cases y <;> simp [V.beq] at h; rw [V.beqL_eq h]
  | .lp x, y, h => by cases y <;> simp [V.beq] at h; rw [V.beq_eq h]
  | .map a, y, h => by cases y <;> simp [V.beq] at h; rw [h]
  | .fn f xs ys, y, h => by cases y <;> simp [V.beq] at h; rw [h.1.1, V.beqL_eq h.1.2, V.beqL_eq h.2]
  | .iface t x, y, h => by cases y <;> simp [V.beq] at h; rw [h.1, V.beq_eq h.2]
  | .agg xs, y, h => by cases y <;> simp [V.beq] at h; rw [V.beqL_eq h]
  | .tup xs, y, h => by cases y <;> simp [V.beq] at h; rw [V.beqL_eq h]
theorem V.beqL_eq : ∀ {xs ys : List V}, V.beqL xs ys = true → xs = ys
  | [], ys, h => by cases ys <;> simp [V.beqL] at h; rfl
  | x :: xs, ys, h => by
    cases ys with
    | nil => simp [V.beqL] at h
    | cons y ys => simp [V.beqL] at h; rw [V.beq_eq h.1, V.beqL_eq h.2]
end

section
variable {P : Program} {C : Ctx} (hC : CtxOk P C) {F : Frz} {ρ : Ren} {h : H} {w : World}
theorem eqList_self {f : V → V → Option Bool} {n : Nat} {g : Bool} : ∀ {as : List V} {r : Bool}, eqList f n g as as = some r → ∀ a ∈ as, a.size = n ∧ a.isAgg = g ∧ ∃ s, f a a = some s
  | [], _, _, a, ha => by simp at ha
  | x :: as, r, he, a, ha => by
    simp only [eqList] at he
    split at he
    · rename_i hc
      split at he
      · rename_i r1 s1 q1 q2
        rcases List.mem_cons.1 ha with rfl | ha
        · exact ⟨hc.1, hc.2.2.1, _, q1⟩
        · exact eqList_self q2 a ha
      · simp at he
    · simp at he
theorem checkItems {em : Bool} {n : Nat} {e : TypeId} {de : TypeDesc} {ie : TypeInfo} (hu : P.underlying e = some de) (hi : P.info? e = some ie) {f : V → V → Option Bool}
    (hf : ∀ a s cs, f a a = some s → Rel F ρ a cs → ∀ w, (Instr.checkKey em n e (a.pack cs)).run P w = .ok () w) (w : World) (xs : Array Value) (body : Nat → PUnit → Sem (ForInStep PUnit))
    (hb : ∀ (i : Nat) (v : Value), (part e xs (i * ie.size)).run P w = .ok v w → (Instr.checkKey em n e v).run P w = .ok () w → (body i ⟨⟩).run P w = .ok (.yield ⟨⟩) w) :
    ∀ (as : List V) (r : Bool) (cs : List Value) (o : Nat), eqList f ie.size (aggD de) as as = some r → RelL F ρ as cs → (∀ (j : Nat) (x : Value), cs[j]? = some x → xs[o * ie.size + j]? = some x) →
      (forIn (List.range' o as.length) PUnit.unit body : Sem PUnit).run P w = .ok ⟨⟩ w
  | [], r, cs, o, he, h1, g1 => by simp
  | a :: as, r, cs, o, he, h1, g1 => by
    simp only [eqList] at he
    split at he
    · rename_i hc
      obtain ⟨c1, _, c3, _⟩ := hc
      split at he
      · rename_i r1 s1 q1 q2
        cases h1 with
        | cons hn h1 h1' =>
          rename_i ca cas
          have la : ca.length = ie.size := by rw [h1.length, c1]
          have p1 := run_part hu hi h1 c1 c3 (cells := xs) (off := o * ie.size) (fun j x hx => g1 j x (by rw [List.getElem?_append_left (List.getElem?_eq_some_iff.1 hx).1]; exact hx)) w
          have p2 := hb o _ p1 (hf a r1 ca q1 h1 w)
          have ih := checkItems hu hi hf w xs body hb as s1 cas (o + 1) q2 h1' (fun j x hx => by
            have := g1 (ca.length + j) x (by rw [List.getElem?_append_right (by omega), Nat.add_sub_cancel_left]; exact hx)
            rw [Nat.succ_mul, Nat.add_assoc, ← la]; rw [la] at this ⊢; exact this)
          rw [List.length_cons, List.range'_succ, List.forIn_cons, Sem.run_bind, p2]
          simpa using ih
      · simp at he
    · simp at he
theorem checkFields {em : Bool} {n : Nat} {f : TypeId → V → V → Option Bool}
    (hf : ∀ t a s cs, f t a a = some s → Rel F ρ a cs → ∀ w, (Instr.checkKey em n t (a.pack cs)).run P w = .ok () w) (w : World) (xs : Array Value) (body : Field → PUnit → Sem (ForInStep PUnit))
    (hb : ∀ (fd : Field) (v : Value), fd.name ≠ "_" → (part fd.type xs fd.offset).run P w = .ok v w → (Instr.checkKey em n fd.type v).run P w = .ok () w → (body fd ⟨⟩).run P w = .ok (.yield ⟨⟩) w) :
    ∀ (fields : List Field) (as : List V) (r : Bool) (cs : List Value) (o : Nat),
      eqFields f o (fields.map fun f => (f.offset, P.cellsOf f.type, ((P.underlying f.type).map aggD).getD false, f.type)) as as = some r → RelL F ρ as cs →
      (∀ fd ∈ fields, fd.name ≠ "_" ∧ (∃ i, P.info? fd.type = some i) ∧ (∃ d, P.underlying fd.type = some d)) →
      (∀ (j : Nat) (x : Value), cs[j]? = some x → xs[o + j]? = some x) → (forIn fields PUnit.unit body : Sem PUnit).run P w = .ok ⟨⟩ w
  | [], as, r, cs, o, he, h1, hall, g1 => by simp
  | fd :: fields, as, r, cs, o, he, h1, hall, g1 => by
    cases as with
    | nil => simp [eqFields] at he
    | cons a as =>
      simp only [List.map_cons, eqFields] at he
      split at he
      · rename_i hc
        obtain ⟨c0, c1, c2, c3, c4⟩ := hc
        split at he
        · rename_i r1 s1 q1 q2
          obtain ⟨hn, ⟨i, hi⟩, ⟨de, hu⟩⟩ := hall fd (by simp)
          have hcell : P.cellsOf fd.type = i.size := by simp [Program.cellsOf, hi]
          simp only [hu, Option.map_some, Option.getD_some] at c3 c4
          rw [hcell] at c1 c2 q2
          cases h1 with
          | cons hn1 h1 h1' =>
            rename_i ca cas
            have la : ca.length = i.size := by rw [h1.length, c1]
            have p1 := run_part hu hi h1 c1 c3 (cells := xs) (off := fd.offset) (fun j x hx => by rw [c0]; exact g1 j x (by rw [List.getElem?_append_left (List.getElem?_eq_some_iff.1 hx).1]; exact hx)) w
            have p2 := hb fd _ hn p1 (hf _ a r1 ca q1 h1 w)
            have ih := checkFields hf w xs body hb fields as s1 cas (o + i.size) q2 h1' (fun x hx => hall x (by simp [hx])) (fun j x hx => by
              have := g1 (ca.length + j) x (by rw [List.getElem?_append_right (by omega), Nat.add_sub_cancel_left]; exact hx)
              rw [Nat.add_assoc, ← la]; exact this)
            rw [List.forIn_cons, Sem.run_bind, p2]
            simpa using ih
        · simp at he
      · simp at he
include hC in
theorem aKey_sound (em : Bool) : ∀ (d : Nat) (t : TypeId) (a : V) (r : Bool) (cs : List Value) (k : Nat), aEq C d t a a = some r → Rel F ρ a cs → ∀ w, (Instr.checkKey em (k + d) t (a.pack cs)).run P w = .ok () w
  | 0, t, a, r, cs, k, he, h1, w => by simp [aEq] at he
  | d + 1, t, a, r, cs, k, he, h1, w => by
    simp only [aEq] at he
    split at he
    · simp at he
    · rename_i ti ht
      obtain ⟨td, i, hu, hi, hs, hag, hk⟩ := (hC.ty _ _ ht).agg
      have eqs := (hC.ty _ _ ht).eqs
      cases hkk : ti.k with
      | int q =>
        rw [hkk] at hk
        cases td <;> simp only [kindOk] at hk
        cases a <;> simp only [hkk] at he <;> try (simp at he; done)
        cases h1
        simp [Instr.checkKey, run_underlying hu, V.pack]
      | bool =>
        rw [hkk] at hk
        cases td <;> simp only [kindOk] at hk
        cases a <;> simp only [hkk] at he <;> try (simp at he; done)
        cases h1
        simp [Instr.checkKey, run_underlying hu, V.pack]
      | strg =>
        rw [hkk] at hk
        cases td <;> simp only [kindOk] at hk
        cases a <;> simp only [hkk] at he <;> try (simp at he; done)
        cases h1
        simp [Instr.checkKey, run_underlying hu, V.pack]
      | arr n e =>
        rw [hkk] at hk
        cases td <;> simp only [kindOk] at hk
        obtain ⟨rfl, rfl⟩ := hk
        cases a <;> simp only [hkk] at he <;> try (simp at he; done)
        rename_i as
        split at he
        · rename_i te hte
          split at he
          · rename_i hlen
            obtain ⟨de, ie, hue, hie, hse, hage, _⟩ := (hC.ty _ _ hte).agg
            rw [← hse, ← hage] at he
            cases h1 with
            | agg h1 =>
              simp only [V.pack]
              rw [show k + (d + 1) = (k + d) + 1 from rfl, Instr.checkKey]
              simp only [Sem.run_bind, run_underlying hu, Result.andThen_ok]
              simp only [Std.Legacy.Range.forIn_eq_forIn_range', Std.Legacy.Range.size, Nat.sub_zero, Nat.add_one_sub_one, Nat.div_one]
              rw [← hlen.1]
              rw [checkItems (em := em) (n := k + d) hue hie (f := aEq C d e) (fun a s cs q g w => aKey_sound em d e a s cs k q g w) w cs.toArray _ (fun i v q1 q2 => by simp [run_sizeOf hie, q1, q2]) as r cs 0 he h1 (by simp)]
              rfl
          · simp at he
        · simp at he
      | str fs =>
        rw [hkk] at hk
        cases td <;> simp only [kindOk] at hk
        rename_i fields
        obtain ⟨rfl, hk2, hk3⟩ := hk
        cases a <;> simp only [hkk] at he <;> try (simp at he; done)
        rename_i as
        split at he
        · rename_i heq
          have hok := eqs heq
          simp only [eqOk, hu, Bool.and_eq_true, Bool.not_eq_true'] at hok
          have hall : ∀ fd ∈ fields.toList, fd.name ≠ "_" ∧ (∃ i, P.info? fd.type = some i) ∧ (∃ d, P.underlying fd.type = some d) := fun fd hfd => by
            refine ⟨by have := List.all_eq_true.1 hok.2 fd hfd; simpa using this, ?_, ?_⟩
            · obtain ⟨y, hy⟩ := mapM_some_mem hk2 fd hfd
              cases hq : P.info? fd.type with
              | none => simp [hq] at hy
              | some i => exact ⟨i, rfl⟩
            · exact Option.isSome_iff_exists.1 (List.all_eq_true.1 hk3 fd hfd)
          cases h1 with
          | agg h1 =>
            simp only [V.pack]
            rw [show k + (d + 1) = (k + d) + 1 from rfl, Instr.checkKey]
            simp only [Sem.run_bind, run_underlying hu, Result.andThen_ok]
            rw [← Array.forIn_toList]
            rw [checkFields (em := em) (n := k + d) (f := aEq C d) (fun t a s cs q g w => aKey_sound em d t a s cs k q g w) w cs.toArray _ (fun fd v hn q1 q2 => by simp [hn, q1, q2]) fields.toList as r cs 0 he h1 hall (by simp)]
            rfl
        · simp at he
      | other => simp only [hkk] at he; simp at he
      | slc e => simp only [hkk] at he; simp at he
      | ptr e => simp only [hkk] at he; simp at he
      | ifc => simp only [hkk] at he; simp at he
      | map e e' => simp only [hkk] at he; simp at he

/-! ### looking up -/
def aFind (C : Ctx) (kt : TypeId) (k : V) : List (V × V × Nat) → Nat → Option (Option (Nat × V))
  | [], _ => some none
  | (k', v, _) :: r, i => match aEq C 9 kt k k' with
    | some true => some (some (i, v))
    | some false => aFind C kt k r (i + 1)
    | none => none
def mapOf (h : H) (x : V) : Option (List (V × V × Nat)) :=
  match x with
  | .sc (.map none) => some []
  | .map b => match h.get b with
    | some (.map es _) => some es
    | _ => none
  | _ => none
def aLookup (C : Ctx) (t : TypeId) (x k : V) (ok : Bool) (h : H) : Option V :=
  match C.ty.get t with
  | some ti => match ti.k with
    | .map kt et => match mapOf h x, C.ty.get et, aEq C 9 kt k k with
      | some es, some te, some _ => (match aFind C kt k es 0 with
        | some (some (_, v)) => some (if ok then .tup [v, .sc (.bool true)] else v)
        | some none => some (if ok then .tup [te.zero, .sc (.bool false)] else te.zero)
        | none => none)
      | _, _, _ => none
    | _ => none
  | none => none
theorem sameNow_equal {kt : TypeId} {d : TypeDesc} (hu : P.underlying kt = some d) {a b : Value} {r : Bool} (he : Instr.sameNow d a b = some r) (w : World) : (Op.equal kt a b).run P w = .ok r w := by
  unfold Instr.sameNow at he
  split at he
  · split at he
    · rename_i hk
      subst hk
      cases he
      exact run_equalIn_int w 9999 kt _ _ _ _ hu
    · simp at he
  · cases he
    rw [beq_toListBytes]
    exact run_equalIn_string w 9999 kt _ _ hu
  · cases he; exact run_equalIn_bool' w 9999 kt _ _ hu
  · simp at he
theorem findNow_asking {kt : TypeId} {d : TypeDesc} (hu : P.underlying kt = some d) {k : Value} (w : World) : ∀ (es : List MapEntry) (i : Nat) (r : Option (Nat × Value)), Instr.findNow d k es i = some r → (Instr.findAsking kt k es i).run P w = .ok r w
  | [], i, r, h => by simp only [Instr.findNow, Option.some.injEq] at h; subst h; simp [Instr.findAsking]
  | e :: es, i, r, h => by
    simp only [Instr.findNow] at h
    split at h
    · rename_i hs
      cases h
      simp [Instr.findAsking, sameNow_equal hu hs w]
    · rename_i hs
      simp [Instr.findAsking, sameNow_equal hu hs w, findNow_asking hu w es (i + 1) r h]
    · simp at h
theorem run_findKey' {kt : TypeId} {d : TypeDesc} (hu : P.underlying kt = some d) (k : Value) (es : List MapEntry) (w : World) {r : Option (Nat × Value)} (h : (Instr.findAsking kt k es 0).run P w = .ok r w) : (Instr.findKey kt k es).run P w = .ok r w := by
  unfold Instr.findKey
  simp only [Sem.run_bind, run_underlying hu, Result.andThen_ok]
  split
  · rename_i r' hr
    have := findNow_asking hu w es 0 r' hr
    rw [h] at this
    simp only [Result.ok.injEq, and_true] at this
    rw [this]; rfl
  · exact h
/-- What a search finds. -/
def FoundOk (F : Frz) (ρ : Ren) (ents : List MapEntry) (i : Nat) : Option (Nat × V) → Option (Nat × Value) → Prop
  | none, none => True
  | some (j, v), some (j', x) => j = j' ∧ i ≤ j ∧ (∃ e, ents[j - i]? = some e ∧ e.val = x) ∧ RelV F ρ v x
  | _, _ => False
include hC in
theorem aFind_sound {kt : TypeId} {k : V} {kv : Value} (hk : RelV F ρ k kv) (w : World) : ∀ (es : List (V × V × Nat)) (ents : List MapEntry) (i : Nat) (r : Option (Nat × V)), aFind C kt k es i = some r → EntsOk F ρ es ents →
    ∃ x, (Instr.findAsking kt kv ents i).run P w = .ok x w ∧ FoundOk F ρ ents i r x
  | [], ents, i, r, he, hes => by
    cases hes
    simp only [aFind, Option.some.injEq] at he
    subst he
    exact ⟨none, by simp [Instr.findAsking], trivial⟩
  | (k', v, n) :: es, ents, i, r, he, hes => by
    cases hes with
    | cons h1 h2 h3 h4 =>
      rename_i e ents
      simp only [aFind] at he
      have eq : ∀ b, aEq C 9 kt k k' = some b → (Op.equal kt kv e.key).run P w = .ok b w := fun b hb => by
        obtain ⟨cs, hr, rfl⟩ := hk
        obtain ⟨ds, hr', hq⟩ := h1
        rw [hq]
        exact aEq_sound hC 9 kt k k' b cs ds 9991 hb hr hr' w
      split at he
      · rename_i hb
        cases he
        exact ⟨some (i, e.val), by simp [Instr.findAsking, eq _ hb], rfl, Nat.le_refl _, ⟨e, by simp, rfl⟩, h2⟩
      · rename_i hb
        obtain ⟨x, g1, g2⟩ := aFind_sound hk w es ents (i + 1) r he h4
        refine ⟨x, by simp [Instr.findAsking, eq _ hb, g1], ?_⟩
        cases r with
        | none =>
          cases x with
          | none => simp [FoundOk]
          | some y => simp [FoundOk] at g2
        | some r =>
          cases x with
          | none => simp [FoundOk] at g2
          | some x =>
            obtain ⟨a1, a2, ⟨e', a3, a4⟩, a5⟩ := g2
            refine ⟨a1, by omega, ⟨e', ?_, a4⟩, a5⟩
            rw [show r.1 - i = (r.1 - (i + 1)) + 1 by omega]
            simpa using a3
      · simp at he
theorem mapOf_sound {x : V} {xv : Value} {es : List (V × V × Nat)} (he : mapOf h x = some es) (s : Sim F ρ h w) (hx : RelV F ρ x xv) :
    (xv = .map none ∧ es = []) ∨ ∃ r ents clock, xv = .map (some r) ∧ w.heap[r]? = some (.map ents clock) ∧ EntsOk F ρ es ents.toList := by
  unfold mapOf at he
  split at he
  · cases he
    obtain ⟨rfl, _⟩ := sc_val hx
    exact .inl ⟨rfl, rfl⟩
  · rename_i b
    split at he
    · rename_i es' c hb
      cases he
      obtain ⟨cs, hr, rfl⟩ := hx
      cases hr with
      | map hl =>
        obtain ⟨o, ho, hk⟩ := s.blk b _ _ hb hl
        cases hk with
        | map hes => exact .inr ⟨_, _, _, rfl, ho, hes⟩
    · simp at he
  · simp at he
end
end Go.A
