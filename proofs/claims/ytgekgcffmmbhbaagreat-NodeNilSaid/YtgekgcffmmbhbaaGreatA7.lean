/- Comparisons, arithmetic, conversions, tuples, interfaces. -/
import Derived.Test.YtgekgcffmmbhbaaGreatA6
import Derived.ChangeKeysEq
import Derived.Laws.StructEq
import Derived.WideLaws
import Derived.LaidEql
set_option linter.unusedVariables false
set_option linter.unusedSimpArgs false
noncomputable section
namespace Go.A
open Go
set_option linter.unusedSectionVars false
variable [Outer]
section
variable {P : Program} {C : Ctx} (hC : CtxOk P C) {F : Frz} {ρ : Ren} {h : H} {w : World}

/-! ### equality of plain values -/
def eqList (f : V → V → Option Bool) (n : Nat) (g : Bool) : List V → List V → Option Bool
  | [], [] => some true
  | a :: as, b :: bs => if a.size = n ∧ b.size = n ∧ a.isAgg = g ∧ b.isAgg = g then
      (match f a b, eqList f n g as bs with
        | some r, some s => some (r && s)
        | _, _ => none) else none
  | _, _ => none
def eqFields (f : TypeId → V → V → Option Bool) : Nat → List (Nat × Nat × Bool × Nat) → List V → List V → Option Bool
  | o, [], [], [] => some true
  | o, (off, n, g, t) :: fs, a :: as, b :: bs => if off = o ∧ a.size = n ∧ b.size = n ∧ a.isAgg = g ∧ b.isAgg = g then
      (match f t a b, eqFields f (o + n) fs as bs with
        | some r, some s => some (r && s)
        | _, _ => none) else none
  | _, _, _, _ => none
def aEq (C : Ctx) : Nat → TypeId → V → V → Option Bool
  | 0, _, _, _ => none
  | d + 1, t, a, b =>
    match C.ty.get t with
    | none => none
    | some ti => match ti.k, a, b with
      | .int _, .sc (.int k x), .sc (.int k' y) => if k = k' then some (x == y) else none
      | .bool, .sc (.bool x), .sc (.bool y) => some (x == y)
      | .strg, .sc (.string x), .sc (.string y) => some (x.data.toList == y.data.toList)
      | .arr n e, .agg as, .agg bs => match C.ty.get e with
        | some te => if as.length = n ∧ bs.length = n then eqList (aEq C d e) te.sz te.isAgg as bs else none
        | none => none
      | .str fs, .agg as, .agg bs => if ti.eq then eqFields (aEq C d) 0 fs as bs else none
      | _, _, _ => none
theorem run_part {t : TypeId} {d : TypeDesc} {i : TypeInfo} (hu : P.underlying t = some d) (hi : P.info? t = some i) {u : V} {ds : List Value} (hr : Rel F ρ u ds) (hs : u.size = i.size) (ha : u.isAgg = aggD d) {cells : Array Value} {off : Nat}
    (hin : ∀ (j : Nat) (x : Value), ds[j]? = some x → cells[off + j]? = some x) (w : World) : (part t cells off).run P w = .ok (u.pack ds) w := by
  unfold part
  rw [Sem.run_bind, run_isAgg hu]
  cases hq : aggD d with
  | true =>
    have hu' : u.isAgg = true := by rw [ha, hq]
    have : u.pack ds = .agg ds.toArray := by cases u <;> simp_all [V.isAgg, V.pack]
    have hl := hr.length
    have e : cells.extract off (off + i.size) = ds.toArray := by
      apply Array.ext'
      apply List.ext_getElem?
      intro j
      have hll : ds.length = i.size := by rw [hl, hs]
      by_cases hj : j < ds.length
      · have h1 := hin j _ (List.getElem?_eq_getElem hj)
        have h2 := (Array.getElem?_eq_some_iff.1 h1).1
        simp only [Array.getElem?_toList]
        rw [Array.getElem?_extract]
        have hsz : off + i.size ≤ cells.size ∨ True := .inr trivial
        rw [if_pos (by omega), h1]
        simp [hj]
      · simp only [Array.getElem?_toList]
        rw [Array.getElem?_extract, if_neg (by omega)]
        simp [List.getElem?_eq_none (Nat.le_of_not_lt hj)]
    simp [run_sizeOf hi, this, e]
  | false =>
    have hu' : u.isAgg = false := by rw [ha, hq]
    have e := hr.single hu'
    have := hin 0 (u.pack ds) (by conv => lhs; rw [e]
                                  rfl)
    simp at this
    simp [this]
theorem TIOk.agg {t : TypeId} {ti : TI} (ht : TIOk P t ti) : ∃ d i, P.underlying t = some d ∧ P.info? t = some i ∧ i.size = ti.sz ∧ aggD d = ti.isAgg ∧ kindOk P ti.k d := by
  obtain ⟨i, d, z, h1, h2, h3, h4, h5, _⟩ := ht.ok
  refine ⟨d, i, h2, h1, h3, ?_, h5⟩
  obtain ⟨k, sz, by_, zz, eq_⟩ := ti
  unfold TI.isAgg
  cases k <;> cases d <;> simp_all [kindOk, aggD]
theorem eqList_sound {f : V → V → Option Bool} {e : TypeId} {d : Nat} {de : TypeDesc} {ie : TypeInfo} (hu : P.underlying e = some de) (hi : P.info? e = some ie)
    (hf : ∀ a b r cs ds, f a b = some r → Rel F ρ a cs → Rel F ρ b ds → ∀ w, (Op.equalIn d e (a.pack cs) (b.pack ds)).run P w = .ok r w) (w : World) :
    ∀ (as bs : List V) (r : Bool) (cs ds : List Value) (xs ys : Array Value) (o : Nat), eqList f ie.size (aggD de) as bs = some r → RelL F ρ as cs → RelL F ρ bs ds →
      (∀ (j : Nat) (x : Value), cs[j]? = some x → xs[o * ie.size + j]? = some x) → (∀ (j : Nat) (x : Value), ds[j]? = some x → ys[o * ie.size + j]? = some x) →
      (Op.eqItems d e ie.size xs ys (List.range' o as.length)).run P w = .ok r w
  | [], bs, r, cs, ds, xs, ys, o, he, h1, h2, g1, g2 => by
    cases bs with
    | nil => simp only [eqList, Option.some.injEq] at he; subst he; simp [Op.eqItems]
    | cons => simp [eqList] at he
  | a :: as, bs, r, cs, ds, xs, ys, o, he, h1, h2, g1, g2 => by
    cases bs with
    | nil => simp [eqList] at he
    | cons b bs =>
      simp only [eqList] at he
      split at he
      · rename_i hc
        obtain ⟨c1, c2, c3, c4⟩ := hc
        split at he
        · rename_i r1 s1 q1 q2
          cases he
          cases h1 with
          | cons hn h1 h1' =>
            cases h2 with
            | cons hn2 h2 h2' =>
              rename_i ca cas cb cbs
              have la : ca.length = ie.size := by rw [h1.length, c1]
              have lb : cb.length = ie.size := by rw [h2.length, c2]
              have p1 := run_part hu hi h1 c1 c3 (cells := xs) (off := o * ie.size) (fun j x hx => g1 j x (by rw [List.getElem?_append_left (List.getElem?_eq_some_iff.1 hx).1]; exact hx)) w
              have p2 := run_part hu hi h2 c2 c4 (cells := ys) (off := o * ie.size) (fun j x hx => g2 j x (by rw [List.getElem?_append_left (List.getElem?_eq_some_iff.1 hx).1]; exact hx)) w
              have p3 := hf a b r1 ca cb q1 h1 h2 w
              have ih := eqList_sound hu hi hf w as bs s1 cas cbs xs ys (o + 1) q2 h1' h2'
                (fun j x hx => by
                  have := g1 (ca.length + j) x (by rw [List.getElem?_append_right (by omega), Nat.add_sub_cancel_left]; exact hx)
                  rw [Nat.succ_mul, Nat.add_assoc, ← la]; rw [la] at this ⊢; exact this)
                (fun j x hx => by
                  have := g2 (cb.length + j) x (by rw [List.getElem?_append_right (by omega), Nat.add_sub_cancel_left]; exact hx)
                  rw [Nat.succ_mul, Nat.add_assoc, ← lb]; rw [lb] at this ⊢; exact this)
              rw [List.length_cons, List.range'_succ]
              simp only [Op.eqItems, Sem.run_bind, p1, p2, p3, Result.andThen_ok]
              cases r1
              · simp
              · simpa using ih
        · simp at he
      · simp at he
theorem eqFields_sound {f : TypeId → V → V → Option Bool} {d : Nat}
    (hf : ∀ t a b r cs ds, f t a b = some r → Rel F ρ a cs → Rel F ρ b ds → ∀ w, (Op.equalIn d t (a.pack cs) (b.pack ds)).run P w = .ok r w) (w : World) :
    ∀ (fields : List Field) (as bs : List V) (r : Bool) (cs ds : List Value) (xs ys : Array Value) (o : Nat),
      eqFields f o (fields.map fun f => (f.offset, P.cellsOf f.type, ((P.underlying f.type).map aggD).getD false, f.type)) as bs = some r → RelL F ρ as cs → RelL F ρ bs ds →
      (∀ fd ∈ fields, fd.name ≠ "_" ∧ (∃ i, P.info? fd.type = some i) ∧ (∃ d, P.underlying fd.type = some d)) →
      (∀ (j : Nat) (x : Value), cs[j]? = some x → xs[o + j]? = some x) → (∀ (j : Nat) (x : Value), ds[j]? = some x → ys[o + j]? = some x) →
      (Op.eqFields d xs ys fields).run P w = .ok r w
  | [], as, bs, r, cs, ds, xs, ys, o, he, h1, h2, hall, g1, g2 => by
    cases as <;> cases bs <;> simp [eqFields] at he
    subst he; simp [Op.eqFields]
  | fd :: fields, as, bs, r, cs, ds, xs, ys, o, he, h1, h2, hall, g1, g2 => by
    cases as with
    | nil => simp [eqFields] at he
    | cons a as =>
      cases bs with
      | nil => simp [eqFields] at he
      | cons b bs =>
        simp only [List.map_cons, eqFields] at he
        split at he
        · rename_i hc
          obtain ⟨c0, c1, c2, c3, c4⟩ := hc
          split at he
          · rename_i r1 s1 q1 q2
            cases he
            obtain ⟨hn, ⟨i, hi⟩, ⟨de, hu⟩⟩ := hall fd (by simp)
            have hcell : P.cellsOf fd.type = i.size := by simp [Program.cellsOf, hi]
            simp only [hu, Option.map_some, Option.getD_some] at c3 c4
            rw [hcell] at c1 c2 q2
            cases h1 with
            | cons hn1 h1 h1' =>
              cases h2 with
              | cons hn2 h2 h2' =>
                rename_i ca cas cb cbs
                have la : ca.length = i.size := by rw [h1.length, c1]
                have lb : cb.length = i.size := by rw [h2.length, c2]
                have p1 := run_part hu hi h1 c1 c3 (cells := xs) (off := fd.offset) (fun j x hx => by rw [c0]; exact g1 j x (by rw [List.getElem?_append_left (List.getElem?_eq_some_iff.1 hx).1]; exact hx)) w
                have p2 := run_part hu hi h2 c2 c4 (cells := ys) (off := fd.offset) (fun j x hx => by rw [c0]; exact g2 j x (by rw [List.getElem?_append_left (List.getElem?_eq_some_iff.1 hx).1]; exact hx)) w
                have p3 := hf _ a b r1 ca cb q1 h1 h2 w
                have ih := eqFields_sound hf w fields as bs s1 cas cbs xs ys (o + i.size) q2 h1' h2' (fun x hx => hall x (by simp [hx]))
                  (fun j x hx => by
                    have := g1 (ca.length + j) x (by rw [List.getElem?_append_right (by omega), Nat.add_sub_cancel_left]; exact hx)
                    rw [Nat.add_assoc, ← la]; exact this)
                  (fun j x hx => by
                    have := g2 (cb.length + j) x (by rw [List.getElem?_append_right (by omega), Nat.add_sub_cancel_left]; exact hx)
                    rw [Nat.add_assoc, ← lb]; exact this)
                simp only [Op.eqFields, hn, ne_eq, not_false_eq_true, if_true, Sem.run_bind, p1, p2, p3, Result.andThen_ok]
                cases r1
                · simp
                · simpa using ih
          · simp at he
        · simp at he
theorem mapM_some_mem {α β : Type} {f : α → Option β} : ∀ {l : List α} {r : List β}, l.mapM f = some r → ∀ x ∈ l, ∃ y, f x = some y
  | [], _, _, x, hx => by simp at hx
  | a :: l, r, h, x, hx => by
    rw [List.mapM_cons] at h
    simp only [bind, Option.bind_eq_some_iff] at h
    obtain ⟨y, hy, r', hr', _⟩ := h
    rcases List.mem_cons.1 hx with rfl | hx
    · exact ⟨y, hy⟩
    · exact mapM_some_mem hr' x hx
include hC in
theorem aEq_sound : ∀ (d : Nat) (t : TypeId) (a b : V) (r : Bool) (cs ds : List Value) (k : Nat), aEq C d t a b = some r → Rel F ρ a cs → Rel F ρ b ds → ∀ w, (Op.equalIn (k + d) t (a.pack cs) (b.pack ds)).run P w = .ok r w
  | 0, t, a, b, r, cs, ds, k, he, h1, h2, w => by simp [aEq] at he
  | d + 1, t, a, b, r, cs, ds, k, he, h1, h2, w => by
    simp only [aEq] at he
    split at he
    · simp at he
    · rename_i ti ht
      obtain ⟨td, i, hu, hi, hs, hag, hk⟩ := (hC.ty _ _ ht).agg
      have eqs := (hC.ty _ _ ht).eqs
      split at he
      · rename_i k0 k1 x k2 y hkk
        rw [hkk] at hk
        cases td <;> simp only [kindOk] at hk
        split at he
        · rename_i hkq
          subst hkq
          cases he; cases h1; cases h2
          exact run_equalIn_int w (k + d) t k1 _ x y hu
        · simp at he
      · rename_i x y hkk
        rw [hkk] at hk
        cases td <;> simp only [kindOk] at hk
        cases he; cases h1; cases h2
        exact run_equalIn_bool' w (k + d) t x y hu
      · rename_i x y hkk
        rw [hkk] at hk
        cases td <;> simp only [kindOk] at hk
        cases he; cases h1; cases h2
        rw [← ByteArray.toList_eq, ← ByteArray.toList_eq]
        exact run_equalIn_string w (k + d) t x y hu
      · rename_i n e as bs hkk
        rw [hkk] at hk
        cases td <;> simp only [kindOk] at hk
        obtain ⟨rfl, rfl⟩ := hk
        split at he
        · rename_i te hte
          split at he
          · rename_i hlen
            obtain ⟨de, ie, hue, hie, hse, hage, _⟩ := (hC.ty _ _ hte).agg
            rw [← hse, ← hage] at he
            cases h1 with
            | agg h1 =>
              cases h2 with
              | agg h2 =>
                have := eqList_sound hue hie (d := k + d) (fun a b r cs ds q g1 g2 w => aEq_sound d e a b r cs ds k q g1 g2 w) w as bs r cs ds cs.toArray ds.toArray 0 he h1 h2 (by simp) (by simp)
                simp only [V.pack]
                rw [show k + (d + 1) = (k + d) + 1 from rfl, run_equalIn_array w (k + d) _ _ hu hie, show P.cellsOf e = ie.size by simp [Program.cellsOf, hie], List.range_eq_range', ← hlen.1]
                exact this
          · simp at he
        · simp at he
      · rename_i fs as bs hkk
        rw [hkk] at hk
        cases td <;> simp only [kindOk] at hk
        rename_i fields
        obtain ⟨rfl, hk2, hk3⟩ := hk
        split at he
        · rename_i heq
          have hok := eqs heq
          simp only [eqOk, hu, Bool.and_eq_true, Bool.not_eq_true'] at hok
          have hall : ∀ fd ∈ fields.toList, fd.name ≠ "_" ∧ (∃ i, P.info? fd.type = some i) ∧ (∃ d, P.underlying fd.type = some d) := fun fd hfd => by
            refine ⟨by have := List.all_eq_true.1 hok.2 fd hfd; simpa using this, ?_, ?_⟩
            · obtain ⟨y, hy⟩ := mapM_some_mem hk2 fd hfd
              cases hq : P.info? fd.type with
              | none => simp [hq] at hy
              | some i => exact ⟨i, rfl⟩
            · exact Option.isSome_iff_exists.1 (List.all_eq_true.1 hk3 fd hfd)
          cases h1 with
          | agg h1 =>
            cases h2 with
            | agg h2 =>
              have := eqFields_sound (d := k + d) (f := aEq C d) (fun t a b r cs ds q g1 g2 w => aEq_sound d t a b r cs ds k q g1 g2 w) w fields.toList as bs r cs ds cs.toArray ds.toArray 0 he h1 h2 hall (by simp) (by simp)
              have hff : P.fieldsOf t = fields := by simp [Program.fieldsOf, hu]
              simp only [V.pack]
              rw [show k + (d + 1) = (k + d) + 1 from rfl, run_equalIn_struct w (k + d) t _ _ (by rw [hff]; exact hu) hok.1.2, hff]
              exact this
        · simp at he
      · simp at he
end
end Go.A
