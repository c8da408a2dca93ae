/- More operations: what they yield, and that this is what the model does. -/
import Derived.Test.YtgekgcffmmbhbaaGreatA25
import Derived.Maps.RangeRun
set_option linter.unusedVariables false
set_option linter.unusedSimpArgs false
noncomputable section
namespace Go.A
open Go
set_option linter.unusedSectionVars false
variable [Outer]
section
variable {P : Program} {C : Ctx} (hC : CtxOk P C) {F : Frz} {ρ : Ren} {h : H} {w : World}
/-! ### walking over a map that holds at most one entry that has not come -/
def aRange (C : Ctx) (t : TypeId) (x : V) (h : H) : Option (V × H) :=
  match C.ty.get t, x with
  | some ti, .map b => match ti.k, h.get b with
    | .map _ _, some (.map _ clock) => some (.ptr ⟨h.next, [], 0⟩, h.push (.it b clock [] clock))
    | _, _ => none
  | _, _ => none
include hC in
theorem aRange_sound {t : TypeId} {x y : V} {h' : H} {xv : Value} (he : aRange C t x h = some (y, h')) (s : Sim F ρ h w) (hx : RelV F ρ x xv) :
    ∃ z w' ρ', (Instr.range t xv).run P w = .ok z w' ∧ Ext F ρ F ρ' ∧ Sim F ρ' h' w' ∧ RelV F ρ' y z := by
  unfold aRange at he
  split at he
  · rename_i ti b ht
    obtain ⟨d, i, hu, hi, _, _, hk⟩ := (hC.ty _ _ ht).agg
    split at he
    · rename_i kt et es clock hq hb
      rw [hq] at hk
      cases d <;> simp only [kindOk] at hk
      obtain ⟨rfl, rfl⟩ := hk
      cases he
      obtain ⟨cs, hr, rfl⟩ := hx
      cases hr with
      | map hl =>
        rename_i l
        obtain ⟨o, ho, hok⟩ := s.blk b _ _ hb hl
        cases hok with
        | map hes =>
          rename_i ents
          obtain ⟨e', s'⟩ := s.push (w' := w.alloc (.mapIter (some l.bb) clock #[] clock)) (x := .it b clock [] clock) (l := ⟨w.heap.size, 0, 0⟩) rfl
            (fun n hn => by show (w.heap.push _)[n]? = _; rw [Array.getElem?_push_lt hn, Array.getElem?_eq_getElem hn]) (by show (w.heap.push _)[_]? = _; simp) (.it hl rfl) (by simp)
          exact ⟨_, _, _, run_range_map w t _ _ _ ents clock hu ho, e', s', ptr_rel (p := ⟨h.next, [], 0⟩) (l := ⟨w.heap.size, 0, 0⟩) (by simp)⟩
    · simp at he
  · simp at he
def aNext (x : V) (h : H) : Option (V × H) :=
  match x with
  | .ptr ⟨b, [], 0⟩ => match h.get b with
    | some (.it m since seen last) => match h.get m with
      | some (.map es clock) => if h.lo ≤ b ∧ es.all (fun e => decide (e.2.2 < since)) = true ∧ since ≤ last then
          (match es.filter (fun e => !seen.contains e.2.2) with
            | [] => some (.tup [.sc (.bool false)], h)
            | [(k, v, n)] => some (.tup [.sc (.bool true), k, v], h.set b (.it m since (seen ++ [n]) clock))
            | _ => none) else none
      | _ => none
    | _ => none
  | _ => none
theorem EntsOk.filter (f : Nat → Bool) : ∀ {es : List (V × V × Nat)} {ents : List MapEntry}, EntsOk F ρ es ents → EntsOk F ρ (es.filter fun e => f e.2.2) (ents.filter fun e => f e.born)
  | _, _, .nil => .nil
  | _, _, .cons (k := k) (v := v) (n := n) (es := es) (e := e) (ents := ents) h1 h2 h3 h4 => by
    have ih := EntsOk.filter f h4
    subst h3
    cases hq : f e.born with
    | true => simp only [List.filter_cons, hq, if_true]; exact .cons h1 h2 rfl ih
    | false => simp only [List.filter_cons, hq, Bool.false_eq_true, if_false]; exact ih
theorem EntsOk.born (f : Nat → Bool) : ∀ {es : List (V × V × Nat)} {ents : List MapEntry}, EntsOk F ρ es ents → es.all (fun e => f e.2.2) = true → ∀ x ∈ ents, f x.born = true
  | _, _, .nil, _, x, hx => by simp at hx
  | _, _, .cons h1 h2 h3 h4, ha, x, hx => by
    simp only [List.all_cons, Bool.and_eq_true] at ha
    rcases List.mem_cons.1 hx with rfl | hx
    · rw [h3]; exact ha.1
    · exact EntsOk.born f h4 ha.2 x hx
theorem aNext_sound {x y : V} {h' : H} {xv : Value} {ty : TypeId} (he : aNext x h = some (y, h')) (s : Sim F ρ h w) (hx : RelV F ρ x xv) :
    ∃ z w', (Instr.next xv false ty).run P w = .ok z w' ∧ Sim F ρ h' w' ∧ RelV F ρ y z := by
  unfold aNext at he
  split at he
  · rename_i b
    split at he
    · rename_i m since seen last hb
      split at he
      · rename_i es clock hm
        split at he
        · rename_i hc
          obtain ⟨c1, c2, c3⟩ := hc
          obtain ⟨cs, hr, rfl⟩ := hx
          cases hr with
          | ptr hl =>
            rename_i l
            obtain ⟨o, ho, hok⟩ := s.blk b _ _ hb hl
            cases hok with
            | it hml hsh =>
              rename_i lm
              obtain ⟨o2, ho2, hok2⟩ := s.blk m _ _ hm hml
              cases hok2 with
              | map hes =>
                rename_i ents
                have hold : ∀ x ∈ ents.toList, x.born < since := fun x hx => by
                  have := hes.born (fun n => decide (n < since)) c2 x hx
                  simpa using this
                have hleft : (leftOf ents seen.toArray).toList = ents.toList.filter fun e => !seen.contains e.born := by simp [leftOf]
                have hf := hes.filter (fun n => !seen.contains n)
                have hxe : (V.ptr ⟨b, [], 0⟩).pack [.pointer (some ⟨l.bb, l.sh + 0, none⟩)] = .pointer (some ⟨l.bb, 0, none⟩) := by rw [hsh]; rfl
                have hrun := run_next_at (P := P) w ty l.bb lm.bb since last seen.toArray ents clock ho ho2 hold c3
                show ∃ z w', (Instr.next ((V.ptr ⟨b, [], 0⟩).pack [.pointer (some ⟨l.bb, l.sh + 0, none⟩)]) false ty).run P w = _ ∧ _
                rw [hxe]
                split at he
                · rename_i hnil
                  cases he
                  rw [hnil] at hf
                  have h0 : (leftOf ents seen.toArray).toList = [] := by rw [hleft]; generalize ents.toList.filter _ = q at hf; cases hf; rfl
                  rcases hrun with ⟨_, hrun⟩ | ⟨e, he', _⟩
                  · exact ⟨_, w, hrun, s, ⟨_, .tup (.cons (.sc (v := .bool false) rfl) .nil), rfl⟩⟩
                  · rw [h0] at he'; simp at he'
                · rename_i k v n hone
                  cases he
                  rw [hone] at hf
                  have h1 : ∃ e, (leftOf ents seen.toArray).toList = [e] ∧ RelV F ρ k e.key ∧ RelV F ρ v e.val ∧ e.born = n := by
                    rw [hleft]; generalize ents.toList.filter _ = q at hf
                    cases hf with
                    | cons q1 q2 q3 q4 => cases q4; exact ⟨_, rfl, q1, q2, q3⟩
                  obtain ⟨e, h1, hk, hv, hn⟩ := h1
                  rcases hrun with ⟨hz, _⟩ | ⟨e', he', w1, hw1, hrun⟩
                  · have : (leftOf ents seen.toArray).toList.length = 0 := by simpa using hz
                    rw [h1] at this; simp at this
                  · rw [h1] at he'
                    simp only [List.mem_singleton] at he'
                    subst he'
                    have hheap : w1.heap = w.heap := by rcases hw1 with rfl | rfl <;> rfl
                    have hlt := (Array.getElem?_eq_some_iff.1 ho).1
                    refine ⟨_, _, hrun, s.put (o := .mapIter (some lm.bb) since (seen ++ [n]).toArray clock) hb hl rfl (fun q hq => ?_) ?_ (.it hml hsh) rfl (by simp) (by rcases hw1 with hw1 | hw1 <;> rw [hw1] <;> exact ⟨rfl, rfl⟩), ?_⟩
                    · show (w1.heap.setIfInBounds l.bb _)[q]? = _
                      rw [hheap]; simp [Array.getElem?_setIfInBounds_ne (Ne.symm hq)]
                    · show (w1.heap.setIfInBounds l.bb _)[l.bb]? = _
                      rw [hheap]; simp [hlt, hn]
                    · obtain ⟨kc, k1, k2⟩ := hk
                      obtain ⟨vc, v1, v2⟩ := hv
                      refine ⟨_, .tup (.cons (.sc (v := .bool true) rfl) (.cons k1 (.cons v1 .nil))), ?_⟩
                      rw [k2, v2]; rfl
                · simp at he
        · simp at he
      · simp at he
    · simp at he
  · simp at he
/-! ### the rest -/
def aIndex (C : Ctx) (t : TypeId) (x i : V) : Option V :=
  match C.ty.get t, intOf? i with
  | some ti, some n => if n < 0 then none else match ti.k, x with
    | .strg, .sc (.string s) => match s.data.toList[n.toNat]? with
      | some b => some (.sc (.int .u8 b.toNat))
      | none => none
    | .arr len e, .agg vs => match C.ty.get e, vs[n.toNat]? with
      | some te, some u => if n < len ∧ V.sizeL (vs.take n.toNat) = n.toNat * te.sz ∧ u.size = te.sz ∧ u.isAgg = te.isAgg then some u else none
      | _, _ => none
    | _, _ => none
  | _, _ => none
include hC in
theorem aIndex_sound {t : TypeId} {x i y : V} {val iv : Value} (he : aIndex C t x i = some y) (hv : RelV F ρ x val) (hi : RelV F ρ i iv) : ∃ z, (Instr.index t val iv).run P w = .ok z w ∧ RelV F ρ y z := by
  unfold aIndex at he
  split at he
  · rename_i ti n ht hn
    obtain ⟨k, rfl⟩ := int_val hn hi
    obtain ⟨d, ii, hu, _, _, _, hk⟩ := (hC.ty _ _ ht).agg
    split at he
    · simp at he
    · rename_i hn0
      split at he
      · rename_i s hq
        rw [hq] at hk
        cases d <;> simp only [kindOk] at hk
        obtain ⟨rfl, _⟩ := sc_val hv
        split at he
        · rename_i b hb
          cases he
          have hlt := (List.getElem?_eq_some_iff.1 hb).1
          have hb' : s[n.toNat]? = some b := by
            have hsz : n.toNat < s.size := hlt
            rw [getElem?_pos s n.toNat hsz]
            congr 1
            have := (List.getElem?_eq_some_iff.1 hb).2
            rw [← this]; rfl
          refine ⟨_, ?_, sc_rel rfl⟩
          have h0 : 0 ≤ n := by omega
          simp [Instr.index, asIntOf, run_underlying hu, h0, hb']
        · simp at he
      · rename_i len e vs hq
        rw [hq] at hk
        cases d <;> simp only [kindOk] at hk
        obtain ⟨rfl, rfl⟩ := hk
        split at he
        · rename_i te u hte huu
          split at he
          · rename_i hc
            obtain ⟨c0, c1, c2, c3⟩ := hc
            cases he
            obtain ⟨de, ie, hue, hie, hse, hage, _⟩ := (hC.ty _ _ hte).agg
            obtain ⟨cs, hr, rfl⟩ := hv
            cases hr with
            | agg hr =>
              obtain ⟨h1, h2⟩ := relL_split hr n.toNat
              have hdrop : vs.drop n.toNat = y :: vs.drop (n.toNat + 1) := by
                rw [List.drop_eq_getElem_cons (List.getElem?_eq_some_iff.1 huu).1]
                congr 1
                exact (List.getElem?_eq_some_iff.1 huu).2
              rw [hdrop] at h2
              generalize hdc : cs.drop (V.sizeL (vs.take n.toNat)) = dc at h2
              cases h2 with
              | cons hn h2 h3 =>
                rename_i ca cas
                have hp := run_part hue hie h2 (by rw [c2, hse]) (by rw [c3, hage]) (cells := cs.toArray) (off := n.toNat * ie.size) (fun j x hx => by
                  have hj := (List.getElem?_eq_some_iff.1 hx).1
                  have : (cs.drop (V.sizeL (vs.take n.toNat)))[j]? = some x := by rw [hdc, List.getElem?_append_left hj]; exact hx
                  rw [List.getElem?_drop, c1, ← hse] at this
                  simpa using this) w
                refine ⟨_, ?_, _, h2, rfl⟩
                have h0 : 0 ≤ n := by omega
                simp [Instr.index, asIntOf, run_underlying hu, V.pack, h0, c0, run_sizeOf hie, hp]
          · simp at he
        · simp at he
      · simp at he
  · simp at he
def aField (C : Ctx) (t : TypeId) (x : V) (f : Nat) : Option V :=
  match C.ty.get t, x with
  | some ti, .agg vs => match ti.k with
    | .str fs => match fs[f]?, vs[f]? with
      | some (o, n, g, _), some u => if V.sizeL (vs.take f) = o ∧ u.size = n ∧ u.isAgg = g then some u else none
      | _, _ => none
    | _ => none
  | _, _ => none
include hC in
theorem aField_sound {t : TypeId} {x y : V} {f : Nat} {val : Value} (he : aField C t x f = some y) (hv : RelV F ρ x val) : ∃ z, (Instr.field t val f).run P w = .ok z w ∧ RelV F ρ y z := by
  unfold aField at he
  split at he
  · rename_i ti vs ht
    obtain ⟨d, ii, hu, g1, g2, g3, hk⟩ := (hC.ty _ _ ht).agg
    split at he
    · rename_i fs hq
      rw [hq] at hk
      cases d <;> simp only [kindOk] at hk
      rename_i fields
      obtain ⟨rfl, hk2, hk3⟩ := hk
      split at he
      · rename_i o n g _ u hf huu
        split at he
        · rename_i hc
          obtain ⟨c1, c2, c3⟩ := hc
          cases he
          rw [List.getElem?_map] at hf
          simp only [Option.map_eq_some_iff] at hf
          obtain ⟨fd, hfd, hfe⟩ := hf
          simp only [Prod.mk.injEq] at hfe
          obtain ⟨e1, e2, e3, _⟩ := hfe
          have hmem : fd ∈ fields.toList := List.mem_of_getElem? hfd
          obtain ⟨yy, hy⟩ := mapM_some_mem hk2 fd hmem
          obtain ⟨fi, hfi⟩ : ∃ i, P.info? fd.type = some i := by
            cases hq : P.info? fd.type with
            | none => simp [hq] at hy
            | some i => exact ⟨i, rfl⟩
          obtain ⟨fdd, hfu⟩ := Option.isSome_iff_exists.1 (List.all_eq_true.1 hk3 fd hmem)
          obtain ⟨cs, hr, rfl⟩ := hv
          cases hr with
          | agg hr =>
            obtain ⟨h1, h2⟩ := relL_split hr f
            have hdrop : vs.drop f = y :: vs.drop (f + 1) := by
              rw [List.drop_eq_getElem_cons (List.getElem?_eq_some_iff.1 huu).1]
              congr 1
              exact (List.getElem?_eq_some_iff.1 huu).2
            rw [hdrop] at h2
            generalize hdc : cs.drop (V.sizeL (vs.take f)) = dc at h2
            cases h2 with
            | cons hn h2 h3 =>
              rename_i ca cas
              have hsz : y.size = fi.size := by rw [c2, ← e2]; simp [Program.cellsOf, hfi]
              have hag : y.isAgg = aggD fdd := by rw [c3, ← e3]; simp [hfu]
              have hp := run_part hfu hfi h2 hsz hag (cells := cs.toArray) (off := fd.offset) (fun j x hx => by
                have hj := (List.getElem?_eq_some_iff.1 hx).1
                have : (cs.drop (V.sizeL (vs.take f)))[j]? = some x := by rw [hdc, List.getElem?_append_left hj]; exact hx
                rw [List.getElem?_drop, c1, ← e1] at this
                simpa using this) w
              refine ⟨_, ?_, _, h2, rfl⟩
              have hfa : fields[f]? = some fd := by simpa using hfd
              simp [Instr.field, run_underlying hu, V.pack, hfa, asAgg, hp]
        · simp at he
      · simp at he
    · simp at he
  · simp at he
def aMinMax (mx : Bool) : List V → Option V
  | [.sc (.int k a), .sc (.int k' b)] => if k = k' then some (.sc (.int k (if mx then (if b > a then b else a) else (if b < a then b else a)))) else none
  | _ => none
theorem aMinMax_sound {mx : Bool} {vs : List V} {xs : List Value} {y : V} (he : aMinMax mx vs = some y) (hx : RelTs F ρ vs xs) (ts : Array TypeId) (ty : TypeId) :
    ∃ z, ((if mx then Builtin.max_ else Builtin.min_) ts ty xs.toArray).run P w = .ok z w ∧ RelV F ρ y z := by
  unfold aMinMax at he
  split at he
  · rename_i k a k' b
    split at he
    · rename_i hk
      subst hk
      cases he
      cases hx with
      | cons h1 hx =>
        cases hx with
        | cons h2 hx =>
          cases hx
          cases h1; cases h2
          cases mx
          · exact ⟨_, by simp [Builtin.min_, Builtin.min2, V.pack], sc_rel rfl⟩
          · exact ⟨_, by simp [Builtin.max_, Builtin.max2, V.pack], sc_rel rfl⟩
    · simp at he
  · simp at he
def aLenMap (C : Ctx) (t : TypeId) (x : V) (h : H) : Option V :=
  match C.ty.get t with
  | some ti => match ti.k with
    | .map _ _ => (mapOf h x).map fun es => .sc (.int .i64 es.length)
    | _ => none
  | none => none
include hC in
theorem aLenMap_sound {t ty : TypeId} {x z : V} {xv : Value} (he : aLenMap C t x h = some z) (s : Sim F ρ h w) (hx : RelV F ρ x xv) : ∃ v, (Builtin.len_ #[t] ty #[xv]).run P w = .ok v w ∧ RelV F ρ z v := by
  unfold aLenMap at he
  split at he
  · rename_i ti ht
    obtain ⟨d, i, hu, _, _, _, hk⟩ := (hC.ty _ _ ht).agg
    split at he
    · rename_i hq
      rw [hq] at hk
      cases d <;> simp only [kindOk] at hk
      simp only [Option.map_eq_some_iff] at he
      obtain ⟨es, hm, rfl⟩ := he
      rcases mapOf_sound hm s hx with ⟨rfl, rfl⟩ | ⟨r, ents, clock, rfl, hr, hes⟩
      · exact ⟨_, by simp [Builtin.len_, run_underlying hu, goInt], sc_rel rfl⟩
      · refine ⟨.int .i64 ents.size, by simp [Builtin.len_, run_underlying hu, run_getMap hr, goInt], ?_⟩
        have := hes.length
        simp only [Array.length_toList] at this
        rw [this]; exact sc_rel rfl
    · simp at he
  · simp at he
end
end Go.A
