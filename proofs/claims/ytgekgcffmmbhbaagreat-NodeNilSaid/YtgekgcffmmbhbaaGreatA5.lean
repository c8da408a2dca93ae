/- Literals, sub-slices, tuples, interfaces, arithmetic and comparisons: each with its soundness. -/
import Derived.Test.YtgekgcffmmbhbaaGreatA4
set_option linter.unusedVariables false
set_option linter.unusedSimpArgs false
noncomputable section
namespace Go.A
open Go
set_option linter.unusedSectionVars false
variable [Outer]
section
variable {P : Program} {C : Ctx} (hC : CtxOk P C) {F : Frz} {ρ : Ren} {h : H} {w : World}

/-! ### struct and array literals -/
def aParts (place : Nat → Option (Nat × Nat)) : List V → List (Nat × V) → Option (List V)
  | zs, [] => some zs
  | zs, (i, x) :: r => match place i, zs[i]? with
    | some (off, size), some z => if x.isTup = false ∧ x.size = size ∧ z.size = size ∧ V.sizeL (zs.take i) = off then aParts place (zs.set i x) r else none
    | _, _ => none
inductive RelParts (F : Frz) (ρ : Ren) : List (Nat × V) → List (Nat × Value) → Prop
  | nil : RelParts F ρ [] []
  | cons {i : Nat} {x : V} {val : Value} {ps : List (Nat × V)} {qs : List (Nat × Value)} (h : RelV F ρ x val) (hs : RelParts F ρ ps qs) : RelParts F ρ ((i, x) :: ps) ((i, val) :: qs)
theorem foldl_set (off : Nat) : ∀ (ys : List Value) (k : Nat) (cs : Array Value), off + k + ys.length ≤ cs.size →
    (((ys.zipIdx k).foldl (fun cs x => cs.setIfInBounds (off + x.2) x.1) cs)).toList = cs.toList.take (off + k) ++ ys ++ cs.toList.drop (off + k + ys.length)
  | [], k, cs, _ => by simp
  | y :: ys, k, cs, h => by
    have ih := foldl_set off ys (k + 1) (cs.setIfInBounds (off + k) y) (by simp at h ⊢; omega)
    simp only [List.zipIdx_cons, List.foldl_cons]
    rw [ih]
    have e := list_seg_step cs.toList (off + k) y ys (by simp at h ⊢; omega)
    simpa [Array.toList_setIfInBounds, Nat.add_assoc] using e
theorem fill_sound {place : Nat → Option (Nat × Nat)} : ∀ (ps : List (Nat × V)) (qs : List (Nat × Value)) (zs vs : List V) (cells : Array Value), aParts place zs ps = some vs → RelParts F ρ ps qs → RelL F ρ zs cells.toList →
    ∃ cells', Instr.fill place cells qs = some cells' ∧ RelL F ρ vs cells'.toList
  | [], qs, zs, vs, cells, he, hp, hr => by
    cases hp; simp only [aParts, Option.some.injEq] at he; subst he
    exact ⟨cells, rfl, hr⟩
  | (i, x) :: ps, qs, zs, vs, cells, he, hp, hr => by
    cases hp with
    | cons hx hps =>
      rename_i val qs
      simp only [aParts] at he
      split at he
      · rename_i off size z hpl hz
        split at he
        · rename_i hc
          obtain ⟨h1, h2, h3, h4⟩ := hc
          obtain ⟨ys, hy, rfl⟩ := hx
          have hcl : (x.pack ys).cells.toList = ys := hy.isAgg_pack h1
          have hlen : ys.length = size := by rw [hy.length, h2]
          obtain ⟨pre, ds, post, e1, e2, e3, e4⟩ := hr.nth i z hz
          have hdl : ds.length = size := by rw [e3.length, h3]
          have hfit : off + size ≤ cells.size := by
            have := congrArg List.length e1
            simp at this; omega
          have hs := hr.setNth i z x ys hz hy h1 (by rw [hlen, h3])
          have hfold := foldl_set off ys 0 cells (by simp; omega)
          have hcs : (x.pack ys).cells.size = size := by have := congrArg List.length hcl; simp at this; omega
          have hzip : (x.pack ys).cells.zipIdx.foldl (fun cs (c, j) => cs.setIfInBounds (off + j) c) cells = (ys.zipIdx 0).foldl (fun cs x => cs.setIfInBounds (off + x.2) x.1) cells := by
            rw [← Array.foldl_toList, Array.toList_zipIdx, hcl]
          have hcond : ¬ ((x.pack ys).cells.size ≠ size ∨ off + (x.pack ys).cells.size > cells.size) := by omega
          obtain ⟨cells', g1, g2⟩ := fill_sound ps qs (zs.set i x) vs ((ys.zipIdx 0).foldl (fun cs x => cs.setIfInBounds (off + x.2) x.1) cells) he hps (by
            rw [hfold, ← h4]; simpa using hs)
          refine ⟨cells', ?_, g2⟩
          simp only [Instr.fill, hpl]
          rw [show (decide ((x.pack ys).cells.size ≠ size) || decide (off + (x.pack ys).cells.size > cells.size)) = false by simp only [Bool.or_eq_false_iff, decide_eq_false_iff_not]; exact ⟨fun hh => hcond (.inl hh), fun hh => hcond (.inr hh)⟩, hzip]
          simpa using g1
        · simp at he
      · simp at he
def aBuild (C : Ctx) (t : TypeId) (parts : List (Nat × V)) : Option V :=
  match C.ty.get t with
  | some ⟨.str fs, _, _, .agg zs, _⟩ => (aParts (fun i => (fs[i]?).map fun x => (x.1, x.2.1)) zs parts).map .agg
  | some ⟨.arr _ e, _, _, .agg zs, _⟩ => match C.ty.get e with
    | some te => (aParts (fun i => some (i * te.sz, te.sz)) zs parts).map .agg
    | none => none
  | _ => none
include hC in
theorem aBuild_sound {t : TypeId} {parts : List (Nat × V)} {y : V} {qs : Array (Nat × Value)} (he : aBuild C t parts = some y) (hp : RelParts F ρ parts qs.toList) :
    ∃ z, (Instr.build t qs).run P w = .ok z w ∧ RelV F ρ y z := by
  unfold aBuild at he
  split at he
  · rename_i fs sz by_ zs eq_ ht
    simp only [Option.map_eq_some_iff] at he
    obtain ⟨vs, hps, rfl⟩ := he
    obtain ⟨i, d, z, g1, g2, g3, g4, g5, g6, g7, g8, g9⟩ := (hC.ty _ _ ht).ok
    cases d <;> simp only [kindOk] at g5
    rename_i fields
    obtain ⟨cs, hr, rfl⟩ := g7 F ρ
    cases hr with
    | agg hr =>
      obtain ⟨cells', k1, k2⟩ := fill_sound _ _ _ _ cs.toArray hps hp (by simpa using hr)
      have hb : P.built t qs.toList = some cells' := by
        unfold Program.built
        simp only [g1, g2, g6, g5.2.1]
        rw [← k1]
        simp [V.pack, Value.cells]
      exact ⟨_, run_build w t qs cells' hb, cells'.toList, .agg k2, by simp [V.pack]⟩
  · rename_i n e sz by_ zs eq_ ht
    split at he
    · rename_i te hte
      simp only [Option.map_eq_some_iff] at he
      obtain ⟨vs, hps, rfl⟩ := he
      obtain ⟨i, d, z, g1, g2, g3, g4, g5, g6, g7, g8, g9⟩ := (hC.ty _ _ ht).ok
      obtain ⟨ie, de, ze, f1, f2, f3, f4, f5, f6, f7, f8, f9⟩ := (hC.ty _ _ hte).ok
      cases d <;> simp only [kindOk] at g5
      obtain ⟨rfl, rfl⟩ := g5
      obtain ⟨cs, hr, rfl⟩ := g7 F ρ
      cases hr with
      | agg hr =>
        obtain ⟨cells', k1, k2⟩ := fill_sound _ _ _ _ cs.toArray hps hp (by simpa using hr)
        have hb : P.built t qs.toList = some cells' := by
          unfold Program.built
          simp only [g1, g2, g6, f1, f3]
          rw [← k1]
          simp [V.pack, Value.cells]
        exact ⟨_, run_build w t qs cells' hb, cells'.toList, .agg k2, by simp [V.pack]⟩
    · simp at he
  · simp at he
theorem relL_replicate {v : V} {cs : List Value} (hr : Rel F ρ v cs) (hn : v.isTup = false) : ∀ n, RelL F ρ (List.replicate n v) (List.flatten (List.replicate n cs))
  | 0 => by simpa using RelL.nil
  | n + 1 => by rw [List.replicate_succ, List.replicate_succ, List.flatten_cons]; exact .cons hn hr (relL_replicate hr hn n)
theorem range_mod (cs : List Value) (hc : cs.length ≠ 0) : ∀ n, (Array.range (n * cs.length)).map (fun i => cs.toArray[i % cs.toArray.size]!) = (List.flatten (List.replicate n cs)).toArray := by
  intro n
  apply Array.ext
  · simp
  · intro k h1 h2
    simp only [Array.size_map, Array.size_range] at h1
    simp only [Array.getElem_map, Array.getElem_range, List.size_toArray]
    have hk : k % cs.length < cs.length := Nat.mod_lt _ (by omega)
    rw [getElem!_pos cs.toArray _ (by simpa using hk)]
    simp only [List.getElem_toArray]
    have key : ∀ (n k : Nat), k < n * cs.length → (List.flatten (List.replicate n cs))[k]? = cs[k % cs.length]? := by
      intro n
      induction n with
      | zero => intro k hk; simp at hk
      | succ n ih =>
        intro k hk
        rw [List.replicate_succ, List.flatten_cons]
        by_cases hlt : k < cs.length
        · rw [List.getElem?_append_left hlt, Nat.mod_eq_of_lt hlt]
        · rw [List.getElem?_append_right (by omega), ih _ (by rw [Nat.succ_mul] at hk; omega)]
          congr 1
          exact (Nat.mod_eq_sub_mod (by omega)).symm
    have := key n k h1
    rw [List.getElem?_eq_getElem (by simpa using h2), List.getElem?_eq_getElem hk] at this
    exact (Option.some.inj this).symm
theorem sizeL_parts {place : Nat → Option (Nat × Nat)} : ∀ {ps : List (Nat × V)} {zs vs : List V}, aParts place zs ps = some vs → V.sizeL zs = V.sizeL vs
  | [], zs, vs, he => by simp only [aParts, Option.some.injEq] at he; rw [he]
  | (i, x) :: ps, zs, vs, he => by
    simp only [aParts] at he
    split at he
    · rename_i off size z hpl hz
      split at he
      · rename_i hc
        rw [← sizeL_parts he]
        clear he
        have key : ∀ (zs : List V) (i : Nat), zs[i]? = some z → V.sizeL zs = V.sizeL (zs.set i x) := by
          intro zs
          induction zs with
          | nil => intro i hi; simp at hi
          | cons a r ih =>
            intro i hi
            cases i with
            | zero => simp at hi; subst hi; simp [V.sizeL, hc.2.1, hc.2.2.1]
            | succ i => simp at hi; simp [V.sizeL, ih i hi]
        exact key zs i hz
      · simp at he
    · simp at he
def aBuildSlice (C : Ctx) (t : TypeId) (len : Nat) (parts : List (Nat × V)) (h : H) : Option (V × H) :=
  match C.ty.get t with
  | some ti => match ti.k with
    | .slc e => match C.ty.get e with
      | some te => if len = 0 then (if parts = [] then some (.nl false, h) else none) else
        if te.sz = 0 ∨ 16777216 < len * te.sz then none else
        match aParts (fun i => some (i * te.sz, te.sz)) (List.replicate len te.zero) parts with
        | some vs => some (.sl ⟨h.next, [], 0⟩ te.sz 0 len (some len), h.push (.cells (.agg vs) false))
        | none => none
      | none => none
    | _ => none
  | none => none
include hC in
theorem aBuildSlice_sound {t : TypeId} {len : Nat} {parts : List (Nat × V)} {y : V} {h' : H} {qs : Array (Nat × Value)} (he : aBuildSlice C t len parts h = some (y, h')) (s : Sim F ρ h w) (hp : RelParts F ρ parts qs.toList) :
    ∃ z w' ρ', (Instr.buildSlice t len qs).run P w = .ok z w' ∧ Ext F ρ F ρ' ∧ Sim F ρ' h' w' ∧ RelV F ρ' y z := by
  unfold aBuildSlice at he
  split at he
  · rename_i ti ht
    obtain ⟨i, d, z, g1, g2, g3, g4, g5, g6, g7, g8, g9⟩ := (hC.ty _ _ ht).ok
    split at he
    · rename_i e hk
      rw [hk] at g5
      cases d <;> simp only [kindOk] at g5
      subst g5
      split at he
      · rename_i te hte
        obtain ⟨ie, de, ze, f1, f2, f3, f4, f5, f6, f7, f8, f9, f10⟩ := (hC.ty _ _ hte).ok
        split at he
        · rename_i hl0
          subst hl0
          split at he
          · rename_i hp0
            subst hp0
            cases hqs : qs.toList with
            | cons a b => rw [hqs] at hp; cases hp
            | nil =>
              have hqe : qs = #[] := by apply Array.ext'; simpa using hqs
              subst hqe
              simp only [Option.some.injEq, Prod.mk.injEq] at he
              obtain ⟨rfl, rfl⟩ := he
              have h3 : ObjOk F ρ (.cells (.agg []) false) ⟨w.heap.size, 0, 0⟩ (.cells #[] e (0, 0)) := .cells rfl (.inl rfl) (.agg .nil) rfl (by simp)
              refine ⟨.slice (some ⟨w.heap.size, 0, none⟩) 0 0, w.alloc (.cells #[] e), ρ, ?_, .refl _ _, ?_, ⟨_, .nl rfl, rfl⟩⟩
              · simp [Instr.buildSlice, run_underlying g2, run_sizeOf f1, Instr.fill, newRow]
                congr 2
                apply Array.ext'
                simp
              · have hF : ∀ n o, w.heap[n]? = some o → (w.heap.push (.cells #[] e))[n]? = some o := fun n o hn => by
                  rw [Array.getElem?_push_lt (Array.getElem?_eq_some_iff.1 hn).1]; exact congrArg some (Array.getElem?_eq_some_iff.1 hn).2
                exact ⟨fun n o hn => hF n o (s.frz n o hn), s.dom, fun b x l hx hl => by obtain ⟨o, ho, hk⟩ := s.blk b x l hx hl; exact ⟨o, hF _ _ ho, hk⟩, s.inj, s.live, s.nx, s.same ⟨rfl, rfl⟩⟩
          · simp at he
        · rename_i hl0
          split at he
          · simp at he
          · rename_i hsz
            have hsz0 : te.sz ≠ 0 := fun e => hsz (.inl e)
            split at he
            · rename_i vs hps
              simp only [Option.some.injEq, Prod.mk.injEq] at he
              obtain ⟨rfl, rfl⟩ := he
              obtain ⟨cs, hr, rfl⟩ := f7 F ρ
              have hzc : (te.zero.pack cs).cells = cs.toArray := by apply Array.ext'; simpa using hr.isAgg_pack f8
              have hcl : cs.length = te.sz := by rw [hr.length, f10]
              have hrl : RelL F ρ (List.replicate len te.zero) (List.flatten (List.replicate len cs)) := relL_replicate hr f8 len
              obtain ⟨cells', k1, k2⟩ := fill_sound _ _ _ _ (List.flatten (List.replicate len cs)).toArray hps hp (by simpa using hrl)
              have hrun := run_buildSlice (P := P) w t e len qs cells' ie _ g2 f1 f6 (by rw [f3]; intro hq; exact hsz (.inr (by simpa using hq))) (by rw [f3]; exact Nat.mul_ne_zero hl0 hsz0) (by
                rw [hzc, f3, ← hcl, range_mod cs (by rw [hcl]; exact hsz0) len, hcl]; exact k1)
              have hlen : cells'.toList.length = len * te.sz := by
                rw [k2.length, ← sizeL_parts hps, sizeL_const (esz := te.sz) (fun v hv => by rw [List.eq_of_mem_replicate hv, f10]), List.length_replicate]
              have hlen' : cells'.size = len * te.sz := by simpa using hlen
              have h3 : ObjOk F ρ (.cells (.agg vs) false) ⟨w.heap.size, 0, cells'.size⟩ (.cells cells' e (0, 0)) :=
                .cells rfl (.inl rfl) (.agg k2) rfl (fun j u hu => by simpa using hu)
              obtain ⟨e', s'⟩ := s.push (w' := w.alloc (.cells cells' e)) (l := ⟨w.heap.size, 0, cells'.size⟩) rfl
                (fun n hn => by show (w.heap.push _)[n]? = _; rw [Array.getElem?_push_lt hn, Array.getElem?_eq_getElem hn]) (by show (w.heap.push _)[_]? = _; simp) h3 (by simp)
              refine ⟨_, _, _, hrun, e', s', _, .sl (l := ⟨w.heap.size, 0, cells'.size⟩) (c := len) (a := ⟨w.heap.size, 0, none⟩) (by simp) (.inl ⟨by simp, by simp [hlen']⟩) (Nat.le_refl _) (by simp), rfl⟩
            · simp at he
      · simp at he
    · simp at he
  · simp at he
end
end Go.A
