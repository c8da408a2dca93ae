/- Operations without effect on what is there: addresses of parts, literals, sub-slices, tuples, interfaces. -/
import Derived.Test.YtgekgcffmmbhbaaGreatA3
import Derived.Laws.Tables
import Derived.Laws.Build
import Derived.Great.BuildSlice
set_option linter.unusedVariables false
set_option linter.unusedSimpArgs false
noncomputable section
namespace Go.A
open Go
set_option linter.unusedSectionVars false
variable [Outer]

def intOf? : V → Option Int
  | .sc (.int _ n) => some n
  | _ => none
section
variable {P : Program} {C : Ctx} (hC : CtxOk P C) {F : Frz} {ρ : Ren} {h : H} {w : World}
theorem sc_val {v val : Value} (hv : RelV F ρ (.sc v) val) : val = v ∧ scalar v = true := by
  obtain ⟨cs, hr, rfl⟩ := hv
  cases hr with
  | sc hs => exact ⟨rfl, hs⟩
theorem sc_rel {v : Value} (hs : scalar v = true) : RelV F ρ (.sc v) v := ⟨_, .sc hs, rfl⟩
theorem int_val {x : V} {n : Int} {val : Value} (hi : intOf? x = some n) (hv : RelV F ρ x val) : ∃ k, val = .int k n := by
  unfold intOf? at hi
  split at hi
  · cases hi; exact ⟨_, (sc_val hv).1⟩
  · simp at hi
theorem run_asIntOf_int (k : IntKind) (n : Int) (w : World) : (asIntOf (.int k n)).run P w = .ok (k, n) w := rfl
theorem RelL.nth_off {F ρ} {vs : List V} {cs : List Value} (hr : RelL F ρ vs cs) {i : Nat} {u : V} (hu : vs[i]? = some u) :
    ∃ ds, Rel F ρ u ds ∧ u.isTup = false ∧ ∀ (j : Nat) (x : Value), ds[j]? = some x → cs[V.sizeL (vs.take i) + j]? = some x := by
  obtain ⟨pre, ds, post, he, hl, hr', ht⟩ := hr.nth i u hu
  refine ⟨ds, hr', ht, fun j x hx => ?_⟩
  rw [he, ← hl, List.append_assoc, List.getElem?_append_right (by omega), Nat.add_sub_cancel_left, List.getElem?_append_left (List.getElem?_eq_some_iff.1 hx).1]
  exact hx
theorem sizeL_const {esz : Nat} : ∀ {vs : List V}, (∀ v ∈ vs, v.size = esz) → V.sizeL vs = vs.length * esz
  | [], _ => by simp [V.sizeL]
  | v :: vs, h => by
    rw [V.sizeL, h v (by simp), sizeL_const (fun x hx => h x (by simp [hx])), List.length_cons, Nat.succ_mul, Nat.add_comm]

/-! ### the address of a field -/
def aFieldAddr (C : Ctx) (s : TypeId) (x : V) (f : Nat) : Option V :=
  match C.ty.get s with
  | some ⟨.str fs, _, _, _, _⟩ => match fs[f]? with
    | some (off, size, _) => if size = 0 then none else match x with
      | .ptr p => some (.ptr ⟨p.b, p.path ++ [f], p.off + off⟩)
      | .lp (.agg vs) => match vs[f]? with
        | some u => if V.sizeL (vs.take f) = off then some (.lp u) else none
        | none => none
      | _ => none
    | none => none
  | _ => none
theorem str_field {fs : List (Nat × Nat × Bool × Nat)} {fields : Array Field} {f off size : Nat} {b : Bool × Nat}
    (hf : fs = fields.toList.map fun f => (f.offset, P.cellsOf f.type, ((P.underlying f.type).map aggD).getD false, f.type)) (h : fs[f]? = some (off, size, b)) :
    ∃ fd, fields[f]? = some fd ∧ fd.offset = off ∧ P.cellsOf fd.type = size ∧ (((P.underlying fd.type).map aggD).getD false, fd.type) = b := by
  rw [hf] at h
  simp only [List.getElem?_map, Option.map_eq_some_iff, Array.getElem?_toList] at h
  obtain ⟨fd, h1, h2⟩ := h
  simp only [Prod.mk.injEq] at h2
  exact ⟨fd, h1, h2.1, h2.2.1, h2.2.2⟩
theorem run_fieldPlace (a : Addr) (fd : Field) (n : Nat) (hs : P.cellsOf fd.type = n) (hn : n ≠ 0) (w : World) : (fieldPlace a fd).run P w = .ok (a.add fd.offset) w := by
  unfold Program.cellsOf at hs
  cases hi : P.info? fd.type with
  | none => simp [hi] at hs; omega
  | some i =>
    simp only [hi, Option.map_some, Option.getD_some] at hs
    simp [fieldPlace, Sem.run_bind, run_sizeOf hi, hs, hn]
include hC in
theorem aFieldAddr_sound {s : TypeId} {x y : V} {f : Nat} {val : Value} (he : aFieldAddr C s x f = some y) (sm : Sim F ρ h w) (hv : RelV F ρ x val) :
    ∃ z, (Instr.fieldAt s val f).run P w = .ok z w ∧ RelV F ρ y z := by
  unfold aFieldAddr at he
  split at he
  · rename_i fs sz by_ ze eq_ ht
    split at he
    · rename_i off size b hf
      split at he
      · simp at he
      · rename_i hsz
        obtain ⟨i, d, z, g1, g2, g3, g4, g5, _⟩ := (hC.ty _ _ ht).ok
        cases d <;> simp only [kindOk] at g5
        rename_i fields
        obtain ⟨fd, k1, k2, k3, k4⟩ := str_field g5.1 hf
        have hrun : ∀ a, (Instr.fieldAt s (.pointer (some a)) f).run P w = .ok (.pointer (some (a.add off))) w := fun a => by
          simp only [Instr.fieldAt, Sem.run_bind, run_underlying g2, Result.andThen_ok, k1, Instr.sureAddr, Sem.run_pure, run_fieldPlace a fd size k3 hsz, k2]
        split at he
        · rename_i p
          cases he
          obtain ⟨l, hl, rfl⟩ := ptr_val hv
          refine ⟨_, hrun _, ?_⟩
          rw [Addr.add_mid, Nat.add_assoc]
          exact ptr_rel (p := ⟨p.b, p.path ++ [f], p.off + off⟩) hl
        · rename_i vs
          split at he
          · rename_i u hu
            split at he
            · rename_i hoff
              cases he
              obtain ⟨cs, hr, rfl⟩ := hv
              cases hr with
              | lp h' hr hn hin =>
                cases hr with
                | agg hr =>
                  obtain ⟨ds, hd, htup, hds⟩ := hr.nth_off hu
                  rename_i bb off0 cells E fz cs'
                  refine ⟨_, hrun _, _, .lp (off := off0 + off) h' hd htup (fun j x hx => ?_), ?_⟩
                  · rw [Nat.add_assoc]; exact hin _ _ (by rw [← hoff]; exact hds j x hx)
                  · rw [Addr.add_mid]; rfl
            · simp at he
          · simp at he
        · simp at he
    · simp at he
  · simp at he

/-! ### the address of an element -/
def aIndexAddr (C : Ctx) (t : TypeId) (x i : V) : Option V :=
  match C.ty.get t, intOf? i with
  | some ti, some n => if n < 0 then none else match ti.k with
    | .arr len e => match C.ty.get e with
      | some te => if n.toNat < len then match x with
        | .ptr p => some (.ptr ⟨p.b, p.path ++ [n.toNat], p.off + n.toNat * te.sz⟩)
        | .lp (.agg vs) => match vs[n.toNat]? with
          | some u => if V.sizeL (vs.take n.toNat) = n.toNat * te.sz then some (.lp u) else none
          | none => none
        | _ => none
        else none
      | none => none
    | .slc e => match C.ty.get e with
      | some te => match x with
        | .sl p esz i0 len _ => if n.toNat < len ∧ esz = te.sz then some (.ptr ⟨p.b, p.path ++ [i0 + n.toNat], p.off + (i0 + n.toNat) * esz⟩) else none
        | .list vs => match vs[n.toNat]? with
          | some u => if u.size = te.sz then some (.lp u) else none
          | none => none
        | _ => none
      | none => none
    | _ => none
  | _, _ => none
theorem TIOk.size {t : TypeId} {ti : TI} (ht : TIOk P t ti) (w : World) : (sizeOf t).run P w = .ok ti.sz w := by
  obtain ⟨i, d, z, g1, g2, g3, _⟩ := ht.ok
  rw [run_sizeOf g1, g3]
include hC in
theorem aIndexAddr_sound {t : TypeId} {x i y : V} {val iv : Value} (he : aIndexAddr C t x i = some y) (sm : Sim F ρ h w) (hv : RelV F ρ x val) (hi : RelV F ρ i iv) :
    ∃ z, (Instr.indexAt t val iv).run P w = .ok z w ∧ RelV F ρ y z := by
  unfold aIndexAddr at he
  split at he
  · rename_i ti n ht hn
    obtain ⟨k, rfl⟩ := int_val hn hi
    split at he
    · simp at he
    · rename_i hneg
      have h0 : 0 ≤ n := by omega
      obtain ⟨inf, d, z, g1, g2, g3, g4, g5, _⟩ := (hC.ty _ _ ht).ok
      split at he
      · rename_i len e hk
        rw [hk] at g5
        cases d <;> simp only [kindOk] at g5
        obtain ⟨rfl, rfl⟩ := g5
        split at he
        · rename_i te hte
          have hsz := fun w => (hC.ty _ _ hte).size w
          split at he
          · rename_i hlt
            have hrun : ∀ a, (Instr.indexAt t (.pointer (some a)) (.int k n)).run P w = .ok (.pointer (some (a.add (n.toNat * te.sz)))) w := fun a => by
              have hr : 0 ≤ n ∧ n < (len : Int) := ⟨h0, by omega⟩
              simp only [Instr.indexAt, Sem.run_bind, run_asIntOf_int, Result.andThen_ok, run_underlying g2, Instr.sureAddr, Sem.run_pure, hr, and_self, if_true, hsz, decide_true]
            split at he
            · rename_i p
              cases he
              obtain ⟨l, hl, rfl⟩ := ptr_val hv
              refine ⟨_, hrun _, ?_⟩
              rw [Addr.add_mid, Nat.add_assoc]
              exact ptr_rel (p := ⟨p.b, p.path ++ [n.toNat], p.off + n.toNat * te.sz⟩) hl
            · rename_i vs
              split at he
              · rename_i u hu
                split at he
                · rename_i hoff
                  cases he
                  obtain ⟨cs, hr, rfl⟩ := hv
                  cases hr with
                  | lp h' hr hn hin =>
                    cases hr with
                    | agg hr =>
                      obtain ⟨ds, hd, htup, hds⟩ := hr.nth_off hu
                      rename_i bb off0 cells E fz cs'
                      refine ⟨_, hrun _, _, .lp (off := off0 + n.toNat * te.sz) h' hd htup (fun j x hx => ?_), ?_⟩
                      · rw [Nat.add_assoc]; exact hin _ _ (by rw [← hoff]; exact hds j x hx)
                      · rw [Addr.add_mid]; rfl
                · simp at he
              · simp at he
            · simp at he
          · simp at he
        · simp at he
      · rename_i e hk
        rw [hk] at g5
        cases d <;> simp only [kindOk] at g5
        subst g5
        split at he
        · rename_i te hte
          have hsz := fun w => (hC.ty _ _ hte).size w
          have hrun : ∀ a len c, n < (len : Nat) → (Instr.indexAt t (.slice (some a) len c) (.int k n)).run P w = .ok (.pointer (some (a.add (n.toNat * te.sz)))) w := fun a len c hlt => by
            have hr : 0 ≤ n ∧ n < (len : Int) := ⟨h0, hlt⟩
            simp only [Instr.indexAt, Sem.run_bind, run_asIntOf_int, Result.andThen_ok, run_underlying g2, Sem.run_pure]
            by_cases hl1 : len ≤ 1 <;> simp [hl1, run_underlying g2, hr, hsz]
          split at he
          · rename_i p esz i0 len cap
            split at he
            · rename_i hc
              obtain ⟨hlt, rfl⟩ := hc
              cases he
              obtain ⟨cs, hr, rfl⟩ := hv
              cases hr with
              | sl hl ha hn' hcap =>
                rename_i c l a
                rcases ha with ⟨rfl, hroom⟩ | ⟨hz, _⟩
                · refine ⟨_, hrun _ _ _ (by omega), ?_⟩
                  rw [Addr.add_mid]
                  have e : l.sh + p.off + i0 * te.sz + n.toNat * te.sz = l.sh + (p.off + (i0 + n.toNat) * te.sz) := by rw [Nat.add_mul]; omega
                  rw [e]
                  exact ptr_rel (p := ⟨p.b, p.path ++ [i0 + n.toNat], p.off + (i0 + n.toNat) * te.sz⟩) hl
                · omega
            · simp at he
          · rename_i vs
            split at he
            · rename_i u hu
              split at he
              · rename_i hus
                cases he
                have hlt : n.toNat < vs.length := (List.getElem?_eq_some_iff.1 hu).1
                obtain ⟨cs, hr, rfl⟩ := hv
                cases hr with
                | listNil => simp at hu
                | list h' hr hs hin hc =>
                  rename_i bb off c esz cells E fz cs
                  obtain ⟨ds, hd, htup, hds⟩ := hr.nth_off hu
                  have hesz : esz = te.sz := by rw [← hs u (List.mem_of_getElem? hu), hus]
                  have hoff : V.sizeL (vs.take n.toNat) = n.toNat * te.sz := by
                    rw [sizeL_const (esz := esz) (fun v hv => hs v (List.mem_of_mem_take hv)), List.length_take, Nat.min_eq_left (by omega), hesz]
                  refine ⟨_, hrun _ _ _ (by omega), _, .lp (off := off + n.toNat * te.sz) h' hd htup (fun j x hx => ?_), ?_⟩
                  · rw [Nat.add_assoc]; exact hin _ _ (by rw [← hoff]; exact hds j x hx)
                  · rw [Addr.add_mid]; rfl
              · simp at he
            · simp at he
          · simp at he
        · simp at he
      · simp at he
  · simp at he
end
end Go.A
