/- Operations on memory: loads, stores, new variables, addresses; each with its soundness. -/
import Derived.Test.YtgekgcffmmbhbaaGreatA2
import Derived.Deep.Upon
set_option linter.unusedVariables false
set_option linter.unusedSimpArgs false
noncomputable section
namespace Go.A
open Go
set_option linter.unusedSectionVars false
variable [Outer]

/-! ### Facts on the model's cells -/
theorem heap_setCells (b : Nat) (E : TypeId) (fz : Nat × Nat) : ∀ (vs : List Value) (o : Nat) (w : World) (c : Array Value), w.heap[b]? = some (.cells c E fz) → o + vs.length ≤ c.size →
    (∀ n, n ≠ b → (w.setCells b o vs).heap[n]? = w.heap[n]?) ∧ (w.setCells b o vs).heap.size = w.heap.size ∧
    ∃ c', (w.setCells b o vs).heap[b]? = some (.cells c' E fz) ∧ c'.size = c.size ∧ ∀ k, c'[k]? = if o ≤ k ∧ k < o + vs.length then vs[k - o]? else c[k]?
  | [], o, w, c, h, hl => ⟨fun _ _ => rfl, rfl, c, h, rfl, fun k => by rw [if_neg (by simp only [List.length_nil]; omega)]⟩
  | v :: r, o, w, c, h, hl => by
    have hb : b < w.heap.size := (Array.getElem?_eq_some_iff.1 h).1
    have hv : w.heap[b] = .cells c E fz := (Array.getElem?_eq_some_iff.1 h).2
    have h1 : (w.setCell ⟨b, o, none⟩ v).heap[b]? = some (.cells (c.setIfInBounds o v) E fz) := by
      unfold World.setCell
      simp [Array.getElem?_modify, h]
    have h2 : ∀ n, n ≠ b → (w.setCell ⟨b, o, none⟩ v).heap[n]? = w.heap[n]? := fun n hn => by
      unfold World.setCell
      simp only [Array.getElem?_modify]
      rw [if_neg (Ne.symm hn)]
    have h3 : (w.setCell ⟨b, o, none⟩ v).heap.size = w.heap.size := by unfold World.setCell; simp
    have hl' : o + 1 + r.length ≤ (c.setIfInBounds o v).size := by simp at hl ⊢; omega
    obtain ⟨i1, i0, c', i2, i3, i4⟩ := heap_setCells b E fz r (o + 1) (w.setCell ⟨b, o, none⟩ v) _ h1 hl'
    refine ⟨fun n hn => by rw [World.setCells, i1 n hn, h2 n hn], by rw [World.setCells, i0, h3], c', by rw [World.setCells]; exact i2, by simpa using i3, fun k => ?_⟩
    rw [i4 k]
    by_cases e : k = o
    · subst e
      rw [if_neg (by omega), if_pos (by simp)]
      simp only [Nat.sub_self, List.getElem?_cons_zero]
      rw [Array.getElem?_setIfInBounds_self_of_lt (by simp at hl; omega)]
    · by_cases g : o ≤ k ∧ k < o + (v :: r).length
      · rw [if_pos g, if_pos (by simp at g; omega)]
        rw [show k - o = (k - (o + 1)) + 1 by omega]; simp
      · rw [if_neg g, if_neg (by simp at g; omega), Array.getElem?_setIfInBounds_ne (Ne.symm e)]
theorem run_isAgg {P : Program} {t : TypeId} {d : TypeDesc} (h : P.underlying t = some d) (w : World) : (isAgg t).run P w = .ok (aggD d) w := by
  unfold isAgg
  rw [Sem.run_bind, run_underlying h w]
  cases d <;> rfl
theorem run_sizeOf {P : Program} {t : TypeId} {i : TypeInfo} (h : P.info? t = some i) (w : World) : (sizeOf t).run P w = .ok i.size w := by
  simp [sizeOf, typeInfo, h]
theorem run_loadVar_one {P : Program} (w : World) (a : Addr) (t : TypeId) (d : TypeDesc) (v : Value) (hu : P.underlying t = some d) (hd : aggD d = false) (hc : w.cell? a = some v) :
    (loadVar t a).run P w = .ok v w := by
  simp [loadVar, Sem.run_bind, run_isAgg hu, hd, hc]
theorem aggD_isRow (d : TypeDesc) : aggD d = d.isRow := by cases d <;> rfl

/-- What lies at a place of a block. -/
structure Lies (F : Frz) (ρ : Ren) (w : World) (u : V) (bb o : Nat) (ds : List Value) : Prop where
  rel : Rel F ρ u ds
  rng : w.rangeAt bb o ds
  tup : u.isTup = false
theorem Lies.load {F ρ w u bb o ds} {P : Program} (h : Lies F ρ w u bb o ds) {t : TypeId} {ti : TI} (ht : TIOk P t ti) (hs : u.size = ti.sz) (ha : u.isAgg = ti.isAgg) :
    (loadVar t ⟨bb, o, none⟩).run P w = .ok (u.pack ds) w := by
  obtain ⟨i, d, z, h1, h2, h3, h4, h5, _⟩ := ht.ok
  have hd : aggD d = ti.isAgg := by
    obtain ⟨k, sz, by_, zz⟩ := ti
    unfold TI.isAgg
    cases k <;> cases d <;> simp_all [kindOk, aggD]
  cases hq : ti.isAgg with
  | true =>
    have hu : u.isAgg = true := by rw [ha, hq]
    have : u.pack ds = .agg ds.toArray := by cases u <;> simp_all [V.isAgg, V.pack]
    rw [this]
    exact run_loadVar_mid w bb o t ds d h.rng h2 (by rw [← aggD_isRow, hd, hq]) (by rw [h1]; simp [h3, ← hs, ← h.rel.length])
  | false =>
    have hu : u.isAgg = false := by rw [ha, hq]
    have e := h.rel.single hu
    have hc : w.cell? ⟨bb, o, none⟩ = some (u.pack ds) := by
      have := h.rng 0 (u.pack ds) (by conv => lhs; rw [e]
                                      rfl)
      simpa using this
    exact run_loadVar_one w _ t d _ h2 (by rw [hd, hq]) hc

def lookC (h : H) (p : Pt) : Option V :=
  match h.get p.b with
  | some (.cells v _) => match v.at p.path with
    | some (u, o) => if o = p.off then some u else none
    | none => none
  | _ => none
theorem Sim.lies {F ρ h w} (s : Sim F ρ h w) {p : Pt} {l : Loc} {u : V} (hl : ρ p.b = some l) (hk : lookC h p = some u) : ∃ ds, Lies F ρ w u l.bb (l.sh + p.off) ds := by
  unfold lookC at hk
  split at hk
  · rename_i v fz hg
    split at hk
    · rename_i u' o hat
      split at hk
      · rename_i ho
        cases hk
        obtain ⟨obj, hobj, hok⟩ := s.blk _ _ _ hg hl
        cases hok with
        | cells hs hf hr hn hin =>
          obtain ⟨pre, ds, post, he, hpl, hrel, htup⟩ := Rel.at p.path hr hat
          refine ⟨ds, hrel, fun j x hx => ?_, htup hn⟩
          have : _ := hin (p.off + j) x (by rw [he, ← ho, ← hpl, List.append_assoc, List.getElem?_append_right (by omega), Nat.add_sub_cancel_left, List.getElem?_append_left (List.getElem?_eq_some_iff.1 hx).1]; exact hx)
          unfold World.cell?
          rw [hobj]
          simp only [Option.isSome_none, Bool.false_eq_true, if_false]
          rw [Nat.add_assoc]; exact this
      · simp at hk
    · simp at hk
  · simp at hk
theorem Sim.liesF {F ρ h w} (s : Sim F ρ h w) {bb off : Nat} {cells : Array Value} {E : TypeId} {fz : Nat × Nat} {cs : List Value} {u : V} (h' : F bb = some (.cells cells E fz)) (hr : Rel F ρ u cs) (hn : u.isTup = false)
    (hin : ∀ (j : Nat) (u : Value), cs[j]? = some u → cells[off + j]? = some u) : Lies F ρ w u bb off cs :=
  ⟨hr, fun j v hv => by
    unfold World.cell?
    rw [s.frz _ _ h']
    simpa using hin j v hv, hn⟩

/-! ### load -/
def aLoad (C : Ctx) (t : TypeId) (x : V) (h : H) : Option V :=
  match C.ty.get t with
  | none => none
  | some ti => match x with
    | .ptr p => match lookC h p with
      | some u => if u.size = ti.sz ∧ u.isAgg = ti.isAgg then some u else none
      | none => none
    | .lp u => if u.size = ti.sz ∧ u.isAgg = ti.isAgg then some u else none
    | _ => none
section
variable {P : Program} {C : Ctx} (hC : CtxOk P C) {F : Frz} {ρ : Ren} {h : H} {w : World}
theorem ptr_val {p : Pt} {val : Value} (hv : RelV F ρ (.ptr p) val) : ∃ l, ρ p.b = some l ∧ val = .pointer (some ⟨l.bb, l.sh + p.off, none⟩) := by
  obtain ⟨cs, hr, rfl⟩ := hv
  cases hr with
  | ptr hl => exact ⟨_, hl, rfl⟩
theorem ptr_rel {p : Pt} {l : Loc} (hl : ρ p.b = some l) : RelV F ρ (.ptr p) (.pointer (some ⟨l.bb, l.sh + p.off, none⟩)) := ⟨_, .ptr hl, rfl⟩
include hC in
theorem aLoad_sound {t : TypeId} {x u : V} {val : Value} (he : aLoad C t x h = some u) (s : Sim F ρ h w) (hv : RelV F ρ x val) :
    ∃ y, (Instr.loadAt t val).run P w = .ok y w ∧ RelV F ρ u y ∧ u.isTup = false := by
  unfold aLoad at he
  split at he
  · simp at he
  · rename_i ti ht
    split at he
    · rename_i p
      split at he
      · rename_i u' hk
        split at he
        · rename_i hcond
          cases he
          obtain ⟨l, hl, rfl⟩ := ptr_val hv
          obtain ⟨ds, hlies⟩ := s.lies hl hk
          refine ⟨u.pack ds, ?_, ⟨ds, hlies.rel, rfl⟩, hlies.tup⟩
          simp only [Instr.loadAt, Instr.sureAddr, Sem.run_bind, Sem.run_pure, Result.andThen_ok]
          exact hlies.load (hC.ty _ _ ht) hcond.1 hcond.2
        · simp at he
      · simp at he
    · rename_i u'
      split at he
      · rename_i hcond
        cases he
        obtain ⟨cs, hr, rfl⟩ := hv
        cases hr with
        | lp h' hr hn hin =>
          rename_i bb off cells E fz cs'
          have hlies := s.liesF h' hr hn hin
          refine ⟨u.pack cs', ?_, ⟨cs', hr, rfl⟩, hn⟩
          simp only [V.pack, List.headD_cons, Instr.loadAt, Instr.sureAddr, Sem.run_bind, Sem.run_pure, Result.andThen_ok]
          exact hlies.load (hC.ty _ _ ht) hcond.1 hcond.2
      · simp at he
    · simp at he

/-! ### store -/
def aPut (h : H) (p : Pt) (n : Nat) (y : V) : Option H :=
  match h.get p.b with
  | some (.cells v false) => match v.at p.path, v.upd p.path y with
    | some (u, o), some v' => if o = p.off ∧ u.size = n ∧ y.size = n ∧ y.isTup = false ∧ h.lo ≤ p.b then some (h.set p.b (.cells v' false)) else none
    | _, _ => none
  | _ => none
def aStore (C : Ctx) (t : TypeId) (x y : V) (h : H) : Option H :=
  match C.ty.get t, x with
  | some ti, .ptr p => aPut h p ti.sz y
  | _, _ => none
theorem aPut_sound {p : Pt} {n : Nat} {y : V} {h' : H} {l : Loc} {ys : List Value} (he : aPut h p n y = some h') (s : Sim F ρ h w) (hl : ρ p.b = some l) (hy : Rel F ρ y ys) :
    ys.length = n ∧ (∀ u ∈ ys, u.oneCell' = true) ∧ w.there l.bb (l.sh + p.off) ys.length ∧ Sim F ρ h' (w.setCells l.bb (l.sh + p.off) ys) := by
  unfold aPut at he
  split at he
  · rename_i v hg
    split at he
    · rename_i u o v' hat hupd
      split at he
      · rename_i hcond
        obtain ⟨ho, hu, hyn, htup, _⟩ := hcond
        cases he
        obtain ⟨obj, hobj, hok⟩ := s.blk _ _ _ hg hl
        cases hok with
        | cells hs hf hr hn hin =>
          rename_i c E fz cs
          have hlen : ys.length = u.size := by rw [hy.length, hyn, hu]
          obtain ⟨h1, h2, h3⟩ := Rel.upd p.path hr hat hupd hy htup hlen
          obtain ⟨pre, ds, post, he', hpl, hrel, _⟩ := Rel.at p.path hr hat
          have hdl : ds.length = ys.length := by rw [hrel.length, hlen]
          have hbound : l.sh + p.off + ys.length ≤ c.size ∨ ys.length = 0 := by
            by_cases hz : ys.length = 0
            · exact .inr hz
            · left
              have hj : p.off + (ys.length - 1) < cs.length := by rw [he']; simp; omega
              have := hin (p.off + (ys.length - 1)) _ (List.getElem?_eq_getElem hj)
              have := (Array.getElem?_eq_some_iff.1 this).1
              omega
          have hlenn : ys.length = n := by rw [hlen, hu]
          refine ⟨hlenn, hy.one htup, fun j hj => ?_, ?_⟩
          · have hb : l.sh + p.off + ys.length ≤ c.size := hbound.resolve_right (by omega)
            have hlt : l.sh + p.off + j < c.size := by omega
            constructor
            · unfold World.cell?; rw [hobj]; simp [hlt]
            · unfold World.frozen?; rw [hobj]
              exact hf.at_ (l.sh + p.off + j) hlt
          · rcases hbound with hb | hz
            · obtain ⟨k1, k0, c', k2, k3, k4⟩ := heap_setCells l.bb E fz ys (l.sh + p.off) w c hobj hb
              refine s.put hg hl rfl k1 k2 (.cells (by rw [k3, hs]) (by rw [k3]; exact hf) h1 (h3 hn) (fun j x hx => ?_)) rfl (by simp) ⟨Go.World.os_setCells _ _ _ _, Go.World.output_setCells _ _ _ _⟩
              rw [k4]
              have hj : j < (cs.take o ++ ys ++ cs.drop (o + ys.length)).length := (List.getElem?_eq_some_iff.1 hx).1
              have hcl : cs.length = o + ys.length + post.length := by rw [he']; simp; omega
              have htl : (cs.take o).length = o := by simp; omega
              by_cases q1 : j < o
              · rw [if_neg (by omega)]
                rw [List.append_assoc, List.getElem?_append_left (by omega), List.getElem?_take_of_lt q1] at hx
                exact hin j x hx
              · by_cases q2 : j < o + ys.length
                · rw [if_pos (by omega)]
                  rw [List.append_assoc, List.getElem?_append_right (by omega), htl, List.getElem?_append_left (by omega)] at hx
                  rw [← hx]; congr 1; omega
                · rw [if_neg (by omega)]
                  rw [List.getElem?_append_right (by simp [htl]; omega), List.getElem?_drop] at hx
                  apply hin
                  rw [← hx]; congr 1; simp [htl]; omega
            · have : ys = [] := List.eq_nil_of_length_eq_zero hz
              subst this
              refine s.put (w' := w) hg hl rfl (fun _ _ => rfl) hobj (.cells hs hf (by simpa using h1) (h3 hn) (fun j x hx => ?_)) rfl (by simp)
              apply hin; simpa using hx
      · simp at he
    · simp at he
  · simp at he
include hC in
theorem aStore_sound {t : TypeId} {x y : V} {h' : H} {val yv : Value} (he : aStore C t x y h = some h') (s : Sim F ρ h w) (hv : RelV F ρ x val) (hy : RelV F ρ y yv) :
    ∃ w', (Instr.storeAt t val yv).run P w = .ok () w' ∧ Sim F ρ h' w' := by
  unfold aStore at he
  split at he
  · rename_i ti p ht
    obtain ⟨l, hl, rfl⟩ := ptr_val hv
    obtain ⟨ys, hr, rfl⟩ := hy
    obtain ⟨h1, h2, h3, h4⟩ := aPut_sound he s hl hr
    have htup : y.isTup = false := by
      unfold aPut at he
      split at he
      · split at he
        · split at he
          · rename_i hc; exact hc.2.2.2.1
          · simp at he
        · simp at he
      · simp at he
    obtain ⟨i, d, z, g1, g2, g3, _⟩ := (hC.ty _ _ ht).ok
    have hcells : (y.pack ys).cells.toList = ys := hr.isAgg_pack htup
    have hsz : (y.pack ys).cells.size = ys.length := by have := congrArg List.length hcells; simpa using this
    have hst := run_storeCells_cells (P := P) l.bb (l.sh + p.off) ys 0 w (fun j hj => by simpa using (h3 j hj).1) (fun j hj => by simpa using (h3 j hj).2) h2
    refine ⟨_, ?_, h4⟩
    simp only [Nat.add_zero] at hst
    simp only [Instr.storeAt, Instr.sureAddr, storeVar, Sem.run_bind, Sem.run_pure, Result.andThen_ok, run_sizeOf g1, hsz, h1, g3, hcells, ne_eq, not_true_eq_false, if_false]
    exact hst
  · simp at he

/-! ### new variables -/
def aNew (v : V) (h : H) : V × H := (.ptr ⟨h.next, [], 0⟩, h.push (.cells v false))
theorem aNew_sound {v : V} {cs : List Value} (s : Sim F ρ h w) (hr : Rel F ρ v cs) (hn : v.isTup = false) (t : TypeId) :
    ∃ ρ', Ext F ρ F ρ' ∧ Sim F ρ' (aNew v h).2 { w with heap := w.heap.push (.cells cs.toArray t) } ∧ RelV F ρ' (aNew v h).1 (.pointer (some ⟨w.heap.size, 0, none⟩)) := by
  have h3 : ObjOk F ρ (.cells v false) ⟨w.heap.size, 0, cs.length⟩ (.cells cs.toArray t (0, 0)) :=
    .cells (by simp) (.inl rfl) hr hn (fun j u hu => by simpa using hu)
  obtain ⟨e, s'⟩ := s.push (w' := { w with heap := w.heap.push (.cells cs.toArray t) }) (l := ⟨w.heap.size, 0, cs.length⟩) rfl
    (fun n hn => by rw [Array.getElem?_push_lt hn, Array.getElem?_eq_getElem hn]) (by simp) h3 (by simp)
  refine ⟨_, e, s', ?_⟩
  exact ptr_rel (p := ⟨h.next, [], 0⟩) (l := ⟨w.heap.size, 0, cs.length⟩) (by simp)
def aAlloc (C : Ctx) (t : TypeId) (h : H) : Option (V × H) := (C.ty.get t).map fun ti => aNew ti.zero h
include hC in
theorem aAlloc_sound {t : TypeId} {x : V} {h' : H} (he : aAlloc C t h = some (x, h')) (s : Sim F ρ h w) :
    ∃ y w' ρ', (Instr.alloc t true (.tuple #[])).run P w = .ok y w' ∧ Ext F ρ F ρ' ∧ Sim F ρ' h' w' ∧ RelV F ρ' x y := by
  unfold aAlloc at he
  simp only [Option.map_eq_some_iff] at he
  obtain ⟨ti, ht, he⟩ := he
  obtain ⟨i, d, z, g1, g2, g3, g4, g5, g6, g7, g8, g9⟩ := (hC.ty _ _ ht).ok
  obtain ⟨cs, hr, rfl⟩ := g7 F ρ
  obtain ⟨ρ', e, s', hv⟩ := aNew_sound s hr g8 t
  rw [he] at s' hv
  refine ⟨_, _, ρ', ?_, e, s', hv⟩
  have hcells : (ti.zero.pack cs).cells = cs.toArray := by
    apply Array.ext'; simpa using hr.isAgg_pack g8
  simp [Instr.alloc, zeroValue, typeInfo, g1, g6, newVar, newRow, hcells]
def aBox (v : V) (h : H) : Option (V × H) := if v.isTup then none else some (aNew v h)
theorem aBox_sound {v x : V} {h' : H} {val : Value} (t : TypeId) (he : aBox v h = some (x, h')) (s : Sim F ρ h w) (hv : RelV F ρ v val) :
    ∃ y w' ρ', (Instr.box t val).run P w = .ok y w' ∧ Ext F ρ F ρ' ∧ Sim F ρ' h' w' ∧ RelV F ρ' x y := by
  unfold aBox at he
  split at he
  · simp at he
  · rename_i htup
    have htup : v.isTup = false := by simpa using htup
    simp only [Option.some.injEq] at he
    obtain ⟨cs, hr, rfl⟩ := hv
    obtain ⟨ρ', e, s', hv⟩ := aNew_sound s hr htup t
    rw [he] at s' hv
    refine ⟨_, _, ρ', ?_, e, s', hv⟩
    have hcells : (v.pack cs).cells = cs.toArray := by
      apply Array.ext'; simpa using hr.isAgg_pack htup
    simp [Instr.box, newVar, newRow, hcells]
end
end Go.A
