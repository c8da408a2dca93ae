/- Arguments that come in, as abstract values over the memory as it lies. -/
import Derived.Test.YtgekgcffmmbhbaaGreatA37
import Derived.ChangeSlices
import Derived.ChangeShapes
set_option linter.unusedVariables false
set_option linter.unusedSimpArgs false
namespace Go.A
open Go Go.ChangeShapes Go.WideShapes
/-- All that lies in memory, as it lies. -/
abbrev allF (w : World) : Frz := fun n => w.heap[n]?
section
variable {H : Type} {enc : TypeId × Value → H} {P : Program} {w : World} {base : Nat} {held : Bool}
theorem ints_rel (F : Frz) (ρ : Ren) (k : IntKind) : ∀ zs : List Int, RelL F ρ (zs.map fun n => V.sc (.int k n)) (zs.map fun n => Value.int k n)
  | [] => .nil
  | n :: r => .cons (c := [.int k n]) rfl (.sc rfl) (ints_rel F ρ k r)
theorem int_rel {r : Go.Reach} {b0 : Nat} {t : TypeId} {k : IntKind} {v : Value} {d : DataW H} {ps : List MemPlace} (ht : P.underlying t = some (.int k)) (hval : Value.okWide P w r b0 t v) (hd : DataW.Trod enc P w base (fun _ => true) held t v d ps) (F : Frz) (ρ : Ren) :
    ∃ n, v = .int k n ∧ d = .lit (.int k n) ∧ (Lit.int k n).wf = true ∧ RelV F ρ (.sc (.int k n)) v := by
  obtain ⟨n, rfl, h1, _, h2⟩ := open_int ht hval hd
  exact ⟨n, rfl, h1, h2, _, .sc rfl, rfl⟩
/-- A slice of whole numbers. -/
theorem slice_rel {r : Go.Reach} {b0 : Nat} {t e : TypeId} {k : IntKind} {v : Value} {d : DataW H} {ps : List MemPlace} (ht : P.underlying t = some (.slice e)) (he : P.underlying e = some (.int k)) (hc : P.cellsOf e = 1) (hval : Value.okWide P w r b0 t v) (hd : DataW.Trod enc P w base (fun _ => true) held t v d ps) :
    (v = .slice none 0 0 ∧ d = .nil ∧ RelV (allF w) ρ0 (.nl true) v) ∨ ∃ zs spare : List Int, d = .slice (lits k zs) (lits k spare) ∧ (∀ n ∈ zs, (Lit.int k n).wf = true) ∧ zs.length ≤ maxLen ∧ RelV (allF w) ρ0 (.list (zs.map fun n => .sc (.int k n))) v := by
  obtain ⟨a1, len, cap, rfl⟩ := okWide_slice ht hval
  obtain ⟨fuel, hf⟩ := hd
  rcases open_ints ht he hc hf with ⟨hcs, hx⟩ | ⟨a, len', cap', zs, hcs, _, hl, hm, hz, hx, hcell, hwz⟩
  · simp [Value.cells] at hcs
    obtain ⟨rfl, rfl, rfl⟩ := hcs
    simp only [Prod.mk.injEq] at hx
    exact .inl ⟨rfl, hx.1, _, .nl (a := none) rfl, rfl⟩
  · right
    simp [Value.cells] at hcs
    obtain ⟨rfl, rfl, rfl⟩ := hcs
    simp only [Prod.mk.injEq] at hx
    simp only [if_true] at hz
    have hlen : (zs.take len).length = len := by simp; omega
    refine ⟨zs.take len, zs.drop len, hx.1, fun n hn => hwz n (List.mem_of_mem_take hn), by rw [hlen]; omega, ?_⟩
    by_cases h0 : len = 0
    · subst h0
      exact ⟨_, .listNil, rfl⟩
    · have hc0 := hcell 0 (by omega)
      have hob : ∃ c E fz, w.heap[a.block]? = some (.cells c E fz) ∧ (a.add 0).spot = none := by
        have e0 : a.add 0 = a := by simp [Addr.add]
        rw [e0] at hc0 ⊢
        unfold World.cell? at hc0
        split at hc0
        · rename_i c E fz hh
          refine ⟨c, E, fz, hh, ?_⟩
          cases hs : a.spot with
          | none => rfl
          | some s => simp [hs] at hc0
        · cases hc0
      obtain ⟨c, E, fz, hh, hs0⟩ := hob
      have hs : a.spot = none := by
        have e0 : a.add 0 = a := by simp [Addr.add]
        rw [e0] at hs0; exact hs0
      have ha : a = ⟨a.block, a.off, none⟩ := by cases a; simp at hs; rw [hs]
      have hadd : ∀ i, a.add i = ⟨a.block, a.off + i, none⟩ := fun i => by
        unfold Addr.add
        split
        · rename_i hi; subst hi; simpa using ha
        · rfl
      have hcells : ∀ i, i < zs.length → c[a.off + i]? = some (.int k (zs.getD i 0)) := fun i hi => by
        have := hcell i hi
        rw [hadd] at this
        unfold World.cell? at this
        simpa [hh] using this
      refine ⟨[.slice (some a) len cap], ?_, rfl⟩
      have hrl := ints_rel (allF w) ρ0 k (zs.take len)
      have := Rel.list (F := allF w) (ρ := ρ0) (bb := a.block) (off := a.off) (c := cap) (esz := 1) (cells := c) (E := E) (fz := fz) (vs := (zs.take len).map fun n => V.sc (.int k n)) (cs := (zs.take len).map fun n => Value.int k n) hh hrl (fun v hv => by
        obtain ⟨n, _, rfl⟩ := List.mem_map.1 hv; rfl) (fun j u hu => by
        rw [List.getElem?_map, Option.map_eq_some_iff] at hu
        obtain ⟨n, hn, rfl⟩ := hu
        have hj : j < len := by have := (List.getElem?_eq_some_iff.1 hn).1; omega
        rw [hcells j (by omega)]
        rw [List.getElem?_take_of_lt hj] at hn
        simp [hn]) (by simp; omega)
      rw [List.length_map, hlen, ← ha] at this
      exact this
/-- A row of whole numbers of a fixed length. -/
theorem array_rel {r : Go.Reach} {b0 : Nat} {t e : TypeId} {k : IntKind} {m : Nat} {v : Value} {d : DataW H} {ps : List MemPlace} (ht : P.underlying t = some (.array m e)) (he : P.underlying e = some (.int k)) (hc : P.cellsOf e = 1) (ht2 : P.cellsOf t = m) (hval : Value.okWide P w r b0 t v) (hd : DataW.Trod enc P w base (fun _ => true) held t v d ps) (F : Frz) (ρ : Ren) :
    ∃ zs : List Int, zs.length = m ∧ d = .agg (lits k zs) ∧ (∀ n ∈ zs, (Lit.int k n).wf = true) ∧ RelV F ρ (.agg (zs.map fun n => .sc (.int k n))) v := by
  obtain ⟨fuel, hf⟩ := hd
  have hv : ∃ cs, v = .agg cs := by
    unfold Value.okWide at hval
    rw [ht] at hval
    obtain ⟨cs, h, _⟩ := hval
    exact ⟨cs, h⟩
  obtain ⟨cs, rfl⟩ := hv
  obtain ⟨xs, q, rfl, hx, hlen, hxl, heach⟩ := DataW.trod_array ht hf
  rw [ht2] at hlen
  have hlen' : cs.toList.length = m := hlen
  have each : ∀ i (hi : i < m), ∃ n : Int, cs.toList[i]? = some (.int k n) ∧ xs[i]? = some (.lit (.int k n), []) ∧ (Lit.int k n).wf = true := by
    intro i hi
    have h1 := heach i hi
    rw [hc, Nat.mul_one] at h1
    have h2 : xs[i]? = some xs[i] := List.getElem?_eq_getElem (by omega)
    rw [h2] at h1
    obtain ⟨n, h3, h4, h5⟩ := DataW.trod_int he h1
    refine ⟨n, ?_, by rw [h2, h4], h5⟩
    have h3' : (List.drop i cs.toList).take 1 = [.int k n] := h3
    have h6 : ((List.drop i cs.toList).take 1)[0]? = some (.int k n) := by rw [h3']; rfl
    rw [List.getElem?_take_of_lt (by omega), List.getElem?_drop] at h6
    simpa using h6
  have hch : ∃ f : Nat → Int, ∀ i, i < m → cs.toList[i]? = some (.int k (f i)) ∧ xs[i]? = some (.lit (.int k (f i)), []) ∧ (Lit.int k (f i)).wf = true := by
    refine ⟨fun i => if hi : i < m then (each i hi).choose else 0, fun i hi => ?_⟩
    simp only [hi, dif_pos]
    exact (each i hi).choose_spec
  obtain ⟨f, hf'⟩ := hch
  have e1 : cs.toList = ((List.range m).map f).map fun n => Value.int k n := by
    apply List.ext_getElem?
    intro i
    by_cases hi : i < m
    · rw [(hf' i hi).1]; simp [hi]
    · rw [List.getElem?_eq_none (by omega), List.getElem?_eq_none (by simp; omega)]
  have e2 : xs = ((List.range m).map f).map fun n => (DataW.lit (.int k n), []) := by
    apply List.ext_getElem?
    intro i
    by_cases hi : i < m
    · rw [(hf' i hi).2.1]; simp [hi]
    · rw [List.getElem?_eq_none (by omega), List.getElem?_eq_none (by simp; omega)]
  refine ⟨(List.range m).map f, by simp, ?_, fun n hn => ?_, ?_⟩
  · simp only [Prod.mk.injEq] at hx
    rw [hx.1, e2]
    simp [lits, Function.comp_def]
  · obtain ⟨i, hi, rfl⟩ := List.mem_map.1 hn
    exact (hf' i (List.mem_range.1 hi)).2.2
  · have hr := ints_rel F ρ k ((List.range m).map f)
    rw [← e1] at hr
    exact ⟨_, .agg hr, by simp [V.pack]⟩
end
/-- A call that the abstract side has reckoned, out of the memory as it lies: it has answered true, and nothing that lay there has turned. -/
theorem calls_true {P : Program} {call : CallK} (hcall : ∀ _ : Outer, CallsOk P call) {f : FuncId} {args : List V} {xs : List Value} {w : World} {h' : H} (he : call f args ⟨0, 0, .lf⟩ = some (.sc (.bool true), h')) (hr : RelTs (allF w) ρ0 args xs) :
    Calls P f xs.toArray w fun e w' => e = .returned (.bool true) ∧ SameIo w w' ∧ ∀ i, i < w.heap.size → w'.heap[i]? = w.heap[i]? := by
  letI : Outer := ⟨w.os, w.output⟩
  refine ((hcall _) f args _ _ _ he (allF w) ρ0 w xs (sim0 (fun _ _ h => h) ⟨rfl, rfl⟩) hr).mono ?_
  rintro e w' ⟨x, F', ρ', rfl, g1, g2, g3⟩
  obtain ⟨rfl, _⟩ := sc_val g3
  refine ⟨rfl, g2.io, fun i hi => ?_⟩
  have h1 : allF w i = some w.heap[i] := Array.getElem?_eq_getElem hi
  rw [g2.frz _ _ (g1.f _ _ h1)]
  exact h1.symm
end Go.A
