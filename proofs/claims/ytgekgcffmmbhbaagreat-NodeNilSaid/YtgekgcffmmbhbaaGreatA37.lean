/- What comes in, as abstract values over the memory as it lies; what was read ahead of a call is read behind it, where all that lay in memory lies as it lay. -/
import Derived.Test.YtgekgcffmmbhbaaGreatA36
import Derived.ChangeSame
import Derived.ChangeOld
import Derived.OpenShut
import Derived.ChangeSlices
import Derived.ChangeShapes
import Derived.ChangeArms
set_option linter.unusedVariables false
set_option linter.unusedSimpArgs false
noncomputable section
namespace Go.A
open Go Go.ChangeShapes Go.WideShapes
section
variable {H : Type} {enc : TypeId × Value → H} {P : Program} {w w' : World} {base : Nat} {held : Bool}
/-- No element of a slice is without cells, as far as the type goes. -/
def posT (P : Program) : Nat → TypeId → Bool
  | 0, _ => false
  | k + 1, t => match P.underlying t with
    | some (.pointer e) => posT P k e
    | some (.slice e) => decide (0 < P.cellsOf e) && posT P k e
    | some (.struct fs) => fs.toList.all fun f => posT P k f.type
    | some (.array _ e) => posT P k e
    | some (.map _ e) => posT P k e
    | _ => true
theorem trod_spare {sp : Nat → Bool} (hsp : ∀ b, b < w.heap.size → sp b = true) : ∀ (n k : Nat) (t : TypeId) (cs : List Value) (x : DataW H × List MemPlace), posT P k t = true → DataW.trod enc P w base (fun _ => true) true n t cs = some x → DataW.trod enc P w base sp true n t cs = some x := by
  intro n
  induction n with
  | zero => intro k t cs x hp h; simp [DataW.trod] at h
  | succ n ih =>
    intro k t cs x hp h
    cases k with
    | zero => simp [posT] at hp
    | succ k =>
      have hz := DataW.trod_lt (n + 1) t cs x h
      unfold posT at hp
      rw [DataW.trod_step] at h ⊢
      unfold DataW.trodStep at h ⊢
      split at h
      case h_6 e a hu =>
        rw [hu] at hp
        simp only [Option.map_eq_some_iff, Option.bind_eq_some_iff] at h ⊢
        obtain ⟨y, ⟨cs', hc, hy⟩, rfl⟩ := h
        exact ⟨y, ⟨cs', hc, ih k _ _ _ hp hy⟩, rfl⟩
      case h_8 e a len cap hu =>
        rw [hu] at hp
        simp only [Bool.and_eq_true, decide_eq_true_eq] at hp
        obtain ⟨hce, hp⟩ := hp
        simp only at h ⊢
        split at h
        · rename_i hc
          rw [if_pos hc]
          simp only [Option.map_eq_some_iff, Option.bind_eq_some_iff, if_true] at h ⊢
          obtain ⟨elems, he, rest, hrest, rfl⟩ := h
          have one : ∀ (i : Nat) (y : DataW H × List MemPlace), (w.cells? base (a.add (i * P.cellsOf e)) (P.cellsOf e)).bind (DataW.trod enc P w base (fun _ => true) true n e) = some y →
              (w.cells? base (a.add (i * P.cellsOf e)) (P.cellsOf e)).bind (DataW.trod enc P w base sp true n e) = some y := by
            intro i y hv
            simp only [Option.bind_eq_some_iff] at hv ⊢
            obtain ⟨cs', hc', hy'⟩ := hv
            exact ⟨cs', hc', ih k _ _ _ hp hy'⟩
          refine ⟨elems, mapM_carry he (fun i y _ _ hv => one i y hv), rest, ?_, rfl⟩
          by_cases h0 : cap - len = 0
          · rw [h0] at hrest ⊢
            simp only [List.range_zero, List.mapM_nil] at hrest ⊢
            cases hq : sp a.block
            · exact hrest
            · exact hrest
          · have hlen : elems.length = len := by simpa using mapM_some_length he
            have hrl : rest.length = cap - len := by simpa using mapM_some_length hrest
            have hb : a.block < w.heap.size := hz (.cell a.block (a.off + 0)) (by
              simp only [List.mem_append]
              left
              exact MemPlace.mem_row.2 ⟨0, Nat.mul_pos (by omega) hce, rfl⟩)
            rw [if_pos (hsp _ hb)]
            exact mapM_carry hrest (fun j y _ _ hv => one (len + j) y hv)
        · cases h
      case h_9 fs hu =>
        rw [hu] at hp
        split at h
        · rename_i hc
          rw [if_pos hc]
          simp only [Option.map_eq_some_iff] at h ⊢
          obtain ⟨xs, hx, rfl⟩ := h
          exact ⟨xs, mapM_carry hx (fun f y hf _ hv => ih k _ _ _ (List.all_eq_true.1 hp f hf) hv), rfl⟩
        · cases h
      case h_10 m e hu =>
        rw [hu] at hp
        split at h
        · rename_i hc
          rw [if_pos hc]
          simp only [Option.map_eq_some_iff] at h ⊢
          obtain ⟨xs, hx, rfl⟩ := h
          exact ⟨xs, mapM_carry hx (fun f y _ _ hv => ih k _ _ _ hp hv), rfl⟩
        · cases h
      case h_14 kk e b hu =>
        rw [hu] at hp
        split at h
        · rename_i es clock hb
          split at h
          · rename_i hc
            simp only [Option.bind_eq_some_iff] at h
            obtain ⟨entries, he, hd⟩ := h
            simp only [if_pos hc, Option.bind_eq_some_iff]
            refine ⟨entries, mapM_carry he (fun x y _ _ hv => ?_), hd⟩
            simp only [Option.bind_eq_some_iff] at hv ⊢
            obtain ⟨key, hk, hv⟩ := hv
            refine ⟨key, hk, ?_⟩
            split at hv
            · rename_i hf
              rw [if_pos hf]
              simp only [Option.map_eq_some_iff] at hv ⊢
              obtain ⟨q, hq, hy⟩ := hv
              exact ⟨q, ih k _ _ _ hp hq, hy⟩
            · cases hv
          · cases h
        · cases h
      all_goals exact h
theorem same_of_heap (hh : ∀ i, i < w.heap.size → w'.heap[i]? = w.heap[i]?) (p : MemPlace) (hp : p.block < w.heap.size) : w.sameAt w' p := by
  cases p with
  | cell b off => show w'.cell? _ = w.cell? _; unfold World.cell?; rw [hh b hp]
  | map b => exact hh b hp
theorem trod_world (hh : ∀ i, i < w.heap.size → w'.heap[i]? = w.heap[i]?) {sp : Nat → Bool} : ∀ (n : Nat) (t : TypeId) (cs : List Value) (x : DataW H × List MemPlace), DataW.trod enc P w base sp held n t cs = some x → DataW.trod enc P w' base sp held n t cs = some x := by
  intro n
  induction n with
  | zero => intro t cs x h; simp [DataW.trod] at h
  | succ n ih =>
    intro t cs x h
    have hz := DataW.trod_lt (n + 1) t cs x h
    rw [DataW.trod_step] at h ⊢
    exact DataW.trodStep_carry (fun t cs x hx _ => ih t cs x hx) h (fun p hp => same_of_heap hh p (hz p hp))
theorem trodAll_keep (hh : ∀ i, i < w.heap.size → w'.heap[i]? = w.heap[i]?) {sp : Nat → Bool} (hsp : ∀ b, b < w.heap.size → sp b = true) : ∀ {ts : List TypeId} {vs : List Value} {ds : List (DataW H)} {ps : List MemPlace}, (∀ t ∈ ts, posT P 20 t = true) →
    DataW.TrodAll enc P w base (fun _ => true) true ts vs ds ps → DataW.TrodAll enc P w' base sp true ts vs ds ps
  | [], vs, ds, ps, hp, h => by
    obtain ⟨rfl, rfl, rfl⟩ := trodAll_nil h
    exact rfl
  | t :: ts, vs, ds, ps, hp, h => by
    obtain ⟨v, vs1, d, ds1, a, b, rfl, rfl, rfl, ⟨n, h1⟩, h2⟩ := trodAll_cons h
    exact ⟨a, b, ⟨n, trod_world hh n _ _ _ (trod_spare hsp n 20 _ _ _ (hp _ (by simp)) h1)⟩, trodAll_keep hh hsp (fun t ht => hp t (by simp [ht])) h2, rfl⟩
theorem keptBut_of_heap (hio : SameIo w w') (hh : ∀ i, i < w.heap.size → w'.heap[i]? = w.heap[i]?) (may : MemPlace → Prop) : w.keptBut w' may := by
  refine ⟨hio.1, hio.2, fun i hi => ?_⟩
  rw [hh i hi]
  split
  · rename_i c t fr c' t' fr' h1 h2
    rw [h1] at h2; cases h2
    exact ⟨rfl, rfl, rfl, fun _ _ => rfl⟩
  · rename_i es clock es' clock' h1 h2
    rw [h1] at h2; cases h2
    exact .inr ⟨rfl, rfl⟩
  · rfl
/-- A law's end: it has answered true, and nothing that lay there has turned. -/
theorem post_true {f : Func} {s : ChangeSpec} {W W' : World} {args : Array Value} {ds gs : List (DataW H)} {before : List MemPlace} {tb : TypeId} (hP : ∀ t ∈ f.params.toList, posT P 20 t = true) (hW : DataW.Whole enc P f.params.toList s.vars false W args.toList ds gs before) (hv : s.vars = []) (hrt : f.resultTypes = #[tb]) (htb : P.underlying tb = some .bool)
    (hfn : s.fn H ds = { results := [.lit (.bool true)], args := ds }) (hio : SameIo W W') (hh : ∀ i, i < W.heap.size → W'.heap[i]? = W.heap[i]?) : s.post enc P f false true false false W args (.bool true) W' := by
  have hW0 := hW
  obtain ⟨p, q, hA, hV, rfl, hz, hn⟩ := hW
  rw [hv] at hV
  have hg : gs = [] ∧ q = [] := by
    cases gs with
    | nil => exact ⟨rfl, hV⟩
    | cons a b => exact hV.elim
  obtain ⟨rfl, rfl⟩ := hg
  refine ⟨ds, [], p ++ [], [], p, [], hW0, ?_, ?_, ?_, keptBut_of_heap hio hh _, fun hq => by cases hq⟩
  · rw [List.append_nil, hfn, hrt]
    exact ⟨[], [], ⟨1, by show DataW.trod enc P W' _ _ _ 1 tb [.bool true] = _; simp [DataW.trod, htb]⟩, rfl, rfl⟩
  · rw [List.append_nil, hfn]
    exact trodAll_keep hh (fun b hb => by simpa using hb) hP hA
  · rw [hv, List.append_nil, hfn]
    exact rfl
end
end Go.A
noncomputable section
namespace Go.A
open Go Go.ChangeShapes Go.WideShapes
/-- All that lies in memory, as it lies. -/
abbrev allF (w : World) : Frz := fun n => w.heap[n]?
section
variable {H : Type} {enc : TypeId × Value → H} {P : Program} {w : World} {base : Nat} {held : Bool}
theorem ints_rel (F : Frz) (ρ : Ren) (k : IntKind) : ∀ zs : List Int, RelL F ρ (zs.map fun n => V.sc (.int k n)) (zs.map fun n => Value.int k n)
  | [] => .nil
  | n :: r => .cons (c := [.int k n]) rfl (.sc rfl) (ints_rel F ρ k r)
theorem int_rel {r : Go.Reach} {b0 : Nat} {t : TypeId} {k : IntKind} {v : Value} {d : DataW H} {ps : List MemPlace} (ht : P.underlying t = some (.int k)) (hval : Value.okWide P w r b0 t v) (hd : DataW.Trod enc P w base (fun _ => true) held t v d ps) (F : Frz) (ρ : Ren) :
    ∃ n, v = .int k n ∧ d = .lit (.int k n) ∧ (Lit.int k n).wf = true ∧ RelV F ρ (.sc (.int k n)) v := by
  obtain ⟨n, rfl, h1, _, h2⟩ := open_int ht hval hd
  exact ⟨n, rfl, h1, h2, _, .sc rfl, rfl⟩
/-- A slice of whole numbers. -/
theorem slice_rel {r : Go.Reach} {b0 : Nat} {t e : TypeId} {k : IntKind} {v : Value} {d : DataW H} {ps : List MemPlace} (ht : P.underlying t = some (.slice e)) (he : P.underlying e = some (.int k)) (hc : P.cellsOf e = 1) (hval : Value.okWide P w r b0 t v) (hd : DataW.Trod enc P w base (fun _ => true) held t v d ps) :
    (v = .slice none 0 0 ∧ d = .nil ∧ RelV (allF w) ρ0 (.nl true) v) ∨ ∃ zs spare : List Int, d = .slice (lits k zs) (lits k spare) ∧ (∀ n ∈ zs, (Lit.int k n).wf = true) ∧ zs.length ≤ maxLen ∧ RelV (allF w) ρ0 (.list (zs.map fun n => .sc (.int k n))) v := by
  obtain ⟨a1, len, cap, rfl⟩ := okWide_slice ht hval
  obtain ⟨fuel, hf⟩ := hd
  rcases open_ints ht he hc hf with ⟨hcs, hx⟩ | ⟨a, len', cap', zs, hcs, _, hl, hm, hz, hx, hcell, hwz⟩
  · simp [Value.cells] at hcs
    obtain ⟨rfl, rfl, rfl⟩ := hcs
    simp only [Prod.mk.injEq] at hx
    exact .inl ⟨rfl, hx.1, _, .nl (a := none) rfl, rfl⟩
  · right
    simp [Value.cells] at hcs
    obtain ⟨rfl, rfl, rfl⟩ := hcs
    simp only [Prod.mk.injEq] at hx
    simp only [if_true] at hz
    have hlen : (zs.take len).length = len := by simp; omega
    refine ⟨zs.take len, zs.drop len, hx.1, fun n hn => hwz n (List.mem_of_mem_take hn), by rw [hlen]; omega, ?_⟩
    by_cases h0 : len = 0
    · subst h0
      exact ⟨_, .listNil, rfl⟩
    · have hc0 := hcell 0 (by omega)
      have hob : ∃ c E fz, w.heap[a.block]? = some (.cells c E fz) ∧ (a.add 0).spot = none := by
        have e0 : a.add 0 = a := by simp [Addr.add]
        rw [e0] at hc0 ⊢
        unfold World.cell? at hc0
        split at hc0
        · rename_i c E fz hh
          refine ⟨c, E, fz, hh, ?_⟩
          cases hs : a.spot with
          | none => rfl
          | some s => simp [hs] at hc0
        · cases hc0
      obtain ⟨c, E, fz, hh, hs0⟩ := hob
      have hs : a.spot = none := by
        have e0 : a.add 0 = a := by simp [Addr.add]
        rw [e0] at hs0; exact hs0
      have ha : a = ⟨a.block, a.off, none⟩ := by cases a; simp at hs; rw [hs]
      have hadd : ∀ i, a.add i = ⟨a.block, a.off + i, none⟩ := fun i => by
        unfold Addr.add
        split
        · rename_i hi; subst hi; simpa using ha
        · rfl
      have hcells : ∀ i, i < zs.length → c[a.off + i]? = some (.int k (zs.getD i 0)) := fun i hi => by
        have := hcell i hi
        rw [hadd] at this
        unfold World.cell? at this
        simpa [hh] using this
      refine ⟨[.slice (some a) len cap], ?_, rfl⟩
      have hrl := ints_rel (allF w) ρ0 k (zs.take len)
      have := Rel.list (F := allF w) (ρ := ρ0) (bb := a.block) (off := a.off) (c := cap) (esz := 1) (cells := c) (E := E) (fz := fz) (vs := (zs.take len).map fun n => V.sc (.int k n)) (cs := (zs.take len).map fun n => Value.int k n) hh hrl (fun v hv => by
        obtain ⟨n, _, rfl⟩ := List.mem_map.1 hv; rfl) (fun j u hu => by
        rw [List.getElem?_map, Option.map_eq_some_iff] at hu
        obtain ⟨n, hn, rfl⟩ := hu
        have hj : j < len := by have := (List.getElem?_eq_some_iff.1 hn).1; omega
        rw [hcells j (by omega)]
        rw [List.getElem?_take_of_lt hj] at hn
        simp [hn]) (by simp; omega)
      rw [List.length_map, hlen, ← ha] at this
      exact this
/-- A row of whole numbers of a fixed length. -/
theorem array_rel {r : Go.Reach} {b0 : Nat} {t e : TypeId} {k : IntKind} {m : Nat} {v : Value} {d : DataW H} {ps : List MemPlace} (ht : P.underlying t = some (.array m e)) (he : P.underlying e = some (.int k)) (hc : P.cellsOf e = 1) (ht2 : P.cellsOf t = m) (hval : Value.okWide P w r b0 t v) (hd : DataW.Trod enc P w base (fun _ => true) held t v d ps) (F : Frz) (ρ : Ren) :
    ∃ zs : List Int, zs.length = m ∧ d = .agg (lits k zs) ∧ (∀ n ∈ zs, (Lit.int k n).wf = true) ∧ RelV F ρ (.agg (zs.map fun n => .sc (.int k n))) v := by
  obtain ⟨fuel, hf⟩ := hd
  have hv : ∃ cs, v = .agg cs := by
    unfold Value.okWide at hval
    rw [ht] at hval
    obtain ⟨cs, h, _⟩ := hval
    exact ⟨cs, h⟩
  obtain ⟨cs, rfl⟩ := hv
  obtain ⟨xs, q, rfl, hx, hlen, hxl, heach⟩ := DataW.trod_array ht hf
  rw [ht2] at hlen
  have hlen' : cs.toList.length = m := hlen
  have each : ∀ i (hi : i < m), ∃ n : Int, cs.toList[i]? = some (.int k n) ∧ xs[i]? = some (.lit (.int k n), []) ∧ (Lit.int k n).wf = true := by
    intro i hi
    have h1 := heach i hi
    rw [hc, Nat.mul_one] at h1
    have h2 : xs[i]? = some xs[i] := List.getElem?_eq_getElem (by omega)
    rw [h2] at h1
    obtain ⟨n, h3, h4, h5⟩ := DataW.trod_int he h1
    refine ⟨n, ?_, by rw [h2, h4], h5⟩
    have h3' : (List.drop i cs.toList).take 1 = [.int k n] := h3
    have h6 : ((List.drop i cs.toList).take 1)[0]? = some (.int k n) := by rw [h3']; rfl
    rw [List.getElem?_take_of_lt (by omega), List.getElem?_drop] at h6
    simpa using h6
  have hch : ∃ f : Nat → Int, ∀ i, i < m → cs.toList[i]? = some (.int k (f i)) ∧ xs[i]? = some (.lit (.int k (f i)), []) ∧ (Lit.int k (f i)).wf = true := by
    refine ⟨fun i => if hi : i < m then (each i hi).choose else 0, fun i hi => ?_⟩
    simp only [hi, dif_pos]
    exact (each i hi).choose_spec
  obtain ⟨f, hf'⟩ := hch
  have e1 : cs.toList = ((List.range m).map f).map fun n => Value.int k n := by
    apply List.ext_getElem?
    intro i
    by_cases hi : i < m
    · rw [(hf' i hi).1]; simp [hi]
    · rw [List.getElem?_eq_none (by omega), List.getElem?_eq_none (by simp; omega)]
  have e2 : xs = ((List.range m).map f).map fun n => (DataW.lit (.int k n), []) := by
    apply List.ext_getElem?
    intro i
    by_cases hi : i < m
    · rw [(hf' i hi).2.1]; simp [hi]
    · rw [List.getElem?_eq_none (by omega), List.getElem?_eq_none (by simp; omega)]
  refine ⟨(List.range m).map f, by simp, ?_, fun n hn => ?_, ?_⟩
  · simp only [Prod.mk.injEq] at hx
    rw [hx.1, e2]
    simp [lits, Function.comp_def]
  · obtain ⟨i, hi, rfl⟩ := List.mem_map.1 hn
    exact (hf' i (List.mem_range.1 hi)).2.2
  · have hr := ints_rel F ρ k ((List.range m).map f)
    rw [← e1] at hr
    exact ⟨_, .agg hr, by simp [V.pack]⟩
end
/-- A call that the abstract side has reckoned, out of the memory as it lies: it has answered true, and nothing that lay there has turned. -/
theorem calls_true {P : Program} {call : CallK} (hcall : ∀ _ : Outer, CallsOk P call) {f : FuncId} {args : List V} {xs : List Value} {w : World} {h' : H} (he : call f args ⟨0, 0, .lf⟩ = some (.sc (.bool true), h')) (hr : RelTs (allF w) ρ0 args xs) :
    Calls P f xs.toArray w fun e w' => e = .returned (.bool true) ∧ SameIo w w' ∧ ∀ i, i < w.heap.size → w'.heap[i]? = w.heap[i]? := by
  letI : Outer := ⟨w.os, w.output⟩
  refine ((hcall _) f args _ _ _ he (allF w) ρ0 w xs (sim0 (fun _ _ h => h) ⟨rfl, rfl⟩) hr).mono ?_
  rintro e w' ⟨x, F', ρ', rfl, g1, g2, g3⟩
  obtain ⟨rfl, _⟩ := sc_val g3
  refine ⟨rfl, g2.io, fun i hi => ?_⟩
  have h1 : allF w i = some w.heap[i] := Array.getElem?_eq_getElem hi
  rw [g2.frz _ _ (g1.f _ _ h1)]
  exact h1.symm
end Go.A
noncomputable section
namespace Go.A
open Go Go.ChangeShapes Go.WideShapes
section
variable {H : Type} {enc : TypeId × Value → H} {P : Program} {w : World} {base : Nat} {held : Bool} {fuel : Nat} {x : DataW H × List MemPlace} {cs : List Value}
theorem int_cell {t : TypeId} {k : IntKind} (ht : P.underlying t = some (.int k)) (h : DataW.trod enc P w base (fun _ => true) held fuel t cs = some x) (F : Frz) (ρ : Ren) : ∃ n, cs = [.int k n] ∧ Rel F ρ (.sc (.int k n)) cs := by
  obtain ⟨n, rfl, _, _⟩ := DataW.trod_int ht h
  exact ⟨n, rfl, .sc rfl⟩
theorem slice_cell {t e : TypeId} {k : IntKind} (ht : P.underlying t = some (.slice e)) (he : P.underlying e = some (.int k)) (hc : P.cellsOf e = 1) (h : DataW.trod enc P w base (fun _ => true) held fuel t cs = some x) :
    Rel (allF w) ρ0 (.nl true) cs ∨ ∃ zs : List Int, Rel (allF w) ρ0 (.list (zs.map fun n => .sc (.int k n))) cs := by
  rcases open_ints ht he hc h with ⟨hcs, hx⟩ | ⟨a, len, cap, zs, hcs, _, hl, hm, hz, hx, hcell, hwz⟩
  · subst hcs
    exact .inl (.nl (a := none) rfl)
  · right
    subst hcs
    simp only [if_true] at hz
    have hlen : (zs.take len).length = len := by simp; omega
    refine ⟨zs.take len, ?_⟩
    by_cases h0 : len = 0
    · subst h0
      exact .listNil
    · have hc0 := hcell 0 (by omega)
      have e0 : a.add 0 = a := by simp [Addr.add]
      rw [e0] at hc0
      have hob : ∃ c E fz, w.heap[a.block]? = some (.cells c E fz) ∧ a.spot = none := by
        unfold World.cell? at hc0
        split at hc0
        · rename_i c E fz hh
          refine ⟨c, E, fz, hh, ?_⟩
          cases hs : a.spot with
          | none => rfl
          | some s => simp [hs] at hc0
        · cases hc0
      obtain ⟨c, E, fz, hh, hs⟩ := hob
      have ha : a = ⟨a.block, a.off, none⟩ := by cases a; simp at hs; rw [hs]
      have hadd : ∀ i, a.add i = ⟨a.block, a.off + i, none⟩ := fun i => by
        unfold Addr.add
        split
        · rename_i hi; subst hi; simpa using ha
        · rfl
      have hcells : ∀ i, i < zs.length → c[a.off + i]? = some (.int k (zs.getD i 0)) := fun i hi => by
        have := hcell i hi
        rw [hadd] at this
        unfold World.cell? at this
        simpa [hh] using this
      have hrl := ints_rel (allF w) ρ0 k (zs.take len)
      have := Rel.list (F := allF w) (ρ := ρ0) (bb := a.block) (off := a.off) (c := cap) (esz := 1) (cells := c) (E := E) (fz := fz) (vs := (zs.take len).map fun n => V.sc (.int k n)) (cs := (zs.take len).map fun n => Value.int k n) hh hrl (fun v hv => by
        obtain ⟨n, _, rfl⟩ := List.mem_map.1 hv; rfl) (fun j u hu => by
        rw [List.getElem?_map, Option.map_eq_some_iff] at hu
        obtain ⟨n, hn, rfl⟩ := hu
        have hj : j < len := by have := (List.getElem?_eq_some_iff.1 hn).1; omega
        rw [hcells j (by omega)]
        rw [List.getElem?_take_of_lt hj] at hn
        simp [hn]) (by simp; omega)
      rw [List.length_map, hlen, ← ha] at this
      exact this
theorem array_cell {t e : TypeId} {k : IntKind} {m : Nat} (ht : P.underlying t = some (.array m e)) (he : P.underlying e = some (.int k)) (hc : P.cellsOf e = 1) (ht2 : P.cellsOf t = m) (h : DataW.trod enc P w base (fun _ => true) held fuel t cs = some x) (F : Frz) (ρ : Ren) :
    ∃ zs : List Int, zs.length = m ∧ Rel F ρ (.agg (zs.map fun n => .sc (.int k n))) cs := by
  obtain ⟨xs, q, rfl, hx, hlen, hxl, heach⟩ := DataW.trod_array ht h
  rw [ht2] at hlen
  have each : ∀ i (hi : i < m), ∃ n : Int, cs[i]? = some (.int k n) := by
    intro i hi
    have h1 := heach i hi
    rw [hc, Nat.mul_one] at h1
    have h2 : xs[i]? = some xs[i] := List.getElem?_eq_getElem (by omega)
    rw [h2] at h1
    obtain ⟨n, h3, h4, h5⟩ := DataW.trod_int he h1
    refine ⟨n, ?_⟩
    have h6 : ((List.drop i cs).take 1)[0]? = some (.int k n) := by rw [h3]; rfl
    rw [List.getElem?_take_of_lt (by omega), List.getElem?_drop] at h6
    simpa using h6
  have hch : ∃ f : Nat → Int, ∀ i, i < m → cs[i]? = some (.int k (f i)) := by
    refine ⟨fun i => if hi : i < m then (each i hi).choose else 0, fun i hi => ?_⟩
    simp only [hi, dif_pos]
    exact (each i hi).choose_spec
  obtain ⟨f, hf'⟩ := hch
  have e1 : cs = ((List.range m).map f).map fun n => Value.int k n := by
    apply List.ext_getElem?
    intro i
    by_cases hi : i < m
    · rw [hf' i hi]; simp [hi]
    · rw [List.getElem?_eq_none (by omega), List.getElem?_eq_none (by simp; omega)]
  refine ⟨(List.range m).map f, by simp, ?_⟩
  have hr := ints_rel F ρ k ((List.range m).map f)
  rw [← e1] at hr
  exact .agg hr
end
end Go.A
