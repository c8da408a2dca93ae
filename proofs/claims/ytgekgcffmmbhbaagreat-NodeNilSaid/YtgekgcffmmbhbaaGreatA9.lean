/- Unary operators, conversions, tuples, interfaces, lengths, appends. -/
import Derived.Test.YtgekgcffmmbhbaaGreatA8
import Derived.Deep.Upon
set_option linter.unusedVariables false
set_option linter.unusedSimpArgs false
noncomputable section
namespace Go.A
open Go
set_option linter.unusedSectionVars false
variable [Outer]
section
variable {P : Program} {C : Ctx} (hC : CtxOk P C) {F : Frz} {ρ : Ren} {h : H} {w : World}

/-! ### the elements of what can be read as a row -/
theorem relL_split : ∀ {vs : List V} {cs : List Value}, RelL F ρ vs cs → ∀ i, RelL F ρ (vs.take i) (cs.take (V.sizeL (vs.take i))) ∧ RelL F ρ (vs.drop i) (cs.drop (V.sizeL (vs.take i)))
  | _, _, hr, 0 => by simpa [V.sizeL] using ⟨RelL.nil, hr⟩
  | _, _, .nil, i + 1 => by simpa [V.sizeL] using RelL.nil
  | _, _, .cons (v := v) (vs := vs) (c := c) (cs := cs) hn h hr, i + 1 => by
    obtain ⟨h1, h2⟩ := relL_split hr i
    have e1 : (c ++ cs).take (V.sizeL ((v :: vs).take (i + 1))) = c ++ cs.take (V.sizeL (vs.take i)) := by
      simp only [List.take_succ_cons, V.sizeL, ← h.length]
      rw [List.take_append]; simp [List.take_of_length_le]
    have e2 : (c ++ cs).drop (V.sizeL ((v :: vs).take (i + 1))) = cs.drop (V.sizeL (vs.take i)) := by
      simp only [List.take_succ_cons, V.sizeL, ← h.length]
      rw [List.drop_append]; simp
    rw [e1, e2, List.take_succ_cons, List.drop_succ_cons]
    exact ⟨.cons hn h h1, h2⟩
def bytesV (s : ByteArray) : List V := s.data.toList.map fun b => .sc (.int .u8 b.toNat)
def aElems (x : V) (sz : Nat) (h : H) : Option (List V) :=
  match x with
  | .nl _ => some []
  | .list vs => if vs.all (fun v => v.size == sz) then some vs else none
  | .sl p esz i n _ => match lookC h p with
    | some (.agg vs) => if V.sizeL (vs.take i) = i * esz ∧ esz = sz ∧ i + n ≤ vs.length ∧ ((vs.drop i).take n).all (fun v => v.size == sz) then some ((vs.drop i).take n) else none
    | _ => none
  | .sc (.string s) => if sz = 1 then some (bytesV s) else none
  | _ => none
/-- What such a value is in the model: so many elements, their cells. -/
structure Row (F : Frz) (ρ : Ren) (sz : Nat) (xs : List V) (val : Value) (cs : List Value) (w : World) : Prop where
  rel : RelL F ρ xs cs
  sizes : ∀ v ∈ xs, v.size = sz
  val : (∃ a c, val = .slice a xs.length c ∧ (∀ (j : Nat) (u : Value), cs[j]? = some u → ∃ b, a = some b ∧ w.cell? (b.add j) = some u)) ∨
    ∃ s, val = .string s ∧ sz = 1 ∧ cs = byteCells s ∧ xs = bytesV s
theorem relL_bytes : ∀ (l : List UInt8), RelL F ρ (l.map fun b => .sc (.int .u8 b.toNat)) (l.map fun b => Value.int .u8 b.toNat)
  | [] => .nil
  | b :: l => by
    have := RelL.cons (F := F) (ρ := ρ) (v := .sc (.int .u8 b.toNat)) (c := [.int .u8 b.toNat]) rfl (.sc rfl) (relL_bytes l)
    simpa using this
theorem aElems_sound {x : V} {sz : Nat} {xs : List V} {val : Value} (he : aElems x sz h = some xs) (s : Sim F ρ h w) (hx : RelV F ρ x val) : ∃ cs, Row F ρ sz xs val cs w := by
  unfold aElems at he
  split at he
  · cases he
    obtain ⟨cs, hr, rfl⟩ := hx
    cases hr
    exact ⟨[], .nil, by simp, .inl ⟨_, _, rfl, by simp⟩⟩
  · rename_i vs
    split at he
    · rename_i hall
      cases he
      have hsz : ∀ v ∈ xs, v.size = sz := fun v hv => by have := List.all_eq_true.1 hall v hv; simpa using this
      obtain ⟨cs, hr, rfl⟩ := hx
      cases hr with
      | listNil => exact ⟨[], .nil, by simp, .inl ⟨_, _, rfl, by simp⟩⟩
      | list h' hr hs hin hc =>
        rename_i bb off c esz cells E fz cs
        refine ⟨cs, hr, hsz, .inl ⟨_, _, rfl, fun j u hu => ⟨_, rfl, ?_⟩⟩⟩
        rw [Addr.add_mid]
        unfold World.cell?
        rw [s.frz _ _ h']
        simpa using hin j u hu
    · simp at he
  · rename_i p esz i n cap
    split at he
    · rename_i vs hlook
      split at he
      · rename_i hc
        obtain ⟨c1, rfl, c3, hall⟩ := hc
        cases he
        have hsz : ∀ v ∈ (vs.drop i).take n, v.size = esz := fun v hv => by have := List.all_eq_true.1 hall v hv; simpa using this
        have hlen : ((vs.drop i).take n).length = n := by simp; omega
        obtain ⟨cs, hr, rfl⟩ := hx
        cases hr with
        | sl hl ha hn hcap =>
          rename_i c l a
          obtain ⟨ds, hlies⟩ := s.lies hl hlook
          cases hlies.rel with
          | agg hrel =>
            obtain ⟨h1, h2⟩ := relL_split hrel i
            obtain ⟨h3, h4⟩ := relL_split h2 n
            rw [c1] at h3
            refine ⟨_, h3, hsz, .inl ⟨_, c, by rw [hlen]; rfl, fun j u hu => ?_⟩⟩
            have hj := (List.getElem?_eq_some_iff.1 hu).1
            have hlc := h3.length
            have hj2 : j < V.sizeL ((vs.drop i).take n) := by rw [← hlc]; exact hj
            have hne : n ≠ 0 := by
              rintro rfl
              simp [V.sizeL] at hj2
            rcases ha with ⟨rfl, _⟩ | ⟨hz, _⟩
            · refine ⟨_, rfl, ?_⟩
              rw [Addr.add_mid, Nat.add_assoc]
              apply hlies.rng
              rw [List.getElem?_take_of_lt hj2, List.getElem?_drop] at hu
              exact hu
            · exact absurd hz hne
      · simp at he
    · simp at he
  · rename_i st
    split at he
    · rename_i h1
      cases he
      obtain ⟨rfl, _⟩ := sc_val hx
      subst h1
      refine ⟨byteCells st, ?_, ?_, .inr ⟨st, rfl, rfl, rfl, rfl⟩⟩
      · exact relL_bytes _
      · intro v hv
        unfold bytesV at hv
        obtain ⟨b, _, rfl⟩ := List.mem_map.1 hv
        rfl
    · simp at he
  · simp at he
theorem Row.len {sz : Nat} {xs : List V} {val : Value} {cs : List Value} (hr : Row F ρ sz xs val cs w) : cs.length = xs.length * sz := by
  rw [hr.rel.length, sizeL_const hr.sizes]
theorem Row.src {sz : Nat} {xs : List V} {val : Value} {cs : List Value} {tx : TypeId} (hr : Row F ρ sz xs val cs w) (hk : (∃ e', P.underlying tx = some (.slice e') ∧ ∀ s, val ≠ .string s) ∨ (P.underlying tx = some .string ∧ ∃ s, val = .string s)) :
    Src P sz tx val xs.length cs w := by
  have hl := hr.len
  have h1 := hr.rel.one
  rcases hr.val with ⟨a, c, rfl, hc⟩ | ⟨s, rfl, rfl, rfl, rfl⟩
  · rcases hk with ⟨e', hk, _⟩ | ⟨_, s, hs⟩
    · cases a with
      | none =>
        have : cs = [] := by
          cases hcs : cs with
          | nil => rfl
          | cons u r => obtain ⟨b, hb, _⟩ := hc 0 u (by rw [hcs]; rfl); cases hb
        subst this
        refine ⟨.inl ⟨e', hk⟩, fun _ => rfl, run_firstCells_none w sz xs.length xs.length c, run_firstCells_none w.drew sz xs.length xs.length c, by simpa using hl, fun _ h => by cases h⟩
      | some b => exact Src.ofSlice w hk b xs.length c cs hl (fun j u hu => by obtain ⟨b', hb, hcell⟩ := hc j u hu; cases hb; exact hcell) h1
    · cases hs
  · rcases hk with ⟨e', hk, hne⟩ | ⟨hk, _⟩
    · exact absurd rfl (hne s)
    · have := Src.ofString (P := P) w hk s
      have e : (bytesV s).length = s.size := by unfold bytesV; rw [List.length_map]; rfl
      rw [e]; exact this

/-! ### append -/
def capOf : V → Option Nat
  | .nl _ => some 0
  | .sl _ _ _ _ cap => cap
  | _ => none
def isStr : V → Bool
  | .sc (.string _) => true
  | _ => false
def kindFits (tix : TI) (x : V) : Bool :=
  match tix.k with
  | .slc _ => !(isStr x)
  | .strg => isStr x
  | _ => false
def aGrow (te : TI) (s : V) (olds xs : List V) (frz : Bool) (h : H) : Option (V × H) :=
  if 140737488355328 < (olds.length + xs.length) * te.bytes then none else
  match capOf s with
  | some c => if c < olds.length + xs.length then
      (if frz then some (.list (olds ++ xs), h) else some (.sl ⟨h.next, [], 0⟩ te.sz 0 (olds.length + xs.length) none, h.push (.cells (.agg (olds ++ xs)) false)))
    else none
  | none => match s with
    | .sl p _ _ _ _ => if p.path = [] ∧ h.lo ≤ p.b ∧ frz = false then (match h.get p.b with
        | some (.cells _ false) => some (.sl ⟨h.next, [], 0⟩ te.sz 0 (olds.length + xs.length) none, (h.set p.b .dead).push (.cells (.agg (olds ++ xs)) false))
        | _ => none) else none
    | _ => none
theorem aGrow_keep {te : TI} {s y : V} {olds xs : List V} {frz : Bool} {h h' : H} (he : aGrow te s olds xs frz h = some (y, h')) :
    h' = h ∨ (∃ x, h' = h.push x) ∨ ∃ b x, h.lo ≤ b ∧ h' = (h.set b .dead).push x := by
  unfold aGrow at he
  split at he
  · simp at he
  · split at he
    · split at he
      · split at he
        · cases he; exact .inl rfl
        · cases he; exact .inr (.inl ⟨_, rfl⟩)
      · simp at he
    · split at he
      · split at he
        · rename_i hc
          split at he
          · cases he; exact .inr (.inr ⟨_, _, hc.2.1, rfl⟩)
          · simp at he
        · simp at he
      · simp at he
def aAppend (C : Ctx) (t tx : TypeId) (s x : V) (frz : Bool) (h : H) : Option (V × H) :=
  match C.ty.get t, C.ty.get tx with
  | some ti, some tix => match ti.k with
    | .slc e => match C.ty.get e with
      | some te =>
        if kindFits tix x = false ∨ te.bytes = 0 then none else
        match aElems x te.sz h with
        | some [] => (match s with
          | .nl _ | .sl _ _ _ _ _ | .list _ => some (s, h)
          | _ => none)
        | some xs => (match s with
          | .nl _ | .sl _ _ _ _ _ => (match aElems s te.sz h with
            | some olds => aGrow te s olds xs frz h
            | none => none)
          | _ => none)
        | none => none
      | none => none
    | _ => none
  | _, _ => none
end
end Go.A
