/- Sub-slices, tuples, interfaces, arithmetic and comparisons: each with its soundness. -/
import Derived.Test.YtgekgcffmmbhbaaGreatA5
set_option linter.unusedVariables false
set_option linter.unusedSimpArgs false
noncomputable section
namespace Go.A
open Go
set_option linter.unusedSectionVars false
variable [Outer]
section
variable {P : Program} {C : Ctx} (hC : CtxOk P C) {F : Frz} {ρ : Ren} {h : H} {w : World}

/-! ### sub-slices -/
def natOf? (x : V) : Option Nat :=
  match intOf? x with
  | some n => if n < 0 then none else some n.toNat
  | none => none
/-- An optional bound: what is not there is the default. -/
def bound? (x : Option V) (d : Nat) : Option Nat :=
  match x with
  | none => some d
  | some v => natOf? v
inductive RelO (F : Frz) (ρ : Ren) : Option V → Option Value → Prop
  | none : RelO F ρ none none
  | some {v : V} {x : Value} (h : RelV F ρ v x) : RelO F ρ (some v) (some x)
theorem nat_val {x : V} {n : Nat} {val : Value} (hi : natOf? x = some n) (hv : RelV F ρ x val) : ∃ k, val = .int k n := by
  unfold natOf? at hi
  split at hi
  · rename_i m hm
    split at hi
    · simp at hi
    · simp only [Option.some.injEq] at hi
      obtain ⟨k, rfl⟩ := int_val hm hv
      exact ⟨k, by rw [← hi]; congr; omega⟩
  · simp at hi
theorem run_sliceBound_ok (k : IntKind) (n y : Nat) (code : BoundsCode) (hn : n ≤ y) (w : World) : (Instr.sliceBound (.int k n) y code).run P w = .ok n w := by
  have : 0 ≤ (n : Int) ∧ (n : Int) ≤ (y : Int) := ⟨by omega, by omega⟩
  simp [Instr.sliceBound, Sem.run_bind, run_asIntOf_int, this, hn]
/-- The bounds of a sub-slice that are all right. -/
theorem run_sliceBounds_ok {lo hi mx : Option V} {lv hv mv : Option Value} {l hh m len cap : Nat} (b : Bool) (h1 : RelO F ρ lo lv) (h2 : RelO F ρ hi hv) (h3 : RelO F ρ mx mv)
    (e1 : bound? lo 0 = some l) (e2 : bound? hi len = some hh) (e3 : bound? mx cap = some m) (hx : mx.isSome = true → hi.isSome = true) (c1 : l ≤ hh) (c2 : hh ≤ m) (c3 : m ≤ cap) (w : World) :
    (Instr.sliceBounds b len cap lv hv mv).run P w = .ok (l, hh, m) w := by
  cases h3 with
  | none =>
    simp only [bound?, Option.some.injEq] at e3
    subst e3
    cases h2 with
    | none =>
      simp only [bound?, Option.some.injEq] at e2
      subst e2
      cases h1 with
      | none => simp only [bound?, Option.some.injEq] at e1; subst e1; simp [Instr.sliceBounds]
      | some h1 =>
        obtain ⟨k, rfl⟩ := nat_val e1 h1
        simp [Instr.sliceBounds, run_sliceBound_ok _ _ _ _ c1]
    | some h2 =>
      obtain ⟨k2, rfl⟩ := nat_val e2 h2
      cases h1 with
      | none => simp only [bound?, Option.some.injEq] at e1; subst e1; simp [Instr.sliceBounds, run_sliceBound_ok _ _ _ _ c2]
      | some h1 =>
        obtain ⟨k, rfl⟩ := nat_val e1 h1
        simp [Instr.sliceBounds, run_sliceBound_ok _ _ _ _ c1, run_sliceBound_ok _ _ _ _ c2]
  | some h3 =>
    obtain ⟨k3, rfl⟩ := nat_val e3 h3
    cases h2 with
    | none => simp at hx
    | some h2 =>
      obtain ⟨k2, rfl⟩ := nat_val e2 h2
      cases h1 with
      | none => simp only [bound?, Option.some.injEq] at e1; subst e1; simp [Instr.sliceBounds, run_sliceBound_ok _ _ _ _ c2, run_sliceBound_ok _ _ _ _ c3]
      | some h1 =>
        obtain ⟨k, rfl⟩ := nat_val e1 h1
        simp [Instr.sliceBounds, run_sliceBound_ok _ _ _ _ c1, run_sliceBound_ok _ _ _ _ c2, run_sliceBound_ok _ _ _ _ c3]
def aSlice (C : Ctx) (t : TypeId) (x : V) (lo hi mx : Option V) (h : H) : Option V :=
  if mx.isSome && hi.isNone then none else
  match C.ty.get t with
  | some ti => match ti.k with
    | .slc e => match C.ty.get e with
      | some te => match x with
        | .sl p esz i n cap => match bound? lo 0, bound? hi n, bound? mx n with
          | some l, some hh, some m =>
            if l ≤ hh ∧ hh ≤ n ∧ m ≤ n ∧ hh ≤ m ∧ esz = te.sz then some (.sl p esz (i + l) (hh - l) (if mx.isSome then some (m - l) else cap.map (· - l))) else none
          | _, _, _ => none
        | .list vs => match bound? lo 0, bound? hi vs.length, bound? mx vs.length with
          | some l, some hh, some m => if l ≤ hh ∧ hh ≤ vs.length ∧ hh ≤ m ∧ m ≤ vs.length ∧ (∀ v ∈ vs, v.size = te.sz) then
              (if mx.isSome ∧ m = l then some (.nl false) else some (.list ((vs.drop l).take (hh - l)))) else none
          | _, _, _ => none
        | .nl b => match bound? lo 0, bound? hi 0, bound? mx 0 with
          | some 0, some 0, some 0 => some (.nl b)
          | _, _, _ => none
        | _ => none
      | none => none
    | .arr len e => match C.ty.get e, x with
      | some te, .ptr p => match bound? lo 0, bound? hi len, bound? mx len with
        | some l, some hh, some m => if l ≤ hh ∧ hh ≤ m ∧ m ≤ len ∧ te.sz ≠ 0 then (match lookC h p with
            | some u => if u.size = len * te.sz then some (.sl p te.sz l (hh - l) (some (m - l))) else none
            | none => none) else none
        | _, _, _ => none
      | _, _ => none
    | .strg => match x with
      | .sc (.string s) => match bound? lo 0, bound? hi s.size, mx with
        | some l, some hh, none => if l ≤ hh ∧ hh ≤ s.size then some (.sc (.string (s.extract l hh))) else none
        | _, _, _ => none
      | _ => none
    | _ => none
  | none => none
theorem relL_drop {esz : Nat} : ∀ {vs : List V} {cs : List Value}, RelL F ρ vs cs → (∀ v ∈ vs, v.size = esz) → ∀ l, RelL F ρ (vs.drop l) (cs.drop (l * esz))
  | _, _, hr, hs, 0 => by simpa using hr
  | _, _, .nil, hs, l + 1 => by simpa using RelL.nil
  | _, _, .cons (v := v) (vs := vs) (c := c) (cs := cs) hn h hr, hs, l + 1 => by
    have e : (c ++ cs).drop ((l + 1) * esz) = cs.drop (l * esz) := by
      have hc : c.length = esz := by rw [h.length]; exact hs v (by simp)
      rw [List.drop_append, hc, List.drop_of_length_le (by rw [hc, Nat.succ_mul]; omega), List.nil_append]
      congr 1
      rw [Nat.succ_mul]; omega
    rw [e, List.drop_succ_cons]
    exact relL_drop hr (fun x hx => hs x (by simp [hx])) l
theorem relL_take {esz : Nat} : ∀ {vs : List V} {cs : List Value}, RelL F ρ vs cs → (∀ v ∈ vs, v.size = esz) → ∀ l, RelL F ρ (vs.take l) (cs.take (l * esz))
  | _, _, hr, hs, 0 => by simpa using RelL.nil
  | _, _, .nil, hs, l + 1 => by simpa using RelL.nil
  | _, _, .cons (v := v) (vs := vs) (c := c) (cs := cs) hn h hr, hs, l + 1 => by
    have e : (c ++ cs).take ((l + 1) * esz) = c ++ cs.take (l * esz) := by
      have hc : c.length = esz := by rw [h.length]; exact hs v (by simp)
      rw [List.take_append, hc, List.take_of_length_le (by rw [hc, Nat.succ_mul]; omega)]
      congr 2
      rw [Nat.succ_mul]; omega
    rw [e, List.take_succ_cons]
    exact .cons hn h (relL_take hr (fun x hx => hs x (by simp [hx])) l)
theorem list_rel {vs : List V} {bb off c esz : Nat} {cells : Array Value} {E : TypeId} {fz : Nat × Nat} {cs : List Value} {a : Addr} (ha : vs ≠ [] → a = ⟨bb, off, none⟩) (h : F bb = some (.cells cells E fz)) (hr : RelL F ρ vs cs) (hs : ∀ v ∈ vs, v.size = esz)
    (hin : ∀ (j : Nat) (u : Value), cs[j]? = some u → cells[off + j]? = some u) (hc : vs.length ≤ c) (n : Nat) (hn : n = vs.length) : RelV F ρ (.list vs) (.slice (some a) n c) := by
  subst hn
  by_cases e : vs = []
  · subst e; exact ⟨_, .listNil, rfl⟩
  · rw [ha e]; exact ⟨_, .list h hr hs hin hc, rfl⟩
theorem Sim.bound {p : Pt} {l : Loc} {u : V} (s : Sim F ρ h w) (hl : ρ p.b = some l) (hk : lookC h p = some u) : l.sh + p.off + u.size ≤ l.size ∨ u.size = 0 := by
  unfold lookC at hk
  split at hk
  · rename_i v fz hg
    split at hk
    · rename_i u' o hat
      split at hk
      · rename_i ho
        cases hk
        obtain ⟨obj, hobj, hok⟩ := s.blk _ _ _ hg hl
        cases hok with
        | cells hs hf hr hn hin =>
          obtain ⟨pre, ds, post, he, hpl, hrel, htup⟩ := Rel.at p.path hr hat
          by_cases hz : u.size = 0
          · exact .inr hz
          · left
            have hdl := hrel.length
            have hj : p.off + (u.size - 1) < pre.length + ds.length + post.length := by omega
            rename_i c E fz' cs
            have hj' : p.off + (u.size - 1) < cs.length := by rw [he]; simp; omega
            have := hin _ _ (List.getElem?_eq_getElem hj')
            have := (Array.getElem?_eq_some_iff.1 this).1
            omega
      · simp at hk
    · simp at hk
  · simp at hk
include hC in
theorem aSlice_sound {t : TypeId} {x y : V} {lo hi mx : Option V} {val : Value} {lv hv mv : Option Value} (he : aSlice C t x lo hi mx h = some y) (s : Sim F ρ h w) (hx : RelV F ρ x val)
    (h1 : RelO F ρ lo lv) (h2 : RelO F ρ hi hv) (h3 : RelO F ρ mx mv) : ∃ z, (Instr.sliceAt t val lv hv mv).run P w = .ok z w ∧ RelV F ρ y z := by
  unfold aSlice at he
  split at he
  · simp at he
  · rename_i hmx
    have hmx' : mx.isSome = true → hi.isSome = true := by
      intro hm
      cases hi with
      | none => simp [hm] at hmx
      | some _ => rfl
    split at he
    · rename_i ti ht
      obtain ⟨i, d, z, g1, g2, g3, g4, g5, _⟩ := (hC.ty _ _ ht).ok
      split at he
      · rename_i e hk
        rw [hk] at g5
        cases d <;> simp only [kindOk] at g5
        subst g5
        split at he
        · rename_i te hte
          have hsz := fun w => (hC.ty _ _ hte).size w
          have hrun : ∀ (a : Option Addr) (len cap l hh m : Nat), (Instr.sliceBounds true len cap lv hv mv).run P w = .ok (l, hh, m) w →
              (Instr.sliceAt t (.slice a len cap) lv hv mv).run P w = .ok (.slice (if m = l then a else a.map (·.add (l * te.sz))) (hh - l) (m - l)) w := fun a len cap l hh m hb => by
            simp only [Instr.sliceAt, Instr.slice, Sem.run_bind, run_underlying g2, Result.andThen_ok, hb, hsz, Sem.run_pure]
          split at he
          · rename_i p esz i0 n cap
            split at he
            · rename_i l hh m e1 e2 e3
              split at he
              · rename_i hc
                obtain ⟨c1, c2, c3, c4, rfl⟩ := hc
                cases he
                obtain ⟨cs, hr, rfl⟩ := hx
                cases hr with
                | sl hl ha hn hcap =>
                  rename_i c l' a
                  -- the bound of the capacity is the model's
                  have key : ∃ m', bound? mx c = some m' ∧ hh ≤ m' ∧ m' ≤ c ∧ (mx.isSome = true → m' = m) ∧ (mx.isSome = false → m' = c) := by
                    cases mx with
                    | none => exact ⟨c, rfl, by omega, Nat.le_refl _, by simp, by simp⟩
                    | some v => exact ⟨m, e3, c4, by omega, by simp, by simp⟩
                  obtain ⟨m', e3', k1, k2, k3, k4⟩ := key
                  have hb := run_sliceBounds_ok (P := P) true h1 h2 h3 e1 e2 e3' hmx' c1 k1 k2 w
                  refine ⟨_, hrun (some a) n c l hh m' hb, ?_⟩
                  have hcap' : ∀ k, (if mx.isSome then some (m - l) else cap.map (· - l)) = some k → m' - l = k := by
                    intro k hk
                    cases hm : mx.isSome with
                    | true => simp [hm] at hk; rw [k3 hm]; exact hk
                    | false =>
                      simp only [hm, Bool.false_eq_true, if_false, Option.map_eq_some_iff] at hk
                      obtain ⟨q, hq, rfl⟩ := hk
                      rw [k4 hm, hcap q hq]
                  by_cases hml : m' = l
                  · simp only [hml, if_true]
                    exact ⟨_, .sl hl (.inr ⟨by omega, by omega⟩) (by omega) (by rw [← hml] at hcap' ⊢; exact hcap'), rfl⟩
                  · simp only [hml, if_false, Option.map_some]
                    rcases ha with ⟨rfl, hroom⟩ | ⟨hz, hz'⟩
                    · refine ⟨_, .sl hl (.inl ⟨?_, ?_⟩) (by omega) hcap', rfl⟩
                      · rw [Addr.add_mid, Nat.add_mul]; congr 1; omega
                      · have : (i0 + l + (m' - l)) * te.sz ≤ (i0 + c) * te.sz := Nat.mul_le_mul_right _ (by omega)
                        omega
                    · omega
              · simp at he
            · simp at he
          · rename_i vs
            split at he
            · rename_i l hh m e1 e2 e3
              split at he
              · rename_i hc
                obtain ⟨c1, c2, c3, c4, c5⟩ := hc
                obtain ⟨cs, hr, rfl⟩ := hx
                have key : ∀ c, vs.length ≤ c → ∃ m', bound? mx c = some m' ∧ hh ≤ m' ∧ m' ≤ c ∧ (mx.isSome = true → m' = m) := by
                  intro c hcc
                  cases mx with
                  | none => exact ⟨c, rfl, by omega, Nat.le_refl _, by simp⟩
                  | some v => exact ⟨m, e3, c3, by omega, by simp⟩
                cases hr with
                | listNil =>
                  rename_i a c
                  obtain ⟨m', e3', k1, k2, k3⟩ := key c (by simp)
                  have hb := run_sliceBounds_ok (P := P) true h1 h2 h3 e1 e2 e3' hmx' c1 k1 k2 w
                  refine ⟨_, hrun a 0 c l hh m' hb, ?_⟩
                  have hl0 : l = 0 := by simp at c2; omega
                  have hh0 : hh = 0 := by simpa using c2
                  subst hl0; subst hh0
                  split at he
                  · rename_i hq; cases he
                    have : m' = 0 := by rw [k3 hq.1, hq.2]
                    subst this; exact ⟨_, .nl (a := some a) rfl, by simp [V.pack]⟩
                  · cases he; simp; exact ⟨_, .listNil (a := if m' = 0 then a else a.add 0), by split <;> rfl⟩
                | list h' hr hs hin hcc =>
                  rename_i bb off c esz cells E fz cs
                  obtain ⟨m', e3', k1, k2, k3⟩ := key c hcc
                  have hb := run_sliceBounds_ok (P := P) true h1 h2 h3 e1 e2 e3' hmx' c1 k1 k2 w
                  refine ⟨_, hrun _ vs.length c l hh m' hb, ?_⟩
                  split at he
                  · rename_i hq; cases he
                    have : m' = l := by rw [k3 hq.1, hq.2]
                    have : hh - l = 0 := by omega
                    rw [this]
                    subst m'
                    simp only [if_true, Nat.sub_self]
                    exact ⟨_, .nl rfl, rfl⟩
                  · cases he
                    have hd := relL_take (relL_drop hr hs l) (fun v hv => hs v (List.mem_of_mem_drop hv)) (hh - l)
                    have hlen : ((vs.drop l).take (hh - l)).length = hh - l := by simp; omega
                    by_cases hne : (vs.drop l).take (hh - l) = []
                    · rw [hne] at hlen ⊢
                      simp only [List.length_nil] at hlen
                      rw [← hlen]; exact ⟨_, .listNil (a := if m' = l then ⟨bb, off, none⟩ else (⟨bb, off, none⟩ : Addr).add (l * te.sz)), by split <;> rfl⟩
                    · have hpos : 0 < hh - l := by
                        rcases Nat.eq_zero_or_pos (hh - l) with hz | hp
                        · rw [hz] at hne; simp at hne
                        · exact hp
                      have hml : m' ≠ l := by omega
                      obtain ⟨v0, hv0⟩ := List.exists_mem_of_ne_nil _ hne
                      have hesz : esz = te.sz := by
                        have hm : v0 ∈ vs := List.mem_of_mem_drop (List.mem_of_mem_take hv0)
                        rw [← hs v0 hm, c5 v0 hm]
                      simp only [hml, if_false, Option.map_some]
                      refine list_rel (off := off + l * te.sz) (esz := esz) (fun _ => by rw [Addr.add_mid]) h' hd (fun v hv => hs v (List.mem_of_mem_drop (List.mem_of_mem_take hv))) (fun j u hu => ?_) (by rw [hlen]; omega) _ hlen.symm
                      have hj : j < ((cs.drop (l * esz)).take ((hh - l) * esz)).length := (List.getElem?_eq_some_iff.1 hu).1
                      rw [List.getElem?_take_of_lt (by simp at hj; omega), List.getElem?_drop] at hu
                      rw [Nat.add_assoc, ← hesz]
                      exact hin _ _ hu
              · simp at he
            · simp at he
          · split at he
            · rename_i e1 e2 e3
              cases he
              obtain ⟨cs, hr, rfl⟩ := hx
              cases hr with
              | nl hnl =>
                rename_i a
                have hb := run_sliceBounds_ok (P := P) (len := 0) (cap := 0) true h1 h2 h3 e1 e2 e3 hmx' (Nat.le_refl _) (Nat.le_refl _) (Nat.le_refl _) w
                exact ⟨_, hrun a 0 0 0 0 0 hb, _, .nl (a := a) hnl, by simp [V.pack]⟩
            · simp at he
          · simp at he
        · simp at he
      · rename_i len e hk
        rw [hk] at g5
        cases d <;> simp only [kindOk] at g5
        obtain ⟨rfl, rfl⟩ := g5
        split at he
        · rename_i te p hte
          have hsz := fun w => (hC.ty _ _ hte).size w
          split at he
          · rename_i l hh m e1 e2 e3
            split at he
            · rename_i hc
              obtain ⟨c1, c2, c3, c4⟩ := hc
              obtain ⟨u, hlook, husz, rfl⟩ : ∃ u, lookC h p = some u ∧ u.size = len * te.sz ∧ .sl p te.sz l (hh - l) (some (m - l)) = y := by
                split at he
                · rename_i u hlook
                  split at he
                  · rename_i husz
                    exact ⟨u, hlook, husz, Option.some.inj he⟩
                  · simp at he
                · simp at he
              obtain ⟨l', hl, rfl⟩ := ptr_val hx
              have hb := run_sliceBounds_ok (P := P) false h1 h2 h3 e1 e2 e3 hmx' c1 c2 c3 w
              have hrun : (Instr.sliceAt t (.pointer (some ⟨l'.bb, l'.sh + p.off, none⟩)) lv hv mv).run P w = .ok (.slice (some (if m = l then ⟨l'.bb, l'.sh + p.off, none⟩ else (⟨l'.bb, l'.sh + p.off, none⟩ : Addr).add (l * te.sz))) (hh - l) (m - l)) w := by
                simp only [Instr.sliceAt, Instr.sureAddr, Sem.run_bind, run_underlying g2, Result.andThen_ok, hb, hsz, Sem.run_pure]
              refine ⟨_, hrun, ?_⟩
              by_cases hml : m = l
              · simp only [hml, if_true, Nat.sub_self]
                exact ⟨_, .sl hl (.inr ⟨by omega, rfl⟩) (by omega) (by intro k hk; simp only [Option.some.injEq] at hk; omega), rfl⟩
              · simp only [hml, if_false]
                have hbd := s.bound hl hlook
                rw [Addr.add_mid]
                refine ⟨_, .sl hl (.inl ⟨rfl, ?_⟩) (by omega) (by simp), rfl⟩
                have : (l + (m - l)) * te.sz ≤ len * te.sz := Nat.mul_le_mul_right _ (by omega)
                rcases hbd with hb' | hb'
                · omega
                · rw [husz] at hb'
                  rcases Nat.mul_eq_zero.1 hb' with hq | hq
                  · omega
                  · exact absurd hq c4
            · simp at he
          · simp at he
        · simp at he
      · rename_i hk
        rw [hk] at g5
        cases d <;> simp only [kindOk] at g5
        split at he
        · rename_i str
          split at he
          · rename_i l hh e1 e2
            split at he
            · rename_i hc
              cases he
              obtain ⟨rfl, _⟩ := sc_val hx
              cases h3
              have hb := run_sliceBounds_ok (P := P) (len := str.size) (cap := str.size) false h1 h2 .none e1 e2 rfl (by simp) hc.1 hc.2 (Nat.le_refl _) w
              exact ⟨_, by simp only [Instr.sliceAt, Instr.slice, Sem.run_bind, run_underlying g2, Result.andThen_ok, hb, Sem.run_pure, Option.isSome_none, Bool.false_eq_true, if_false], sc_rel rfl⟩
            · simp at he
          · simp at he
        · simp at he
      · simp at he
    · simp at he
end
end Go.A
