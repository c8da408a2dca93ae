/- The abstract heap, its relation to the model's world, what is known of types and functions. -/
import Derived.Test.YtgekgcffmmbhbaaGreatA1
set_option linter.unusedVariables false
set_option linter.unusedSimpArgs false
noncomputable section
namespace Go.A
open Go

inductive Blk where
  | cells (v : V) (frozen : Bool)
  | map (es : List (V × V × Nat)) (clock : Nat)
  | it (m : Nat) (since : Nat) (seen : List Nat) (last : Nat)
  | dead
def Blk.writable : Blk → Bool
  | .cells _ fz => !fz
  | .map _ _ => true
  | .it _ _ _ _ => true
  | .dead => false
structure H where
  next : Nat
  lo : Nat
  m : Tr Blk
def H.get (h : H) (b : Nat) : Option Blk :=
  match h.m.get b with
  | some .dead => none
  | x => x
def H.set (h : H) (b : Nat) (x : Blk) : H := { h with m := h.m.set b x }
def H.push (h : H) (x : Blk) : H := { h with next := h.next + 1, m := h.m.set h.next x }
theorem H.get_set (h : H) (b c : Nat) (x : Blk) : (h.set b x).get c = if c = b then (match x with | .dead => none | x => some x) else h.get c := by
  unfold H.get H.set
  simp only [Tr.get_set]
  by_cases e : c = b
  · simp only [e, if_true]; cases x <;> rfl
  · simp only [e, if_false]
theorem H.get_push (h : H) (c : Nat) (x : Blk) : (h.push x).get c = if c = h.next then (match x with | .dead => none | x => some x) else h.get c := by
  unfold H.get H.push
  simp only [Tr.get_set]
  by_cases e : c = h.next
  · simp only [e, if_true]; cases x <;> rfl
  · simp only [e, if_false]

/-- No cell of the row is frozen; marks may stand behind it. -/
def noFz (fz : Nat × Nat) (n : Nat) : Prop := fz.1 = fz.2 ∨ n ≤ fz.1
theorem noFz.at_ {fz : Nat × Nat} {n : Nat} (h : noFz fz n) (j : Nat) (hj : j < n) : (decide (fz.1 ≤ j) && decide (j < fz.2)) = false := by
  rcases h with h | h
  · by_cases e : fz.1 ≤ j
    · have : ¬ j < fz.2 := by omega
      simp [this]
    · simp [e]
  · have : ¬ fz.1 ≤ j := by omega
    simp [this]
inductive EntsOk (F : Frz) (ρ : Ren) : List (V × V × Nat) → List MapEntry → Prop
  | nil : EntsOk F ρ [] []
  | cons {k v : V} {n : Nat} {es : List (V × V × Nat)} {e : MapEntry} {ents : List MapEntry} (hk : RelV F ρ k e.key) (hv : RelV F ρ v e.val) (hb : e.born = n) (hs : EntsOk F ρ es ents) : EntsOk F ρ ((k, v, n) :: es) (e :: ents)
theorem EntsOk.wmono {F ρ F' ρ'} (e : WExt F ρ F' ρ') : ∀ {es ents}, EntsOk F ρ es ents → EntsOk F' ρ' es ents
  | _, _, .nil => .nil
  | _, _, .cons hk hv hb hs => .cons (hk.wmono e) (hv.wmono e) hb (EntsOk.wmono e hs)
inductive ObjOk (F : Frz) (ρ : Ren) : Blk → Loc → Obj → Prop
  | cells {v : V} {b : Bool} {l : Loc} {c : Array Value} {E : TypeId} {fz : Nat × Nat} {cs : List Value} (hs : c.size = l.size) (hf : noFz fz c.size) (hr : Rel F ρ v cs) (hn : v.isTup = false)
      (hin : ∀ (j : Nat) (u : Value), cs[j]? = some u → c[l.sh + j]? = some u) : ObjOk F ρ (.cells v b) l (.cells c E fz)
  | map {es : List (V × V × Nat)} {clock : Nat} {l : Loc} {ents : Array MapEntry} (he : EntsOk F ρ es ents.toList) : ObjOk F ρ (.map es clock) l (.map ents clock)
  | it {m since last : Nat} {seen : List Nat} {l lm : Loc} (hm : ρ m = some lm) (hs : l.sh = 0) : ObjOk F ρ (.it m since seen last) l (.mapIter (some lm.bb) since seen.toArray last)
theorem ObjOk.wmono {F ρ F' ρ'} (e : WExt F ρ F' ρ') {x l o} (h : ObjOk F ρ x l o) : ObjOk F' ρ' x l o := by
  cases h with
  | cells hs hf hr hn hin => exact .cells hs hf (hr.wmono e) hn hin
  | map he => exact .map (he.wmono e)
  | it hm hs => exact .it (e.r _ _ hm) hs
theorem ObjOk.mono {F ρ F' ρ'} (e : Ext F ρ F' ρ') {x l o} (h : ObjOk F ρ x l o) : ObjOk F' ρ' x l o := h.wmono e.w

/-- What lies outside the heap: nothing here turns it. -/
class Outer where
  os : Os
  out : Array (Nat × ByteArray)
variable [Outer]
def SameIo (w w' : World) : Prop := w'.os = w.os ∧ w'.output = w.output
structure Sim (F : Frz) (ρ : Ren) (h : H) (w : World) : Prop where
  frz : ∀ n o, F n = some o → w.heap[n]? = some o
  dom : ∀ b l, ρ b = some l → b < h.next
  blk : ∀ b x l, h.get b = some x → ρ b = some l → ∃ o, w.heap[l.bb]? = some o ∧ ObjOk F ρ x l o
  inj : ∀ b b' l l' x x', ρ b = some l → ρ b' = some l' → h.get b = some x → h.get b' = some x' → l.bb = l'.bb → b = b'
  live : ∀ b x l, h.get b = some x → ρ b = some l → x.writable = true → F l.bb = none
  nx : ρ.nx ≤ h.next
  io : w.os = Outer.os ∧ w.output = Outer.out
theorem Sim.same {F ρ h w w'} (s : Sim F ρ h w) (e : SameIo w w') : w'.os = Outer.os ∧ w'.output = Outer.out := ⟨e.1.trans s.io.1, e.2.trans s.io.2⟩

theorem Sim.heap_eq {F ρ h w w'} (s : Sim F ρ h w) (e : w'.heap = w.heap) (eio : SameIo w w' := by exact ⟨rfl, rfl⟩) : Sim F ρ h w' :=
  ⟨fun n o x => by rw [e]; exact s.frz n o x, s.dom, fun b x l hx hl => by rw [e]; exact s.blk b x l hx hl, s.inj, s.live, s.nx, s.same eio⟩

/-- A writable block is written. -/
theorem Sim.put {F ρ h w w'} (s : Sim F ρ h w) {b : Nat} {x x' : Blk} {l : Loc} {o : Obj} (hx : h.get b = some x) (hl : ρ b = some l) (hw : x.writable = true)
    (h1 : ∀ n, n ≠ l.bb → w'.heap[n]? = w.heap[n]?) (h2 : w'.heap[l.bb]? = some o) (h3 : ObjOk F ρ x' l o) (hw' : x'.writable = true) (hd : x' ≠ .dead) (eio : SameIo w w' := by exact ⟨rfl, rfl⟩) : Sim F ρ (h.set b x') w' := by
  have hg : ∀ c y, (h.set b x').get c = some y → (c = b ∧ y = x') ∨ (c ≠ b ∧ h.get c = some y) := by
    intro c y hy
    rw [H.get_set] at hy
    by_cases e : c = b
    · simp only [e, if_true] at hy
      cases x' <;> simp_all
    · simp only [e, if_false] at hy; exact .inr ⟨e, hy⟩
  have hsome : ∀ c y, (h.set b x').get c = some y → ∃ y', h.get c = some y' := by
    intro c y hy
    rcases hg c y hy with ⟨rfl, _⟩ | ⟨_, h'⟩
    · exact ⟨x, hx⟩
    · exact ⟨y, h'⟩
  refine ⟨fun n o' hn => ?_, s.dom, fun c y l' hy hl' => ?_, fun c c' l1 l2 y y' hl1 hl2 hy hy' he => ?_, fun c y l' hy hl' hwr => ?_, s.nx, s.same eio⟩
  · have : n ≠ l.bb := by
      rintro rfl
      have := s.live b x l hx hl hw
      rw [this] at hn; cases hn
    rw [h1 n this]; exact s.frz n o' hn
  · rcases hg c y hy with ⟨rfl, rfl⟩ | ⟨hne, hy'⟩
    · rw [hl] at hl'; cases hl'
      exact ⟨o, h2, h3⟩
    · obtain ⟨o', ho', hk⟩ := s.blk c y l' hy' hl'
      have : l'.bb ≠ l.bb := fun he => hne (s.inj c b l' l y x hl' hl hy' hx he)
      exact ⟨o', by rw [h1 _ this]; exact ho', hk⟩
  · obtain ⟨z, hz⟩ := hsome c y hy
    obtain ⟨z', hz'⟩ := hsome c' y' hy'
    exact s.inj c c' l1 l2 z z' hl1 hl2 hz hz' he
  · rcases hg c y hy with ⟨rfl, rfl⟩ | ⟨hne, hy'⟩
    · rw [hl] at hl'; cases hl'
      exact s.live c x l hx hl hw
    · exact s.live c y l' hy' hl' hwr

/-- A block is made. -/
theorem Sim.push {F ρ h w w'} (s : Sim F ρ h w) {x : Blk} {o : Obj} {l : Loc} (hb : l.bb = w.heap.size) (h1 : ∀ n, n < w.heap.size → w'.heap[n]? = w.heap[n]?) (h2 : w'.heap[w.heap.size]? = some o)
    (h3 : ObjOk F ρ x l o) (hd : x ≠ .dead) (eio : SameIo w w' := by exact ⟨rfl, rfl⟩) :
    Ext F ρ F ⟨fun b => if b = h.next then some l else ρ b, ρ.nx⟩ ∧ Sim F ⟨fun b => if b = h.next then some l else ρ b, ρ.nx⟩ (h.push x) w' := by
  have he : Ext F ρ F ⟨fun b => if b = h.next then some l else ρ b, ρ.nx⟩ := ⟨fun _ _ hh => hh, fun b l' hl' => by
    have := s.dom b l' hl'
    simp only [show b ≠ h.next by omega, if_false]; exact hl', Nat.le_refl _, fun b hb => by
    have := s.nx
    simp only [show b ≠ h.next by omega, if_false]⟩
  have hF : ∀ n o, F n = some o → n < w.heap.size := fun n o hn => (Array.getElem?_eq_some_iff.1 (s.frz n o hn)).1
  have hg : ∀ c y, (h.push x).get c = some y → (c = h.next ∧ y = x) ∨ (c ≠ h.next ∧ h.get c = some y) := by
    intro c y hy
    rw [H.get_push] at hy
    by_cases e : c = h.next
    · simp only [e, if_true] at hy
      cases x <;> simp_all
    · simp only [e, if_false] at hy; exact .inr ⟨e, hy⟩
  have hlt : ∀ c y l', h.get c = some y → ρ c = some l' → l'.bb < w.heap.size := fun c y l' hy hl' => by
    obtain ⟨o', ho', _⟩ := s.blk c y l' hy hl'
    exact (Array.getElem?_eq_some_iff.1 ho').1
  refine ⟨he, ⟨fun n o' hn => ?_, fun b l' hl' => ?_, fun c y l' hy hl' => ?_, fun c c' l1 l2 y y' hl1 hl2 hy hy' hbb => ?_, fun c y l' hy hl' hwr => ?_, Nat.le_succ_of_le s.nx, s.same eio⟩⟩
  · rw [h1 n (hF n o' hn)]; exact s.frz n o' hn
  · show b < h.next + 1
    by_cases e : b = h.next
    · omega
    · simp only [e, if_false] at hl'; have := s.dom b l' hl'; omega
  · rcases hg c y hy with ⟨rfl, rfl⟩ | ⟨hne, hy'⟩
    · simp only [if_true, Option.some.injEq] at hl'; subst hl'
      exact ⟨o, by rw [hb]; exact h2, h3.mono he⟩
    · simp only [hne, if_false] at hl'
      obtain ⟨o', ho', hk⟩ := s.blk c y l' hy' hl'
      exact ⟨o', by rw [h1 _ (hlt c y l' hy' hl')]; exact ho', hk.mono he⟩
  · rcases hg c y hy with ⟨rfl, rfl⟩ | ⟨hne, hy1⟩ <;> rcases hg c' y' hy' with ⟨rfl, rfl⟩ | ⟨hne', hy1'⟩
    · rfl
    · simp only [if_true, Option.some.injEq] at hl1; subst hl1
      simp only [hne', if_false] at hl2
      have := hlt _ _ _ hy1' hl2; omega
    · simp only [if_true, Option.some.injEq] at hl2; subst hl2
      simp only [hne, if_false] at hl1
      have := hlt _ _ _ hy1 hl1; omega
    · simp only [hne, if_false] at hl1
      simp only [hne', if_false] at hl2
      exact s.inj c c' l1 l2 y y' hl1 hl2 hy1 hy1' hbb
  · rcases hg c y hy with ⟨rfl, rfl⟩ | ⟨hne, hy'⟩
    · simp only [if_true, Option.some.injEq] at hl'; subst hl'
      cases hq : F l.bb with
      | none => rfl
      | some o' => have := hF _ _ hq; omega
    · simp only [hne, if_false] at hl'
      exact s.live c y l' hy' hl' hwr

/-! ### What is known of types -/
inductive TK where
  | other
  | int (k : IntKind)
  | bool
  | strg
  | str (fs : List (Nat × Nat × Bool × Nat))
  | arr (n e : Nat)
  | slc (e : Nat)
  | ptr (e : Nat)
  | ifc
  | map (k e : Nat)
structure TI where
  k : TK
  sz : Nat
  bytes : Nat
  zero : V
  eq : Bool
def TI.isAgg (t : TI) : Bool :=
  match t.k with
  | .str _ | .arr _ _ => true
  | _ => false
def aggD : TypeDesc → Bool
  | .struct _ | .array _ _ => true
  | _ => false
def kindOk (P : Program) : TK → TypeDesc → Prop
  | .int k, .int k' => k = k'
  | .bool, .bool => True
  | .strg, .string => True
  | .str fs, .struct fields => (fs = fields.toList.map fun f => (f.offset, P.cellsOf f.type, ((P.underlying f.type).map aggD).getD false, f.type)) ∧
      (fields.toList.mapM fun f => (P.info? f.type).map fun i => (f.offset, i.size)) = some (fs.map fun x => (x.1, x.2.1)) ∧ (fields.toList.all fun f => (P.underlying f.type).isSome) = true
  | .arr n e, .array n' e' => n = n' ∧ e = e'
  | .slc e, .slice e' => e = e'
  | .ptr e, .pointer e' => e = e'
  | .ifc, .interface _ => True
  | .map k e, .map k' e' => k = k' ∧ e = e'
  | .other, .func _ _ _ => True
  | _, _ => False
def eqOk (P : Program) (t : TypeId) : Bool :=
  !P.eqGuardType P.depth t && !P.stoodInHeld t && (match P.underlying t with
    | some (.struct fs) => fs.toList.all fun f => f.name != "_"
    | _ => true)
structure TIOk (P : Program) (t : TypeId) (ti : TI) : Prop where
  eqs : ti.eq = true → eqOk P t = true
  ok : ∃ i d z, P.info? t = some i ∧ P.underlying t = some d ∧ i.size = ti.sz ∧ i.bytes = ti.bytes ∧ kindOk P ti.k d ∧ i.zero = some z ∧ (∀ F ρ, RelV F ρ ti.zero z) ∧ ti.zero.isTup = false ∧ ti.zero.isAgg = ti.isAgg ∧ ti.zero.size = ti.sz
inductive Pol where
  | pure | std | raw | dfr | sorted
  deriving DecidableEq
structure Ctx where
  ty : Tr TI
  fn : Tr Func
  meth : Tr (List (String × FuncId))
  plan : Tr (Tr (List (Nat × Nat × Nat)))
  pol : Tr Pol
  frz : Tr (Tr Bool)
  ext : Tr Nat
structure FnOk (P : Program) (f : FuncId) (fn : Func) : Prop where
  at_ : P.funcs[f]? = some fn
  body : fn.body.isSome = true
  name : (fn.name == "runtime.NumGoroutine") = false
/-- The library's own comparison of bytes. -/
def ExtOk (P : Program) (k : FuncId) (n : Nat) : Prop := n = 1 → ∀ (args : Array Value) (w : World), (callFunc k args).run P w = ((Extern.BytealgCompare.compare args).run P w).andThen fun v w' => .ok (.value v) w'
/-- A method of values of the type t. -/
def MethOk (P : Program) (t : TypeId) (m : String) (f : FuncId) : Prop :=
  ∃ i row d, P.info? t = some i ∧ i.methods.find? (·.name == m) = some row ∧ row.path = #[] ∧ row.func = some (f, false) ∧ P.underlying t = some d ∧ ∀ e, d ≠ .pointer e
structure CtxOk (P : Program) (C : Ctx) : Prop where
  ext : ∀ k n, C.ext.get k = some n → ExtOk P k n
  meth : ∀ t ms m f, C.meth.get t = some ms → ms.lookup m = some f → MethOk P t m f
  ty : ∀ t ti, C.ty.get t = some ti → TIOk P t ti
  fn : ∀ f fn, C.fn.get f = some fn → FnOk P f fn
  mixed : P.follows .mixedOrders = true
end Go.A
