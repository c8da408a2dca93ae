/- More operations, as the evaluator has them. -/
import Derived.Test.YtgekgcffmmbhbaaGreatA26
import Derived.Lib.BytesEntry
set_option linter.unusedVariables false
set_option linter.unusedSimpArgs false
noncomputable section
namespace Go.A
open Go
set_option linter.unusedSectionVars false
variable [Outer]
section
variable {P : Program} {C : Ctx} (hC : CtxOk P C) {F : Frz} {ρ : Ren} {h : H} {w : World}
def aLen (C : Ctx) (t : TypeId) (x : V) : Option V :=
  match C.ty.get t with
  | some ti => match ti.k, x with
    | .slc _, .nl _ => some (.sc (.int .i64 0))
    | .slc _, .sl _ _ _ n _ => some (.sc (.int .i64 n))
    | .slc _, .list vs => some (.sc (.int .i64 vs.length))
    | .strg, .sc (.string s) => some (.sc (.int .i64 s.size))
    | _, _ => none
  | none => none
theorem aLen_sound {t ty : TypeId} {x z : V} {xv : Value} (hC : CtxOk P C) (he : aLen C t x = some z) (hx : RelV F ρ x xv) : ∃ v, (Builtin.len_ #[t] ty #[xv]).run P w = .ok v w ∧ RelV F ρ z v := by
  unfold aLen at he
  split at he
  · rename_i ti ht
    obtain ⟨d, _, hu, _, _, _, hk⟩ := (hC.ty _ _ ht).agg
    split at he <;> first | (simp at he; done) | (rename_i hkk; rw [hkk] at hk; cases d <;> simp only [kindOk] at hk; cases he)
    · obtain ⟨cs, hr, rfl⟩ := hx; cases hr
      exact ⟨_, by simp [Builtin.len_, run_underlying hu, V.pack, goInt], sc_rel rfl⟩
    · obtain ⟨cs, hr, rfl⟩ := hx; cases hr
      exact ⟨_, by simp [Builtin.len_, run_underlying hu, V.pack, goInt], sc_rel rfl⟩
    · obtain ⟨cs, hr, rfl⟩ := hx; cases hr
      · exact ⟨_, by simp [Builtin.len_, run_underlying hu, V.pack, goInt], sc_rel rfl⟩
      · exact ⟨_, by simp [Builtin.len_, run_underlying hu, V.pack, goInt], sc_rel rfl⟩
    · obtain ⟨rfl, _⟩ := sc_val hx
      exact ⟨_, by simp [Builtin.len_, run_underlying hu, goInt], sc_rel rfl⟩
  · simp at he
/-- What the model does at such an operation. -/
def Does (P : Program) (F : Frz) (ρ : Ren) (h' : H) (o : Oper) (a : Act) (w : World) : OR → Prop
  | .v x => ∃ v w' F' ρ', (execOp a.eval o).run P w = .ok (.value v) w' ∧ Ext F ρ F' ρ' ∧ Sim F' ρ' h' w' ∧ RelV F' ρ' x v
  | .skip => ∃ w' F' ρ', (execOp a.eval o).run P w = .ok .skip w' ∧ Ext F ρ F' ρ' ∧ Sim F' ρ' h' w'
  | .call f vs => ∃ xs : List Value, (execOp a.eval o).run P w = .ok (.enter f xs.toArray) w ∧ Sim F ρ h' w ∧ RelTs F ρ vs xs ∧ ∃ fn, C.fn.get f = some fn
/-! ### the library's own, and methods -/
def byteOfV : V → Option Int
  | .sc (.int .u8 n) => some n
  | _ => none
def bytesOfV : List V → Option (List Int)
  | [] => some []
  | v :: vs => match byteOfV v, bytesOfV vs with
    | some n, some ns => some (n :: ns)
    | _, _ => none
theorem bytesOfV_cells : ∀ {vs : List V} {ns : List Int} {cs : List Value}, bytesOfV vs = some ns → RelL F ρ vs cs → cs = ns.map fun n => Value.int .u8 n
  | [], ns, cs, he, hr => by
    cases hr
    simp only [bytesOfV, Option.some.injEq] at he; subst he; rfl
  | v :: vs, ns, cs, he, hr => by
    cases hr with
    | cons hn h hs =>
      simp only [bytesOfV] at he
      split at he
      · rename_i n ns' h1 h2
        cases he
        have ih := bytesOfV_cells h2 hs
        unfold byteOfV at h1
        split at h1
        · cases h1
          cases h
          rw [ih]; rfl
        · simp at h1
      · simp at he
theorem run_bytesOfV {x : V} {xs : List V} {ns : List Int} {xv : Value} (he : aElems x 1 h = some xs) (hb : bytesOfV xs = some ns) (s : Sim F ρ h w) (hx : RelV F ρ x xv) (hl : (lenOfV x).isSome = true) :
    (Extern.Bytes.bytesOf xv).run P w = .ok ⟨(Lib.bytesOf ns).toArray⟩ w := by
  obtain ⟨cs, hrow⟩ := aElems_sound he s hx
  obtain ⟨n, hn⟩ := Option.isSome_iff_exists.1 hl
  obtain ⟨a0, c0, hv⟩ := lenOfV_sound hn hx
  have hcs := bytesOfV_cells hb hrow.rel
  rcases hrow.val with ⟨a, c, hv', hcell⟩ | ⟨st, hv', _⟩
  · have hlen : ns.length = xs.length := by
      have := hrow.len
      rw [hcs] at this
      simpa using this
    rw [hv']
    cases a with
    | none =>
      have : cs = [] := by
        cases hq : cs with
        | nil => rfl
        | cons u r => obtain ⟨b, hb', _⟩ := hcell 0 u (by rw [hq]; rfl); cases hb'
      rw [hcs] at this
      have : ns = [] := by simpa using this
      subst this
      rfl
    | some b =>
      have := Lib.run_loadBytesX (P := P) w ns b .empty (fun j x hj => by
        obtain ⟨b', hb', hc⟩ := hcell j (.int .u8 x) (by rw [hcs, List.getElem?_map, hj]; rfl)
        cases hb'; exact hc)
      rw [← hlen]
      simp only [Extern.Bytes.bytesOf, this]
      congr 1
      apply ByteArray.ext
      show (#[] : Array UInt8) ++ (Lib.bytesOf ns).toArray = (Lib.bytesOf ns).toArray
      simp
  · rw [hv] at hv'; cases hv'
def aExt (C : Ctx) (g : V) (vs : List V) (h : H) : Option V :=
  match g, vs with
  | .sc (.func (.func k) _ _), [a, b] => match C.ext.get k with
    | some 1 => match aElems a 1 h, aElems b 1 h, lenOfV a, lenOfV b with
      | some xs, some ys, some _, some _ => match bytesOfV xs, bytesOfV ys with
        | some ns, some ms => some (.sc (.int .i64 (Lib.compareBytes (Lib.bytesOf ns) (Lib.bytesOf ms))))
        | _, _ => none
      | _, _, _, _ => none
    | _ => none
  | _, _ => none
include hC in
theorem aExt_sound {g z : V} {gv : Value} {vs : List V} {xs : List Value} (he : aExt C g vs h = some z) (s : Sim F ρ h w) (hg : RelV F ρ g gv) (hx : RelTs F ρ vs xs) :
    ∃ v, ((do let d ← Deferred.ofValue gv xs.toArray; invoke d.target d.args) : Sem Next).run P w = .ok (.value v) w ∧ RelV F ρ z v := by
  unfold aExt at he
  split at he
  · rename_i k c1 c2 a b
    split at he
    · rename_i hext
      split at he
      · rename_i as bs la lb ha hb hla hlb
        split at he
        · rename_i ns ms hns hms
          cases he
          obtain ⟨rfl, hs⟩ := sc_val hg
          simp only [scalar, Bool.and_eq_true, Array.isEmpty_iff] at hs
          obtain ⟨rfl, rfl⟩ := hs
          cases hx with
          | cons h1 hx => cases hx with
            | cons h2 hx =>
              cases hx
              rename_i ca cb
              have g1 := run_bytesOfV (P := P) ha hns s ⟨_, h1, rfl⟩ (by simp [hla])
              have g2 := run_bytesOfV (P := P) hb hms s ⟨_, h2, rfl⟩ (by simp [hlb])
              refine ⟨_, ?_, sc_rel rfl⟩
              have hk := hC.ext k 1 hext rfl
              simp only [Deferred.ofValue, invoke, Sem.run_bind, Sem.run_pure, Result.andThen_ok]
              simp only [Array.empty_append, Array.append_empty, hk]
              have hcmp : (Extern.BytealgCompare.compare #[V.pack a ca, V.pack b cb]).run P w = .ok (goInt (Extern.BytealgCompare.cmp ⟨(Lib.bytesOf ns).toArray⟩ ⟨(Lib.bytesOf ms).toArray⟩)) w := by
                change Sem.run P (do pure (goInt (Extern.BytealgCompare.cmp (← Extern.Bytes.bytesOf (a.pack ca)) (← Extern.Bytes.bytesOf (b.pack cb))))) w = _
                simp only [Sem.run_bind, g1, g2, Result.andThen_ok, Sem.run_pure]
              rw [hcmp, Lib.cmp_eq]
              rfl
        · simp at he
      · simp at he
    · simp at he
  · simp at he
def aInvoke (C : Ctx) (g : V) (m : String) (vs : List V) : Option OR :=
  match g with
  | .iface t v => match C.meth.get t with
    | some ms => match ms.lookup m with
      | some f => if (C.fn.get f).isSome then some (.call f (v :: vs)) else none
      | none => none
    | none => none
  | _ => none
include hC in
theorem aInvoke_sound {g : V} {gv : Value} {m : String} {vs : List V} {xs : List Value} {r : OR} (he : aInvoke C g m vs = some r) (hg : RelV F ρ g gv) (hx : RelTs F ρ vs xs) :
    ∃ f us ys fn, r = .call f us ∧ C.fn.get f = some fn ∧ RelTs F ρ us ys ∧ (invoke (.fn (.method m) #[]) (#[gv] ++ xs.toArray)).run P w = .ok (.enter f ys.toArray) w := by
  have call : ∀ f fn (args : Array Value), C.fn.get f = some fn → (callFunc f args).run P w = .ok (.enter f args) w := fun f fn args hf => by
    have := hC.fn _ _ hf
    have hb : ¬ fn.body = none := by have := this.body; cases hq : fn.body <;> simp_all
    have hn : ¬ fn.name = "runtime.NumGoroutine" := by simpa using this.name
    simp [callFunc, run_program, this.at_, hn, hb]
  unfold aInvoke at he
  split at he
  · rename_i t v
    split at he
    · rename_i ms hms
      split at he
      · rename_i f hf
        split at he
        · rename_i hk
          cases he
          obtain ⟨fn, hfn⟩ := Option.isSome_iff_exists.1 hk
          obtain ⟨i, row, d, q1, q2, q3, q4, q5, q6⟩ := hC.meth _ _ _ _ hms hf
          obtain ⟨cs, hr, rfl⟩ := hg
          cases hr with
          | iface hr =>
            rename_i cs
            refine ⟨f, v :: vs, v.pack cs :: xs, fn, rfl, hfn, .cons hr hx, ?_⟩
            have hm : ∀ n, (method (n + 1) t (v.pack cs) m).run P w = .ok (f, v.pack cs) w := fun n => by
              simp only [method, typeInfo, q1, q2, q3, q4, Sem.run_bind, run_program, Sem.run_pure, Result.andThen_ok, follow]
              cases d <;> first | (exact absurd rfl (q6 _)) | simp [receiverAt, run_underlying q5, Place.get]
            show (invoke (.fn (.method m) #[]) (#[(Value.iface t (v.pack cs))] ++ xs.toArray)).run P w = _
            simp [invoke, callMethod, run_program, Made.depth, hm, call f fn _ hfn]
        · simp at he
      · simp at he
    · simp at he
  · simp at he
def moreCall (C : Ctx) (b : Builtin) (ts : List TypeId) (vs : List V) (h : H) : Option (V × H) :=
  match b, ts, vs with
  | .len, [t], [x] => match aLen C t x with
    | some z => some (z, h)
    | none => (aLenMap C t x h).map fun z => (z, h)
  | .delete, [t, _], [m, k] => (aMapDel C t m k h).map fun h' => (.tup [], h')
  | .copy, [t, _], [d, x] => aCopy C t d x h
  | .clear, [t], [d] => (aClear C t d h).map fun h' => (.tup [], h')
  | .min, _, vs => (aMinMax false vs).map fun z => (z, h)
  | .max, _, vs => (aMinMax true vs).map fun z => (z, h)
  | _, _, _ => none
def isBytes (C : Ctx) (t : TypeId) : Bool :=
  match C.ty.get t with
  | some ⟨.slc e, _, _, _, _⟩ => (match C.ty.get e with
    | some ⟨.int .u8, _, _, _, _⟩ => true
    | _ => false)
  | _ => false
include hC in
theorem mark_sound {t : TypeId} {p : Pt} {esz i n : Nat} {cap : Option Nat} {v0 : V} {xv : Value} (ht : isBytes C t = true) (hne0 : n ≠ 0) (hg : h.get p.b = some (.cells v0 false)) (s : Sim F ρ h w) (hx : RelV F ρ (.sl p esz i n cap) xv) :
    ∃ w', (convert t t xv).run P w = .ok xv w' ∧ Sim F ρ h w' := by
  unfold isBytes at ht
  split at ht
  · rename_i e _ _ _ _ hty
    obtain ⟨d, _, hu, _, _, _, hk⟩ := (hC.ty _ _ hty).agg
    cases d <;> simp only [kindOk] at hk
    subst hk
    split at ht
    · rename_i hte
      obtain ⟨de, _, hue, _, _, _, hke⟩ := (hC.ty _ _ hte).agg
      cases de <;> simp only [kindOk] at hke
      subst hke
      obtain ⟨cs, hr, rfl⟩ := hx
      cases hr with
      | sl hl ha hn hc =>
        rename_i c l a
        obtain ⟨o, ho, hok⟩ := s.blk _ _ _ hg hl
        cases hok with
        | cells hs hf hr' hn' hin =>
          rename_i cc E fz cs'
          have hlt := (Array.getElem?_eq_some_iff.1 ho).1
          have hrun : ∀ b : Addr, (convert t t (.slice (some b) n c)).run P w = ((markStringish b).run P w).andThen fun _ w' => .ok (.slice (some b) n c) w' := fun b => by
            simp [convert, run_underlying hu, run_underlying hue]
          show ∃ w', (convert t t (.slice (some a) n c)).run P w = _ ∧ _
          rw [hrun]
          rcases ha with ⟨rfl, _⟩ | ⟨hn0, _⟩
          · refine ⟨w.freeze { block := l.bb, off := cc.size } 1, ?_, ?_⟩
            · have : w.shape? l.bb = some (E, cc.size) := by unfold World.shape?; rw [ho]
              simp [markStringish, shape, freeze, Sem.run, this]
              rfl
            · refine ⟨fun n o' hn => ?_, s.dom, fun b x l' hx hl' => ?_, s.inj, s.live, s.nx, s.same ⟨by unfold World.freeze; split <;> rfl, by unfold World.freeze; split <;> rfl⟩⟩
              · have hne : n ≠ l.bb := by
                  rintro rfl
                  have := s.live _ _ l hg hl rfl
                  rw [this] at hn; cases hn
                unfold World.freeze
                simp only [show (1 : Nat) ≠ 0 by decide, if_false]
                rw [Array.getElem?_modify, if_neg (Ne.symm hne)]
                exact s.frz n o' hn
              · obtain ⟨o', ho', hk'⟩ := s.blk b x l' hx hl'
                by_cases e : l'.bb = l.bb
                · have hb : b = p.b := s.inj b p.b l' l x _ hl' hl hx hg e
                  subst hb
                  rw [hl] at hl'; cases hl'
                  rw [hg] at hx; cases hx
                  refine ⟨.cells cc E (if fz.1 == fz.2 then (cc.size, cc.size + 1) else (min fz.1 cc.size, max fz.2 (cc.size + 1))), ?_, .cells hs ?_ hr' hn' hin⟩
                  · unfold World.freeze
                    simp only [show (1 : Nat) ≠ 0 by decide, if_false]
                    rw [Array.getElem?_modify, if_pos rfl, ho]
                    rfl
                  · right
                    rcases hf with hf | hf
                    · simp [hf]
                    · by_cases q : fz.1 = fz.2
                      · simp [q]
                      · have : (fz.1 == fz.2) = false := by simpa using q
                        rw [this]
                        simp only [Bool.false_eq_true, if_false]
                        omega
                · refine ⟨o', ?_, hk'⟩
                  unfold World.freeze
                  simp only [show (1 : Nat) ≠ 0 by decide, if_false]
                  rw [Array.getElem?_modify, if_neg (Ne.symm e)]
                  exact ho'
          · exact absurd hn0 hne0
    · cases ht
  · cases ht
def moreEval (C : Ctx) (ev : Operand → Option V) (o : Oper) (h : H) : Option (OR × H) :=
  match o.op with
  | .makeMap _ none => some (.v (.map h.next), h.push (.map [] 0))
  | .lookup t x k ok => match ev x, ev k with
    | some v, some u => (aLookup C t v u ok h).map fun z => (.v z, h)
    | _, _ => none
  | .mapUpdate t m k x => match ev m, ev k, ev x with
    | some v, some u, some y => (aMapPut C t v u y h).map fun h' => (.skip, h')
    | _, _, _ => none
  | .makeSlice t l c => match ev l, ev c with
    | some v, some u => (aMakeSlice C t v u h).map fun z => (.v z.1, z.2)
    | _, _ => none
  | .range t x => match ev x with
    | some v => (aRange C t v h).map fun z => (.v z.1, z.2)
    | none => none
  | .next x false => match ev x with
    | some v => (aNext v h).map fun z => (.v z.1, z.2)
    | none => none
  | .index t x i => match ev x, ev i with
    | some v, some u => (aIndex C t v u).map fun z => (.v z, h)
    | _, _ => none
  | .field t x f => match ev x with
    | some v => (aField C t v f).map fun z => (.v z, h)
    | none => none
  | .convert s d x => match ev x with
    | some v => if s = d ∧ isBytes C s = true then (match v with
      | .sl p _ _ n _ => if n = 0 then none else (match h.get p.b with
        | some (.cells _ false) => some (.v v, h)
        | _ => none)
      | _ => none) else none
    | none => none
  | .makeFunc fn first caps => match evL ev first.toList, evL ev caps.toList with
    | some a, some b => some (.v (.fn fn a b), h)
    | _, _ => none
  | .call c => match c.callee with
    | .builtin b => match evL ev c.args.toList with
      | some vs => (moreCall C b c.argTypes.toList vs h).map fun z => (.v z.1, z.2)
      | none => none
    | _ => none
  | _ => none
include hC in
theorem moreCall_sound {b : Builtin} {ts : Array TypeId} {vs : List V} {xs : List Value} {y : V} {h' : H} {ty : TypeId} {consts : Array Bool} (he : moreCall C b ts.toList vs h = some (y, h')) (s : Sim F ρ h w) (hx : RelTs F ρ vs xs) :
    ∃ z w', (builtin b ts ty consts xs.toArray).run P w = .ok (.value z) w' ∧ Sim F ρ h' w' ∧ RelV F ρ y z := by
  have two : ∀ {a c : V}, vs = [a, c] → ∃ av cv, xs = [av, cv] ∧ RelV F ρ a av ∧ RelV F ρ c cv := by
    rintro a c rfl
    cases hx with
    | cons h1 hx => cases hx with
      | cons h2 hx => cases hx; exact ⟨_, _, rfl, ⟨_, h1, rfl⟩, ⟨_, h2, rfl⟩⟩
  have one : ∀ {a : V}, vs = [a] → ∃ av, xs = [av] ∧ RelV F ρ a av := by
    rintro a rfl
    cases hx with
    | cons h1 hx => cases hx; exact ⟨_, rfl, ⟨_, h1, rfl⟩⟩
  have ht1 : ∀ {t : TypeId}, ts.toList = [t] → ts = #[t] := fun h => by apply Array.ext'; simpa using h
  have ht2 : ∀ {t u : TypeId}, ts.toList = [t, u] → ts = #[t, u] := fun h => by apply Array.ext'; simpa using h
  have tup0 : RelV F ρ (.tup []) (.tuple #[]) := ⟨_, .tup .nil, rfl⟩
  unfold moreCall at he
  split at he
  · rename_i t x hts
    obtain ⟨av, rfl, ha⟩ := one rfl
    have := ht1 hts
    subst this
    split at he
    · rename_i z hz
      cases he
      obtain ⟨v, h1, h2⟩ := aLen_sound (w := w) (ty := ty) hC hz ha
      exact ⟨v, w, by simp [builtin, h1], s, h2⟩
    · simp only [Option.map_eq_some_iff] at he
      obtain ⟨z, hz, he⟩ := he
      cases he
      obtain ⟨v, h1, h2⟩ := aLenMap_sound (ty := ty) hC hz s ha
      exact ⟨v, w, by simp [builtin, h1], s, h2⟩
  · rename_i t u m k hts
    obtain ⟨av, cv, rfl, ha, hc⟩ := two rfl
    have := ht2 hts
    subst this
    simp only [Option.map_eq_some_iff] at he
    obtain ⟨h1, hz, he⟩ := he
    cases he
    obtain ⟨w', g1, g2⟩ := aMapDel_sound (tk := u) (ty := ty) hC hz s ha hc
    exact ⟨_, w', by simp [builtin, g1], g2, tup0⟩
  · rename_i t u m k hts
    obtain ⟨av, cv, rfl, ha, hc⟩ := two rfl
    have := ht2 hts
    subst this
    obtain ⟨z, w', g1, g2, g3⟩ := aCopy_sound (tx := u) (ty := ty) hC he s ha hc
    exact ⟨_, w', by simp [builtin, g1], g2, g3⟩
  · rename_i t x hts
    obtain ⟨av, rfl, ha⟩ := one rfl
    have := ht1 hts
    subst this
    simp only [Option.map_eq_some_iff] at he
    obtain ⟨h1, hz, he⟩ := he
    cases he
    obtain ⟨w', g1, g2⟩ := aClear_sound (ty := ty) hC hz s ha
    exact ⟨_, w', by simp [builtin, g1], g2, tup0⟩
  · simp only [Option.map_eq_some_iff] at he
    obtain ⟨z, hz, he⟩ := he
    cases he
    obtain ⟨v, h1, h2⟩ := aMinMax_sound (P := P) (w := w) hz hx ts ty
    simp only [Bool.false_eq_true, if_false] at h1
    exact ⟨v, w, by simp [builtin, h1], s, h2⟩
  · simp only [Option.map_eq_some_iff] at he
    obtain ⟨z, hz, he⟩ := he
    cases he
    obtain ⟨v, h1, h2⟩ := aMinMax_sound (P := P) (w := w) hz hx ts ty
    simp only [if_true] at h1
    exact ⟨v, w, by simp [builtin, h1], s, h2⟩
  · simp at he
include hC in
theorem more_sound {ev : Operand → Option V} {o : Oper} {r : OR} {h' : H} {a : Act} (he : moreEval C ev o h = some (r, h')) (sm : Sim F ρ h w) (hev : EvRel F ρ ev a o.op.operands.toList) : Does (C := C) P F ρ h' o a w r := by
  have hv : ∀ {s : Sem Value} {x : V} {v : Value}, s.run P w = .ok v w → RelV F ρ x v → (execOp a.eval o = do pure (.value (← s))) → Does (C := C) P F ρ h o a w (.v x) := fun h1 h2 h3 =>
    ⟨_, w, F, ρ, by rw [h3]; simp [h1], .refl _ _, sm, h2⟩
  unfold moreEval at he
  split at he
  · rename_i t hop
    cases he
    obtain ⟨e', s'⟩ := sm.push (w' := w.alloc (.map #[] 0)) (x := .map [] 0) (l := ⟨w.heap.size, 0, 0⟩) rfl
      (fun n hn => by show (w.heap.push _)[n]? = _; rw [Array.getElem?_push_lt hn, Array.getElem?_eq_getElem hn]) (by show (w.heap.push _)[_]? = _; simp) (.map .nil) (by simp)
    refine ⟨.map (some w.heap.size), _, F, _, ?_, e', s', _, .map (l := ⟨w.heap.size, 0, 0⟩) (by simp), rfl⟩
    unfold execOp
    rw [hop]
    have hmk : (Instr.makeMap t none).run P w = .ok (.map (some w.heap.size)) (w.alloc (.map #[] 0)) := rfl
    simp [hmk]
  · rename_i t x k ok hop
    split at he
    · rename_i v u hx hk
      simp only [Option.map_eq_some_iff] at he
      obtain ⟨z, hb, he⟩ := he
      cases he
      obtain ⟨y, h1, h2⟩ := aLookup_sound hC hb sm (hev x (by rw [hop]; simp [Op.operands]) v hx) (hev k (by rw [hop]; simp [Op.operands]) u hk)
      exact hv h1 h2 (by unfold execOp; rw [hop])
    · simp at he
  · rename_i t m k x hop
    split at he
    · rename_i v u y hm hk hx
      simp only [Option.map_eq_some_iff] at he
      obtain ⟨h1, hb, he⟩ := he
      cases he
      obtain ⟨w', g1, g2⟩ := aMapPut_sound hC hb sm (hev m (by rw [hop]; simp [Op.operands]) v hm) (hev k (by rw [hop]; simp [Op.operands]) u hk) (hev x (by rw [hop]; simp [Op.operands]) y hx)
      exact ⟨w', F, ρ, by unfold execOp; rw [hop]; simp [g1], .refl _ _, g2⟩
    · simp at he
  · rename_i t l c hop
    split at he
    · rename_i v u hl hc
      simp only [Option.map_eq_some_iff] at he
      obtain ⟨⟨z, h1⟩, hb, he⟩ := he
      cases he
      obtain ⟨y, w', ρ', g1, g2, g3, g4⟩ := aMakeSlice_sound hC hb sm (hev l (by rw [hop]; simp [Op.operands]) v hl) (hev c (by rw [hop]; simp [Op.operands]) u hc)
      exact ⟨y, w', F, ρ', by unfold execOp; rw [hop]; simp [g1], g2, g3, g4⟩
    · simp at he
  · rename_i t x hop
    split at he
    · rename_i v hx
      simp only [Option.map_eq_some_iff] at he
      obtain ⟨⟨z, h1⟩, hb, he⟩ := he
      cases he
      obtain ⟨y, w', ρ', g1, g2, g3, g4⟩ := aRange_sound hC hb sm (hev x (by rw [hop]; simp [Op.operands]) v hx)
      exact ⟨y, w', F, ρ', by unfold execOp; rw [hop]; simp [g1], g2, g3, g4⟩
    · simp at he
  · rename_i x hop
    split at he
    · rename_i v hx
      simp only [Option.map_eq_some_iff] at he
      obtain ⟨⟨z, h1⟩, hb, he⟩ := he
      cases he
      obtain ⟨y, w', g1, g2, g3⟩ := aNext_sound (P := P) (ty := o.type) hb sm (hev x (by rw [hop]; simp [Op.operands]) v hx)
      exact ⟨y, w', F, ρ, by unfold execOp; rw [hop]; simp [g1], .refl _ _, g2, g3⟩
    · simp at he
  · rename_i t x i hop
    split at he
    · rename_i v u hx hi
      simp only [Option.map_eq_some_iff] at he
      obtain ⟨z, hb, he⟩ := he
      cases he
      obtain ⟨y, h1, h2⟩ := aIndex_sound (w := w) hC hb (hev x (by rw [hop]; simp [Op.operands]) v hx) (hev i (by rw [hop]; simp [Op.operands]) u hi)
      exact hv h1 h2 (by unfold execOp; rw [hop])
    · simp at he
  · rename_i t x f hop
    split at he
    · rename_i v hx
      simp only [Option.map_eq_some_iff] at he
      obtain ⟨z, hb, he⟩ := he
      cases he
      obtain ⟨y, h1, h2⟩ := aField_sound (w := w) hC hb (hev x (by rw [hop]; simp [Op.operands]) v hx)
      exact hv h1 h2 (by unfold execOp; rw [hop])
    · simp at he
  · rename_i s d x hop
    split at he
    · rename_i v hx
      split at he
      · rename_i hc
        obtain ⟨rfl, hb⟩ := hc
        split at he
        · rename_i p esz i n cap
          split at he
          · simp at he
          · rename_i hn0
            split at he
            · rename_i v0 hg
              cases he
              obtain ⟨w', g1, g2⟩ := mark_sound (P := P) hC hb hn0 hg sm (hev x (by rw [hop]; simp [Op.operands]) _ hx)
              exact ⟨_, w', F, ρ, by unfold execOp; rw [hop]; simp [g1], .refl _ _, g2, hev x (by rw [hop]; simp [Op.operands]) _ hx⟩
            · simp at he
        · simp at he
      · simp at he
    · simp at he
  · rename_i fn first caps hop
    split at he
    · rename_i as bs hx hy
      cases he
      have ha := evL_rel (F := F) (ρ := ρ) (a := a) hx (fun y hy => hev y (by rw [hop]; simp [Op.operands]; exact .inl (by simpa using hy)))
      have hb := evL_rel (F := F) (ρ := ρ) (a := a) hy (fun y hy => hev y (by rw [hop]; simp [Op.operands]; exact .inr (by simpa using hy)))
      refine ⟨.func fn (first.map a.eval) (caps.map a.eval), w, F, ρ, by unfold execOp; rw [hop]; simp [Instr.makeFunc], .refl _ _, sm, _, .fn ha hb, ?_⟩
      have e1 : first.map a.eval = (List.map a.eval first.toList).toArray := by apply Array.ext'; simp
      have e2 : caps.map a.eval = (List.map a.eval caps.toList).toArray := by apply Array.ext'; simp
      rw [e1, e2]; rfl
    · simp at he
  · rename_i c hop
    split at he
    · rename_i b hcal
      split at he
      · rename_i vs hvs
        simp only [Option.map_eq_some_iff] at he
        obtain ⟨⟨z, h1⟩, hb, he⟩ := he
        cases he
        have ha := evL_rel (F := F) (ρ := ρ) (a := a) hvs (fun y hy => hev y (by rw [hop]; simp [Op.operands, Call.operands, hcal]; simpa using hy))
        obtain ⟨y, w', g1, g2, g3⟩ := moreCall_sound (ty := o.type) (consts := c.args.map fun | .const _ => true | _ => false) hC hb sm ha
        refine ⟨y, w', F, ρ, ?_, .refl _ _, g2, g3⟩
        unfold execOp
        rw [hop]
        have e : (c.args.map a.eval) = (List.map a.eval c.args.toList).toArray := by apply Array.ext'; simp
        simp only [resolve, hcal, invoke, e, Sem.run_bind, Sem.run_pure, Result.andThen_ok]
        exact g1
      · simp at he
    · simp at he
  · simp at he
end
end Go.A
