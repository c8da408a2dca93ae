/- One operation: what it yields, and that this is what the model does. -/
import Derived.Test.YtgekgcffmmbhbaaGreatA27
set_option linter.unusedVariables false
set_option linter.unusedSimpArgs false
noncomputable section
namespace Go.A
open Go
set_option linter.unusedSectionVars false
variable [Outer]
section
variable {P : Program} {C : Ctx} (hC : CtxOk P C) {F : Frz} {ρ : Ren} {h : H} {w : World}
def aMakeIface (C : Ctx) (t : TypeId) (x : V) : Option V :=
  match C.ty.get t with
  | some ti => match ti.k with
    | .ifc => none
    | _ => if x.isTup then none else some (.iface t x)
  | none => none
def aAssert (C : Ctx) (x : V) (t : TypeId) (ok : Bool) : Option V :=
  match C.ty.get t with
  | some ti => match ti.k with
    | .ifc => none
    | _ => match x with
      | .iface u v => if u = t then some (if ok then .tup [v, .sc (.bool true)] else v) else if ok then some (.tup [ti.zero, .sc (.bool false)]) else none
      | .sc .nilIface => if ok then some (.tup [ti.zero, .sc (.bool false)]) else none
      | _ => none
  | none => none
def aExtract (x : V) (i : Nat) : Option V :=
  match x with
  | .tup vs => vs[i]?
  | _ => none
def aCallee (C : Ctx) (f : V) (args : List V) : Option OR :=
  match f with
  | .sc (.func (.func k) _ _) => if (C.fn.get k).isSome then some (.call k args) else none
  | .fn (.func k) first caps => if (C.fn.get k).isSome then some (.call k (first ++ args ++ caps)) else none
  | _ => none
def opEval (C : Ctx) (frz : Bool) (ev : Operand → Option V) (o : Oper) (h : H) : Option (OR × H) :=
  match o.op with
  | .move x => (ev x).map fun v => (.v v, h)
  | .assign x => (ev x).map fun v => (.v v, h)
  | .pick c a b => match ev c with
    | some (.sc (.bool p)) => (if p then ev a else ev b).map fun v => (.v v, h)
    | _ => none
  | .alloc t => (aAlloc C t h).map fun x => (.v x.1, x.2)
  | .box _ x => match ev x with
    | some v => (aBox v h).map fun x => (.v x.1, x.2)
    | none => none
  | .build t ps => match evP ev ps.toList with
    | some vs => (aBuild C t vs).map fun x => (.v x, h)
    | none => none
  | .buildSlice t n ps => match evP ev ps.toList with
    | some vs => (aBuildSlice C t n vs h).map fun x => (.v x.1, x.2)
    | none => none
  | .load t x => match ev x with
    | some v => (aLoad C t v h).map fun x => (.v x, h)
    | none => none
  | .store t x y => match ev x, ev y with
    | some v, some u => (aStore C t v u h).map fun h' => (.skip, h')
    | _, _ => none
  | .nilCheck x => match ev x with
    | some v => if isPtr v then some (.v v, h) else none
    | none => none
  | .binOp op t x y _ => match ev x, ev y with
    | some v, some u => (aBin C op t (isConst x) (isConst y) v u).map fun z => (.v z, h)
    | _, _ => none
  | .unOp op _ x => match ev x with
    | some (.sc v) => (ofPure (Op.unary op v)).map fun z => (.v z, h)
    | _ => none
  | .convert s d x => match ev x with
    | some v => (match aConvert C s d v h with
      | some z => some (.v z, h)
      | none => moreEval C ev o h)
    | none => none
  | .makeInterface t x => match ev x with
    | some v => (aMakeIface C t v).map fun z => (.v z, h)
    | none => none
  | .fieldAddr s x f => match ev x with
    | some v => (aFieldAddr C s v f).map fun z => (.v z, h)
    | none => none
  | .indexAddr t x i => match ev x, ev i with
    | some v, some u => (aIndexAddr C t v u).map fun z => (.v z, h)
    | _, _ => none
  | .slice t x lo hi mx => match ev x, evO ev lo, evO ev hi, evO ev mx with
    | some v, some l, some u, some m => (aSlice C t v l u m h).map fun z => (.v z, h)
    | _, _, _, _ => none
  | .extract x i => match ev x with
    | some v => (aExtract v i).map fun z => (.v z, h)
    | none => none
  | .typeAssert x _ t ok => match ev x with
    | some v => (aAssert C v t ok).map fun z => (.v z, h)
    | none => none
  | .call c => match c.callee with
    | .value f => match ev f, evL ev c.args.toList with
      | some g, some vs => (match aCallee C g vs with
        | some r => some (r, h)
        | none => (aExt C g vs h).map fun z => (.v z, h))
      | _, _ => none
    | .invoke r m => match ev r, evL ev c.args.toList with
      | some g, some vs => (aInvoke C g m vs).map fun r => (r, h)
      | _, _ => none
    | .builtin .append => match c.args.toList, c.argTypes.toList with
      | [s, x], [t, tx] => match ev s, ev x with
        | some v, some u => (aAppend C t tx v u frz h).map fun z => (.v z.1, z.2)
        | _, _ => none
      | _, _ => none
    | _ => moreEval C ev o h
  | _ => moreEval C ev o h

theorem aMakeIface_sound {t : TypeId} {x z : V} {xv : Value} (hC : CtxOk P C) (he : aMakeIface C t x = some z) (hx : RelV F ρ x xv) : ∃ v, (Instr.makeInterface t xv).run P w = .ok v w ∧ RelV F ρ z v := by
  unfold aMakeIface at he
  split at he
  · rename_i ti ht
    obtain ⟨d, _, hu, _, _, _, hk⟩ := (hC.ty _ _ ht).agg
    split at he
    · simp at he
    · rename_i hni
      split at he
      · simp at he
      · cases he
        obtain ⟨cs, hr, rfl⟩ := hx
        refine ⟨_, run_makeInterface w t _ ?_, _, .iface hr, rfl⟩
        unfold Program.concrete
        rw [hu]
        cases d <;> first | rfl | (cases hkk : ti.k <;> simp_all [kindOk])
  · simp at he
theorem aAssert_sound {xt t : TypeId} {ok : Bool} {x z : V} {xv : Value} (hC : CtxOk P C) (he : aAssert C x t ok = some z) (hx : RelV F ρ x xv) : ∃ v, (Instr.typeAssert xv xt t ok).run P w = .ok v w ∧ RelV F ρ z v := by
  unfold aAssert at he
  split at he
  · rename_i ti ht
    obtain ⟨i, d, zv, hi, hu, h3, h4, hk, hz, hzr, hzt, _⟩ := (hC.ty _ _ ht).ok
    have hzero : (zeroValue t).run P w = .ok zv w := by simp [zeroValue, typeInfo, hi, hz]
    obtain ⟨zc, hzc, hzv⟩ := hzr F ρ
    have hni : ∀ ms, d ≠ .interface ms := by
      rintro ms rfl
      split at he
      · simp at he
      · rename_i hq
        cases hkk : ti.k <;> rw [hkk] at hk <;> simp [kindOk] at hk
        exact hq hkk
    have tup2 : ∀ {u : V} {cs : List Value} (b : Bool), Rel F ρ u cs → RelV F ρ (.tup [u, .sc (.bool b)]) (.tuple #[u.pack cs, .bool b]) := fun b hr =>
      ⟨_, .tup (.cons hr (.cons (.sc (v := .bool b) rfl) .nil)), rfl⟩
    split at he
    · simp at he
    · split at he
      · rename_i u v
        obtain ⟨cs, hr, rfl⟩ := hx
        cases hr with
        | iface hr =>
          rename_i cs
          show ∃ y, (Instr.typeAssert (.iface u (v.pack cs)) xt t ok).run P w = .ok y w ∧ RelV F ρ z y
          split at he
          · rename_i hut
            subst hut
            cases he
            cases ok
            · refine ⟨v.pack cs, ?_, cs, hr, rfl⟩
              cases d <;> first | (exact absurd rfl (hni _)) | simp [Instr.typeAssert, run_underlying hu]
            · refine ⟨.tuple #[v.pack cs, .bool true], ?_, tup2 true hr⟩
              cases d <;> first | (exact absurd rfl (hni _)) | simp [Instr.typeAssert, run_underlying hu]
          · rename_i hut
            split at he
            · rename_i hok
              subst hok
              cases he
              refine ⟨.tuple #[zv, .bool false], ?_, by rw [hzv]; exact tup2 false hzc⟩
              cases d <;> first | (exact absurd rfl (hni _)) | simp [Instr.typeAssert, run_underlying hu, hut, hzero]
            · simp at he
      · obtain ⟨rfl, _⟩ := sc_val hx
        split at he
        · rename_i hok
          subst hok
          cases he
          refine ⟨.tuple #[zv, .bool false], ?_, by rw [hzv]; exact tup2 false hzc⟩
          cases d <;> first | (exact absurd rfl (hni _)) | simp [Instr.typeAssert, run_underlying hu, hzero]
        · simp at he
      · simp at he
  · simp at he
theorem relTs_nth : ∀ {vs : List V} {xs : List Value}, RelTs F ρ vs xs → ∀ {i : Nat} {v : V}, vs[i]? = some v → ∃ x, xs[i]? = some x ∧ RelV F ρ v x
  | _, _, .nil, i, v, h => by simp at h
  | _, _, .cons h hs, 0, v, hv => by simp at hv; subst hv; exact ⟨_, rfl, _, h, rfl⟩
  | _, _, .cons h hs, i + 1, v, hv => by simp at hv; obtain ⟨x, h1, h2⟩ := relTs_nth hs hv; exact ⟨x, by simpa using h1, h2⟩
theorem aExtract_sound {x z : V} {i : Nat} {xv : Value} (he : aExtract x i = some z) (hx : RelV F ρ x xv) : ∃ v, (Instr.extract xv i).run P w = .ok v w ∧ RelV F ρ z v := by
  unfold aExtract at he
  split at he
  · obtain ⟨cs, hr, rfl⟩ := hx
    cases hr with
    | tup hr =>
      obtain ⟨y, h1, h2⟩ := relTs_nth hr he
      refine ⟨y, ?_, h2⟩
      simp [V.pack, Instr.extract, h1]
  · simp at he
theorem relTs_append : ∀ {vs us : List V} {xs ys : List Value}, RelTs F ρ vs xs → RelTs F ρ us ys → RelTs F ρ (vs ++ us) (xs ++ ys)
  | _, _, _, _, .nil, h => h
  | _, _, _, _, .cons h hs, h' => .cons h (relTs_append hs h')

theorem aCallee_sound {g : V} {gv : Value} {vs : List V} {xs : List Value} {r : OR} (hC : CtxOk P C) (he : aCallee C g vs = some r) (hg : RelV F ρ g gv) (hx : RelTs F ρ vs xs) :
    ∃ f us ys fn, r = .call f us ∧ C.fn.get f = some fn ∧ RelTs F ρ us ys ∧ ((do let d ← Deferred.ofValue gv xs.toArray; invoke d.target d.args) : Sem Next).run P w = .ok (.enter f ys.toArray) w := by
  have call : ∀ f fn (args : Array Value), C.fn.get f = some fn → (callFunc f args).run P w = .ok (.enter f args) w := fun f fn args hf => by
    have := hC.fn _ _ hf
    have hb : ¬ fn.body = none := by have := this.body; cases hq : fn.body <;> simp_all
    have hn : ¬ fn.name = "runtime.NumGoroutine" := by simpa using this.name
    simp [callFunc, run_program, this.at_, hn, hb]
  unfold aCallee at he
  split at he
  · rename_i k a b
    split at he
    · rename_i hk
      cases he
      obtain ⟨fn, hfn⟩ := Option.isSome_iff_exists.1 hk
      obtain ⟨rfl, hs⟩ := sc_val hg
      simp only [scalar, Bool.and_eq_true, Array.isEmpty_iff] at hs
      obtain ⟨rfl, rfl⟩ := hs
      refine ⟨k, vs, xs, fn, rfl, hfn, hx, ?_⟩
      simp [Deferred.ofValue, invoke, call k fn _ hfn]
    · simp at he
  · rename_i k first caps
    split at he
    · rename_i hk
      cases he
      obtain ⟨fn, hfn⟩ := Option.isSome_iff_exists.1 hk
      obtain ⟨cs, hr, rfl⟩ := hg
      cases hr with
      | fn h1 h2 =>
        rename_i xs1 ys1
        refine ⟨k, _, xs1 ++ xs ++ ys1, fn, rfl, hfn, relTs_append (relTs_append h1 hx) h2, ?_⟩
        simp [V.pack, Deferred.ofValue, invoke, call k fn _ hfn]
    · simp at he
  · simp at he
include hC in
theorem opEval_sound {frz : Bool} {ev : Operand → Option V} {o : Oper} {r : OR} {h' : H} {a : Act} (he : opEval C frz ev o h = some (r, h')) (sm : Sim F ρ h w) (hev : EvRel F ρ ev a o.op.operands.toList) : Does (C := C) P F ρ h' o a w r := by
  have hv : ∀ {s : Sem Value} {x : V} {v : Value}, s.run P w = .ok v w → RelV F ρ x v → (execOp a.eval o = do pure (.value (← s))) → Does (C := C) P F ρ h o a w (.v x) := fun h1 h2 h3 =>
    ⟨_, w, F, ρ, by rw [h3]; simp [h1], .refl _ _, sm, h2⟩
  unfold opEval at he
  split at he
  case h_1 x hop => -- move
    simp only [Option.map_eq_some_iff] at he
    obtain ⟨v, hx, he⟩ := he
    cases he
    exact ⟨a.eval x, w, F, ρ, by unfold execOp; rw [hop]; rfl, .refl _ _, sm, hev x (by rw [hop]; simp [Op.operands]) v hx⟩
  case h_2 x hop =>
    simp only [Option.map_eq_some_iff] at he
    obtain ⟨v, hx, he⟩ := he
    cases he
    exact ⟨a.eval x, w, F, ρ, by unfold execOp; rw [hop]; rfl, .refl _ _, sm, hev x (by rw [hop]; simp [Op.operands]) v hx⟩
  case h_3 c x y hop => -- pick
    split at he
    · rename_i p hc
      simp only [Option.map_eq_some_iff] at he
      obtain ⟨v, hx, he⟩ := he
      cases he
      obtain ⟨hcv, _⟩ := sc_val (hev c (by rw [hop]; simp [Op.operands]) _ hc)
      cases p
      · exact ⟨a.eval y, w, F, ρ, by unfold execOp; rw [hop]; simp [hcv, asBool], .refl _ _, sm, hev y (by rw [hop]; simp [Op.operands]) v hx⟩
      · exact ⟨a.eval x, w, F, ρ, by unfold execOp; rw [hop]; simp [hcv, asBool], .refl _ _, sm, hev x (by rw [hop]; simp [Op.operands]) v hx⟩
    · simp at he
  case h_4 t hop => -- alloc
    simp only [Option.map_eq_some_iff] at he
    obtain ⟨⟨x, h1⟩, hx, he⟩ := he
    cases he
    obtain ⟨y, w', ρ', h1, h2, h3, h4⟩ := aAlloc_sound hC hx sm
    exact ⟨y, w', F, ρ', by unfold execOp; rw [hop]; simp [h1], h2, h3, h4⟩
  case h_5 t x hop => -- box
    split at he
    · rename_i v hx
      simp only [Option.map_eq_some_iff] at he
      obtain ⟨⟨x', h1⟩, hb, he⟩ := he
      cases he
      obtain ⟨y, w', ρ', h1, h2, h3, h4⟩ := aBox_sound (P := P) t hb sm (hev x (by rw [hop]; simp [Op.operands]) v hx)
      exact ⟨y, w', F, ρ', by unfold execOp; rw [hop]; simp only [Sem.run_bind, h1, Result.andThen_ok, Sem.run_pure], h2, h3, h4⟩
    · simp at he
  case h_6 t ps hop => -- build
    split at he
    · rename_i vs hx
      simp only [Option.map_eq_some_iff] at he
      obtain ⟨x, hb, he⟩ := he
      cases he
      have hp := evP_rel (F := F) (ρ := ρ) (a := a) hx (fun y hy => hev y (by rw [hop]; simpa [Op.operands] using hy))
      obtain ⟨z, h1, h2⟩ := aBuild_sound hC (w := w) (qs := ps.map fun (i, x) => (i, a.eval x)) hb (by simpa using hp)
      exact hv h1 h2 (by unfold execOp; rw [hop])
    · simp at he
  case h_7 t n ps hop => -- buildSlice
    split at he
    · rename_i vs hx
      simp only [Option.map_eq_some_iff] at he
      obtain ⟨⟨x, h1⟩, hb, he⟩ := he
      cases he
      have hp := evP_rel (F := F) (ρ := ρ) (a := a) hx (fun y hy => hev y (by rw [hop]; simpa [Op.operands] using hy))
      obtain ⟨z, w', ρ', h1, h2, h3, h4⟩ := aBuildSlice_sound hC (qs := ps.map fun (i, x) => (i, a.eval x)) hb sm (by simpa using hp)
      exact ⟨z, w', F, ρ', by unfold execOp; rw [hop]; simp only [Sem.run_bind, h1, Result.andThen_ok, Sem.run_pure], h2, h3, h4⟩
    · simp at he
  case h_8 t x hop => -- load
    split at he
    · rename_i v hx
      simp only [Option.map_eq_some_iff] at he
      obtain ⟨u, hb, he⟩ := he
      cases he
      obtain ⟨y, h1, h2, _⟩ := aLoad_sound hC hb sm (hev x (by rw [hop]; simp [Op.operands]) v hx)
      exact hv h1 h2 (by unfold execOp; rw [hop])
    · simp at he
  case h_9 t x y hop => -- store
    split at he
    · rename_i v u hx hy
      simp only [Option.map_eq_some_iff] at he
      obtain ⟨h1, hb, he⟩ := he
      cases he
      obtain ⟨w', h1, h2⟩ := aStore_sound hC hb sm (hev x (by rw [hop]; simp [Op.operands]) v hx) (hev y (by rw [hop]; simp [Op.operands]) u hy)
      exact ⟨w', F, ρ, by unfold execOp; rw [hop]; simp [h1], .refl _ _, h2⟩
    · simp at he
  case h_10 x hop => -- nilCheck
    split at he
    · rename_i v hx
      split at he
      · rename_i hp
        cases he
        have hr := hev x (by rw [hop]; simp [Op.operands]) v hx
        obtain ⟨b, hb⟩ : ∃ b, a.eval x = .pointer (some b) := by
          obtain ⟨cs, hr', hq⟩ := hr
          cases hr' <;> simp [isPtr] at hp
          · exact ⟨_, hq⟩
          · exact ⟨_, hq⟩
        exact ⟨a.eval x, w, F, ρ, by unfold execOp; rw [hop]; simp [hb], .refl _ _, sm, hr⟩
      · simp at he
    · simp at he
  case h_11 op t x y ty hop => -- binOp
    split at he
    · rename_i v u hx hy
      simp only [Option.map_eq_some_iff] at he
      obtain ⟨z, hb, he⟩ := he
      cases he
      obtain ⟨y', h1, h2⟩ := aBin_sound hC (w := w) hb (hev x (by rw [hop]; simp [Op.operands]) v hx) (hev y (by rw [hop]; simp [Op.operands]) u hy)
      exact hv h1 h2 (by unfold execOp; rw [hop])
    · simp at he
  case h_12 op t x hop => -- unOp
    split at he
    · rename_i v hx
      simp only [Option.map_eq_some_iff] at he
      obtain ⟨z, hb, he⟩ := he
      cases he
      obtain ⟨v', h1, rfl, h3⟩ := ofPure_some hb
      obtain ⟨hcv, _⟩ := sc_val (hev x (by rw [hop]; simp [Op.operands]) _ hx)
      exact hv (s := Op.unary op (a.eval x)) (by rw [hcv, h1]; rfl) (sc_rel h3) (by unfold execOp; rw [hop])
    · simp at he
  case h_13 s d x hop => -- convert
    split at he
    · rename_i v hx
      split at he
      · rename_i z hb
        cases he
        obtain ⟨y, h1, h2⟩ := aConvert_sound hC hb sm (hev x (by rw [hop]; simp [Op.operands]) v hx)
        exact hv h1 h2 (by unfold execOp; rw [hop])
      · exact more_sound hC he sm hev
    · simp at he
  case h_14 t x hop => -- makeInterface
    split at he
    · rename_i v hx
      simp only [Option.map_eq_some_iff] at he
      obtain ⟨z, hb, he⟩ := he
      cases he
      obtain ⟨y, h1, h2⟩ := aMakeIface_sound (w := w) hC hb (hev x (by rw [hop]; simp [Op.operands]) v hx)
      exact hv h1 h2 (by unfold execOp; rw [hop])
    · simp at he
  case h_15 s x f hop => -- fieldAddr
    split at he
    · rename_i v hx
      simp only [Option.map_eq_some_iff] at he
      obtain ⟨z, hb, he⟩ := he
      cases he
      obtain ⟨y, h1, h2⟩ := aFieldAddr_sound hC hb sm (hev x (by rw [hop]; simp [Op.operands]) v hx)
      exact hv h1 h2 (by unfold execOp; rw [hop])
    · simp at he
  case h_16 t x i hop => -- indexAddr
    split at he
    · rename_i v u hx hy
      simp only [Option.map_eq_some_iff] at he
      obtain ⟨z, hb, he⟩ := he
      cases he
      obtain ⟨y', h1, h2⟩ := aIndexAddr_sound hC hb sm (hev x (by rw [hop]; simp [Op.operands]) v hx) (hev i (by rw [hop]; simp [Op.operands]) u hy)
      exact hv h1 h2 (by unfold execOp; rw [hop])
    · simp at he
  case h_17 t x lo hi mx hop => -- slice
    split at he
    · rename_i v l u m hx h1 h2 h3
      simp only [Option.map_eq_some_iff] at he
      obtain ⟨z, hb, he⟩ := he
      cases he
      have o1 := evO_rel (F := F) (ρ := ρ) (a := a) h1 (fun y hy => hev y (by rw [hop]; simp [Op.operands] at hy ⊢; simp [hy]))
      have o2 := evO_rel (F := F) (ρ := ρ) (a := a) h2 (fun y hy => hev y (by rw [hop]; simp [Op.operands] at hy ⊢; simp [hy]))
      have o3 := evO_rel (F := F) (ρ := ρ) (a := a) h3 (fun y hy => hev y (by rw [hop]; simp [Op.operands] at hy ⊢; simp [hy]))
      obtain ⟨y, h1, h2⟩ := aSlice_sound hC hb sm (hev x (by rw [hop]; simp [Op.operands]) v hx) o1 o2 o3
      exact hv h1 h2 (by unfold execOp; rw [hop])
    · simp at he
  case h_18 x i hop => -- extract
    split at he
    · rename_i v hx
      simp only [Option.map_eq_some_iff] at he
      obtain ⟨z, hb, he⟩ := he
      cases he
      obtain ⟨y, h1, h2⟩ := aExtract_sound (P := P) (w := w) hb (hev x (by rw [hop]; simp [Op.operands]) v hx)
      exact hv h1 h2 (by unfold execOp; rw [hop])
    · simp at he
  case h_19 x xt t ok hop => -- typeAssert
    split at he
    · rename_i v hx
      simp only [Option.map_eq_some_iff] at he
      obtain ⟨z, hb, he⟩ := he
      cases he
      obtain ⟨y, h1, h2⟩ := aAssert_sound (w := w) (xt := xt) hC hb (hev x (by rw [hop]; simp [Op.operands]) v hx)
      exact hv h1 h2 (by unfold execOp; rw [hop])
    · simp at he
  case h_20 c hop => -- call
    split at he
    · rename_i f hcal
      split at he
      · rename_i g vs hg hvs
        have ha := evL_rel (F := F) (ρ := ρ) (a := a) hvs (fun y hy => hev y (by rw [hop]; simp [Op.operands, Call.operands, hcal]; exact .inr (by simpa using hy)))
        have e : (c.args.map a.eval) = (List.map a.eval c.args.toList).toArray := by apply Array.ext'; simp
        split at he
        · rename_i r' hb
          cases he
          obtain ⟨k, us, ys, fn, rfl, hfn, hrel, hrun⟩ := aCallee_sound (P := P) (w := w) hC hb (hev f (by rw [hop]; simp [Op.operands, Call.operands, hcal]) g hg) ha
          refine ⟨ys, ?_, sm, hrel, fn, hfn⟩
          unfold execOp
          rw [hop]
          simp only [resolve, hcal]
          rw [e]; exact hrun
        · simp only [Option.map_eq_some_iff] at he
          obtain ⟨z, hb, he⟩ := he
          cases he
          obtain ⟨y, h1, h2⟩ := aExt_sound (P := P) hC hb sm (hev f (by rw [hop]; simp [Op.operands, Call.operands, hcal]) g hg) ha
          refine ⟨y, w, F, ρ, ?_, .refl _ _, sm, h2⟩
          unfold execOp
          rw [hop]
          simp only [resolve, hcal]
          rw [e]; exact h1
      · simp at he
    · rename_i rc m hcal
      split at he
      · rename_i g vs hg hvs
        simp only [Option.map_eq_some_iff] at he
        obtain ⟨r', hb, he⟩ := he
        cases he
        have ha := evL_rel (F := F) (ρ := ρ) (a := a) hvs (fun y hy => hev y (by rw [hop]; simp [Op.operands, Call.operands, hcal]; exact .inr (by simpa using hy)))
        obtain ⟨k, us, ys, fn, rfl, hfn, hrel, hrun⟩ := aInvoke_sound (P := P) (w := w) hC hb (hev rc (by rw [hop]; simp [Op.operands, Call.operands, hcal]) g hg) ha
        refine ⟨ys, ?_, sm, hrel, fn, hfn⟩
        unfold execOp
        rw [hop]
        have e : (c.args.map a.eval) = (List.map a.eval c.args.toList).toArray := by apply Array.ext'; simp
        simp only [resolve, hcal, Sem.run_bind, Sem.run_pure, Result.andThen_ok]
        rw [e]; exact hrun
      · simp at he
    · rename_i hcal
      split at he
      · rename_i s x t tx hargs htys
        split at he
        · rename_i v u hs hx
          simp only [Option.map_eq_some_iff] at he
          obtain ⟨⟨z, h1⟩, hb, he⟩ := he
          cases he
          have hargs' : c.args = #[s, x] := by apply Array.ext'; simpa using hargs
          have htys' : c.argTypes = #[t, tx] := by apply Array.ext'; simpa using htys
          obtain ⟨y, w', F', ρ', h1, h2, h3, h4⟩ := aAppend_sound (ty := o.type) hC hb sm (hev s (by rw [hop]; simp [Op.operands, Call.operands, hcal, hargs']) v hs) (hev x (by rw [hop]; simp [Op.operands, Call.operands, hcal, hargs']) u hx)
          refine ⟨y, w', F', ρ', ?_, h2, h3, h4⟩
          unfold execOp
          rw [hop]
          simp [resolve, hcal, hargs', htys', invoke, builtin, h1]
        · simp at he
      · simp at he
    · exact more_sound hC he sm hev
  case h_21 => exact more_sound hC he sm hev
end
end Go.A
