/- Maps: what is looked up, put in, taken out, walked over: soundness. -/
import Derived.Test.YtgekgcffmmbhbaaGreatA23
import Derived.Maps.RangeRun
set_option linter.unusedVariables false
set_option linter.unusedSimpArgs false
noncomputable section
namespace Go.A
open Go
set_option linter.unusedSectionVars false
variable [Outer]
section
variable {P : Program} {C : Ctx} (hC : CtxOk P C) {F : Frz} {ρ : Ren} {h : H} {w : World}
theorem run_getMap {r : Nat} {ents : Array MapEntry} {clock : Nat} (hr : w.heap[r]? = some (.map ents clock)) : (getObj r).run P w = .ok (.map ents clock) w := by simp [getObj, Sem.run, hr]
theorem run_setMap {r : Nat} {ents : Array MapEntry} {clock : Nat} (hr : w.heap[r]? = some (.map ents clock)) (o : Obj) : (setObj r o).run P w = .ok () { w with heap := w.heap.setIfInBounds r o } := by simp [setObj, Sem.run, hr]
include hC in
theorem aLookup_sound {t : TypeId} {x k z : V} {ok : Bool} {xv kv : Value} (he : aLookup C t x k ok h = some z) (s : Sim F ρ h w) (hx : RelV F ρ x xv) (hk : RelV F ρ k kv) :
    ∃ v, (Instr.lookup t xv kv ok).run P w = .ok v w ∧ RelV F ρ z v := by
  unfold aLookup at he
  split at he
  · rename_i ti ht
    obtain ⟨d, i, hu, hi, _, _, hkk⟩ := (hC.ty _ _ ht).agg
    split at he
    · rename_i kt et hq
      rw [hq] at hkk
      cases d <;> simp only [kindOk] at hkk
      obtain ⟨rfl, rfl⟩ := hkk
      split at he
      · rename_i es te b hm hte hself
        obtain ⟨ie, de, ze, q1, q2, _, _, _, q6, q7, q8, _⟩ := (hC.ty _ _ hte).ok
        obtain ⟨zc, hzc, hzv⟩ := q7 F ρ
        have hzero : (zeroValue et).run P w = .ok ze w := by simp [zeroValue, typeInfo, q1, q6]
        obtain ⟨kc, hkr, hkv⟩ := hk
        have hchk : ∀ em, (Instr.checkKey em 10000 kt kv).run P w = .ok () w := fun em => by
          rw [hkv]; exact aKey_sound hC em 9 kt k b kc 9991 hself hkr w
        have hukt : ∃ dk, P.underlying kt = some dk := by
          unfold aEq at hself
          split at hself
          · simp at hself
          · rename_i tk htk
            obtain ⟨dk, _, hu', _⟩ := (hC.ty _ _ htk).agg
            exact ⟨dk, hu'⟩
        obtain ⟨dk, hdk⟩ := hukt
        have tup2 : ∀ {u : V} {y : Value} (b : Bool), RelV F ρ u y → RelV F ρ (.tup [u, .sc (.bool b)]) (.tuple #[y, .bool b]) := fun b hr => by
          obtain ⟨c, h1, h2⟩ := hr
          refine ⟨_, .tup (.cons h1 (.cons (.sc (v := .bool b) rfl) .nil)), ?_⟩
          rw [h2]; rfl
        have fin : ∀ (ents : List MapEntry), EntsOk F ρ es ents → ∃ r, (Instr.findKey kt kv ents).run P w = .ok r w ∧
            ∃ v, RelV F ρ z (if ok then .tuple #[v, .bool r.isSome] else v) ∧ ((r = none ∧ v = ze) ∨ ∃ j, r = some (j, v)) := by
          intro ents hes
          split at he
          · rename_i j v hf
            obtain ⟨y, g1, g2⟩ := aFind_sound hC ⟨kc, hkr, hkv⟩ w es ents 0 _ hf hes
            cases y with
            | none => simp [FoundOk] at g2
            | some y =>
              obtain ⟨j', y⟩ := y
              obtain ⟨_, _, _, g3⟩ := g2
              refine ⟨_, run_findKey' hdk kv ents w g1, y, ?_, .inr ⟨j', rfl⟩⟩
              cases he
              cases ok
              · simpa using g3
              · simpa using tup2 true g3
          · rename_i hf
            obtain ⟨y, g1, g2⟩ := aFind_sound hC ⟨kc, hkr, hkv⟩ w es ents 0 _ hf hes
            cases y with
            | some y => simp [FoundOk] at g2
            | none =>
              refine ⟨_, run_findKey' hdk kv ents w g1, ze, ?_, .inl ⟨rfl, rfl⟩⟩
              cases he
              cases ok
              · simpa using ⟨zc, hzc, hzv⟩
              · simpa using tup2 false ⟨zc, hzc, hzv⟩
          · simp at he
        rcases mapOf_sound hm s hx with ⟨rfl, rfl⟩ | ⟨r, ents, clock, rfl, hr, hes⟩
        · obtain ⟨y, g1, v, g2, g3⟩ := fin [] .nil
          refine ⟨_, ?_, g2⟩
          rcases g3 with ⟨rfl, rfl⟩ | ⟨j, rfl⟩
          · cases ok <;> simp [Instr.lookup, run_underlying hu, hchk, g1, hzero]
          · cases ok <;> simp [Instr.lookup, run_underlying hu, hchk, g1, hzero]
        · obtain ⟨y, g1, v, g2, g3⟩ := fin ents.toList hes
          refine ⟨_, ?_, g2⟩
          rcases g3 with ⟨rfl, rfl⟩ | ⟨j, rfl⟩
          · cases ok <;> simp [Instr.lookup, run_underlying hu, run_getMap hr, hchk, g1, hzero]
          · cases ok <;> simp [Instr.lookup, run_underlying hu, run_getMap hr, hchk, g1, hzero]
      · simp at he
    · simp at he
  · simp at he

/-! ### putting in -/
mutual
def plainV : V → Bool
  | .sc _ => true
  | .agg vs => plainL vs
  | _ => false
def plainL : List V → Bool
  | [] => true
  | v :: vs => plainV v && plainL vs
end
mutual
theorem plain_cells : ∀ {v : V} {cs ds : List Value}, Rel F ρ v cs → Rel F ρ v ds → plainV v = true → cs = ds ∧ ∀ x ∈ cs, scalar x = true
  | .sc x, _, _, .sc h1, .sc h2, _ => ⟨rfl, by simpa using h1⟩
  | .agg vs, _, _, .agg h1, .agg h2, hp => plain_cellsL h1 h2 (by simpa [plainV] using hp)
  | .nl _, _, _, _, _, hp => by simp [plainV] at hp
  | .ptr _, _, _, _, _, hp => by simp [plainV] at hp
  | .sl _ _ _ _ _, _, _, _, _, hp => by simp [plainV] at hp
  | .list _, _, _, _, _, hp => by simp [plainV] at hp
  | .lp _, _, _, _, _, hp => by simp [plainV] at hp
  | .map _, _, _, _, _, hp => by simp [plainV] at hp
  | .fn _ _ _, _, _, _, _, hp => by simp [plainV] at hp
  | .iface _ _, _, _, _, _, hp => by simp [plainV] at hp
  | .tup _, _, _, _, _, hp => by simp [plainV] at hp
theorem plain_cellsL : ∀ {vs : List V} {cs ds : List Value}, RelL F ρ vs cs → RelL F ρ vs ds → plainL vs = true → cs = ds ∧ ∀ x ∈ cs, scalar x = true
  | [], _, _, .nil, .nil, _ => ⟨rfl, by simp⟩
  | v :: vs, _, _, .cons _ h1 h1', .cons _ h2 h2', hp => by
    simp only [plainL, Bool.and_eq_true] at hp
    obtain ⟨e1, s1⟩ := plain_cells h1 h2 hp.1
    obtain ⟨e2, s2⟩ := plain_cellsL h1' h2' hp.2
    refine ⟨by rw [e1, e2], fun x hx => ?_⟩
    rcases List.mem_append.1 hx with h | h
    · exact s1 x h
    · exact s2 x h
end
def sameSc : Value → Bool
  | .bool _ | .int _ _ | .string _ | .pointer none | .nilIface => true
  | _ => false
theorem sameBits_sc {x : Value} (n : Nat) (h : sameSc x = true) : Instr.sameBits n x x = true := by
  unfold sameSc at h
  split at h <;> first | (simp at h; done) | skip
  all_goals (cases n <;> simp [Instr.sameBits])
  all_goals (rw [beq_toListBytes]; simp)
mutual
def sameV : V → Bool
  | .sc x => sameSc x
  | .agg vs => sameVL vs
  | _ => false
def sameVL : List V → Bool
  | [] => true
  | v :: vs => sameV v && sameVL vs
end
mutual
theorem same_plain : ∀ {v : V}, sameV v = true → plainV v = true
  | .sc x, _ => rfl
  | .agg vs, h => by simp only [plainV]; exact same_plainL (by simpa [sameV] using h)
  | .nl _, hp => by simp [sameV] at hp
  | .ptr _, hp => by simp [sameV] at hp
  | .sl _ _ _ _ _, hp => by simp [sameV] at hp
  | .list _, hp => by simp [sameV] at hp
  | .lp _, hp => by simp [sameV] at hp
  | .map _, hp => by simp [sameV] at hp
  | .fn _ _ _, hp => by simp [sameV] at hp
  | .iface _ _, hp => by simp [sameV] at hp
  | .tup _, hp => by simp [sameV] at hp
theorem same_plainL : ∀ {vs : List V}, sameVL vs = true → plainL vs = true
  | [], _ => rfl
  | v :: vs, h => by
    simp only [sameVL, Bool.and_eq_true] at h
    simp only [plainL, same_plain h.1, same_plainL h.2, Bool.and_self]
end
mutual
theorem same_cells : ∀ {v : V} {cs : List Value}, Rel F ρ v cs → sameV v = true → ∀ x ∈ cs, sameSc x = true
  | .sc x, _, .sc h1, h => by simpa [sameV] using h
  | .agg vs, _, .agg h1, hp => same_cellsL h1 (by simpa [sameV] using hp)
  | .nl _, _, _, hp => by simp [sameV] at hp
  | .ptr _, _, _, hp => by simp [sameV] at hp
  | .sl _ _ _ _ _, _, _, hp => by simp [sameV] at hp
  | .list _, _, _, hp => by simp [sameV] at hp
  | .lp _, _, _, hp => by simp [sameV] at hp
  | .map _, _, _, hp => by simp [sameV] at hp
  | .fn _ _ _, _, _, hp => by simp [sameV] at hp
  | .iface _ _, _, _, hp => by simp [sameV] at hp
  | .tup _, _, _, hp => by simp [sameV] at hp
theorem same_cellsL : ∀ {vs : List V} {cs : List Value}, RelL F ρ vs cs → sameVL vs = true → ∀ x ∈ cs, sameSc x = true
  | [], _, .nil, _ => by simp
  | v :: vs, _, .cons _ h1 h1', hp => by
    simp only [sameVL, Bool.and_eq_true] at hp
    intro x hx
    rcases List.mem_append.1 hx with h | h
    · exact same_cells h1 hp.1 x h
    · exact same_cellsL h1' hp.2 x h
end
theorem keyStays {k : V} {a b : Value} (ha : RelV F ρ k a) (hb : RelV F ρ k b) (hs : sameV k = true) (w : World) : (Instr.keyThatStays a b).run P w = .ok b w := by
  obtain ⟨cs, h1, rfl⟩ := ha
  obtain ⟨ds, h2, rfl⟩ := hb
  obtain ⟨rfl, _⟩ := plain_cells h1 h2 (same_plain hs)
  have : Instr.sameBits 10000 (k.pack cs) (k.pack cs) = true := by
    have hc := same_cells h1 hs
    cases k with
    | sc x =>
      cases h1
      exact sameBits_sc (x := x) 10000 (by simpa [sameV] using hs)
    | agg vs =>
      show Instr.sameBits (9999 + 1) (.agg cs.toArray) (.agg cs.toArray) = true
      simp only [Instr.sameBits, beq_self_eq_true, Bool.true_and, List.all_eq_true]
      intro p hp
      have : p.1 = p.2 ∧ p.1 ∈ cs := by
        have hz : ∀ (l : List Value) (p : Value × Value), p ∈ l.zip l → p.1 = p.2 ∧ p.1 ∈ l := by
          intro l
          induction l with
          | nil => intro p hp; simp at hp
          | cons x l ih =>
            intro p hp
            simp only [List.zip_cons_cons, List.mem_cons] at hp
            rcases hp with rfl | hp
            · exact ⟨rfl, by simp⟩
            · exact ⟨(ih p hp).1, by simp [(ih p hp).2]⟩
        exact hz cs p (by simpa using hp)
      rw [← this.1]
      exact sameBits_sc _ (hc _ this.2)
    | _ => simp [sameV] at hs
  simp [Instr.keyThatStays, this]
def aMapPut (C : Ctx) (t : TypeId) (m k v : V) (h : H) : Option H :=
  match C.ty.get t, m with
  | some ti, .map b => match ti.k, h.get b with
    | .map kt _, some (.map es clock) => if h.lo ≤ b ∧ sameV k = true then (match aEq C 9 kt k k, aFind C kt k es 0 with
      | some _, some none => some (h.set b (.map (es ++ [(k, v, clock)]) (clock + 1)))
      | some _, some (some (i, _)) => match es[i]? with
        | some (k', _, n) => if V.beq k k' then some (h.set b (.map (es.set i (k, v, n)) clock)) else none
        | none => none
      | _, _ => none) else none
    | _, _ => none
  | _, _ => none
theorem EntsOk.append : ∀ {es es' : List (V × V × Nat)} {ents ents' : List MapEntry}, EntsOk F ρ es ents → EntsOk F ρ es' ents' → EntsOk F ρ (es ++ es') (ents ++ ents')
  | _, _, _, _, .nil, h => h
  | _, _, _, _, .cons h1 h2 h3 h4, h => .cons h1 h2 h3 (EntsOk.append h4 h)
theorem EntsOk.get : ∀ {es : List (V × V × Nat)} {ents : List MapEntry}, EntsOk F ρ es ents → ∀ {i : Nat} {x : V × V × Nat}, es[i]? = some x → ∃ e, ents[i]? = some e ∧ RelV F ρ x.1 e.key ∧ RelV F ρ x.2.1 e.val ∧ e.born = x.2.2
  | _, _, .nil, i, x, h => by simp at h
  | _, _, .cons h1 h2 h3 h4, 0, x, h => by simp at h; subst h; exact ⟨_, rfl, h1, h2, h3⟩
  | _, _, .cons h1 h2 h3 h4, i + 1, x, h => by
    obtain ⟨e, g1, g2⟩ := EntsOk.get h4 (i := i) (x := x) (by simpa using h)
    exact ⟨e, by simpa using g1, g2⟩
theorem EntsOk.set : ∀ {es : List (V × V × Nat)} {ents : List MapEntry}, EntsOk F ρ es ents → ∀ {i : Nat} {k v : V} {n : Nat} {e : MapEntry}, RelV F ρ k e.key → RelV F ρ v e.val → e.born = n → EntsOk F ρ (es.set i (k, v, n)) (ents.set i e)
  | _, _, .nil, i, k, v, n, e, h1, h2, h3 => .nil
  | _, _, .cons g1 g2 g3 g4, 0, k, v, n, e, h1, h2, h3 => .cons h1 h2 h3 g4
  | _, _, .cons g1 g2 g3 g4, i + 1, k, v, n, e, h1, h2, h3 => .cons g1 g2 g3 (EntsOk.set g4 h1 h2 h3)
theorem EntsOk.erase : ∀ {es : List (V × V × Nat)} {ents : List MapEntry}, EntsOk F ρ es ents → ∀ (i : Nat), EntsOk F ρ (es.eraseIdx i) (ents.eraseIdx i)
  | _, _, .nil, i => .nil
  | _, _, .cons g1 g2 g3 g4, 0 => g4
  | _, _, .cons g1 g2 g3 g4, i + 1 => .cons g1 g2 g3 (EntsOk.erase g4 i)
theorem EntsOk.length : ∀ {es : List (V × V × Nat)} {ents : List MapEntry}, EntsOk F ρ es ents → es.length = ents.length
  | _, _, .nil => rfl
  | _, _, .cons _ _ _ h => by simp [EntsOk.length h]
include hC in
theorem keyFacts {kt : TypeId} {k : V} {kv : Value} {b : Bool} (hself : aEq C 9 kt k k = some b) (hk : RelV F ρ k kv) (w : World) : (∀ em, (Instr.checkKey em 10000 kt kv).run P w = .ok () w) ∧ ∃ dk, P.underlying kt = some dk := by
  obtain ⟨kc, hkr, rfl⟩ := hk
  refine ⟨fun em => aKey_sound hC em 9 kt k b kc 9991 hself hkr w, ?_⟩
  unfold aEq at hself
  split at hself
  · simp at hself
  · rename_i tk htk
    obtain ⟨dk, _, hu', _⟩ := (hC.ty _ _ htk).agg
    exact ⟨dk, hu'⟩
theorem setMap_heap {r : Nat} {o o' : Obj} (hr : w.heap[r]? = some o) : (∀ n, n ≠ r → ({ w with heap := w.heap.setIfInBounds r o' } : World).heap[n]? = w.heap[n]?) ∧ ({ w with heap := w.heap.setIfInBounds r o' } : World).heap[r]? = some o' := by
  have hlt := (Array.getElem?_eq_some_iff.1 hr).1
  exact ⟨fun n hn => by simp [Array.getElem?_setIfInBounds_ne (Ne.symm hn)], by simp [hlt]⟩
include hC in
theorem aMapPut_sound {t : TypeId} {m k v : V} {mv kv vv : Value} {h' : H} (he : aMapPut C t m k v h = some h') (s : Sim F ρ h w) (hm : RelV F ρ m mv) (hk : RelV F ρ k kv) (hv : RelV F ρ v vv) :
    ∃ w', (Instr.mapUpdate t mv kv vv).run P w = .ok () w' ∧ Sim F ρ h' w' := by
  unfold aMapPut at he
  split at he
  · rename_i ti b ht
    obtain ⟨d, i, hu, hi, _, _, hkk⟩ := (hC.ty _ _ ht).agg
    split at he
    · rename_i kt et es clock hq hb
      rw [hq] at hkk
      cases d <;> simp only [kindOk] at hkk
      obtain ⟨rfl, rfl⟩ := hkk
      obtain ⟨cs, hr, rfl⟩ := hm
      cases hr with
      | map hl =>
        rename_i l
        obtain ⟨o, ho, hok⟩ := s.blk b _ _ hb hl
        cases hok with
        | map hes =>
          rename_i ents
          split at he
          · rename_i hc
            split at he
            · rename_i bb hself hf
              cases he
              obtain ⟨hchk, dk, hdk⟩ := keyFacts hC hself hk w
              obtain ⟨y, g1, g2⟩ := aFind_sound hC hk w es ents.toList 0 _ hf hes
              cases y with
              | some y => simp [FoundOk] at g2
              | none =>
                have hfk := run_findKey' hdk kv ents.toList w g1
                obtain ⟨k1, k2⟩ := setMap_heap (w := w) (o' := .map (ents.push { key := kv, val := vv, born := clock }) (clock + 1)) ho
                refine ⟨_, ?_, s.put hb hl rfl k1 k2 (.map ?_) rfl (by simp)⟩
                · simp [Instr.mapUpdate, run_underlying hu, V.pack, run_getMap ho, hchk, hfk, run_setMap ho]
                · simpa using hes.append (EntsOk.cons (e := { key := kv, val := vv, born := clock }) hk hv rfl .nil)
            · rename_i bb i _ hself hf
              split at he
              · rename_i k' _ n hei
                split at he
                · rename_i hkk'
                  cases he
                  have := V.beq_eq hkk'
                  subst this
                  obtain ⟨hchk, dk, hdk⟩ := keyFacts hC hself hk w
                  obtain ⟨y, g1, g2⟩ := aFind_sound hC hk w es ents.toList 0 _ hf hes
                  cases y with
                  | none => simp [FoundOk] at g2
                  | some y =>
                    obtain ⟨j, y⟩ := y
                    obtain ⟨rfl, _, _, _⟩ := g2
                    have hfk := run_findKey' hdk kv ents.toList w g1
                    obtain ⟨e, e1, e2, e3, e4⟩ := hes.get hei
                    have e1' : ents[i]? = some e := by simpa using e1
                    have hst := keyStays (P := P) e2 hk hc.2 w
                    obtain ⟨k1, k2⟩ := setMap_heap (w := w) (o' := .map (ents.modify i fun e => { e with key := kv, val := vv }) clock) ho
                    refine ⟨_, ?_, s.put hb hl rfl k1 k2 (.map ?_) rfl (by simp)⟩
                    · simp [Instr.mapUpdate, run_underlying hu, V.pack, run_getMap ho, hchk, hfk, e1', hst, run_setMap ho]
                    · have hset : (ents.modify i fun e => { e with key := kv, val := vv }).toList = ents.toList.set i { e with key := kv, val := vv } := by
                        rw [Array.toList_modify]
                        apply List.ext_getElem?
                        intro q
                        rw [List.getElem?_modify, List.getElem?_set]
                        by_cases hqi : i = q
                        · subst hqi
                          have hlt := (List.getElem?_eq_some_iff.1 e1).1
                          simp [e1, e1', hlt] at hlt ⊢
                          exact hlt
                        · simp [hqi]
                      rw [hset]
                      exact hes.set hk hv e4
                · simp at he
              · simp at he
            · simp at he
          · simp at he
    · simp at he
  · simp at he

/-! ### taking out -/
def aMapDel (C : Ctx) (t : TypeId) (m k : V) (h : H) : Option H :=
  match C.ty.get t, m with
  | some ti, .map b => match ti.k, h.get b with
    | .map kt _, some (.map es clock) => if h.lo ≤ b then (match aEq C 9 kt k k, aFind C kt k es 0 with
      | some _, some none => some (h.set b (.map es clock))
      | some _, some (some (i, _)) => some (h.set b (.map (es.eraseIdx i) clock))
      | _, _ => none) else none
    | _, _ => none
  | _, _ => none
include hC in
theorem aMapDel_sound {t tk ty : TypeId} {m k : V} {mv kv : Value} {h' : H} (he : aMapDel C t m k h = some h') (s : Sim F ρ h w) (hm : RelV F ρ m mv) (hk : RelV F ρ k kv) :
    ∃ w', (Builtin.delete_ #[t, tk] ty #[mv, kv]).run P w = .ok (.tuple #[]) w' ∧ Sim F ρ h' w' := by
  unfold aMapDel at he
  split at he
  · rename_i ti b ht
    obtain ⟨d, i, hu, hi, _, _, hkk⟩ := (hC.ty _ _ ht).agg
    split at he
    · rename_i kt et es clock hq hb
      rw [hq] at hkk
      cases d <;> simp only [kindOk] at hkk
      obtain ⟨rfl, rfl⟩ := hkk
      obtain ⟨cs, hr, rfl⟩ := hm
      cases hr with
      | map hl =>
        rename_i l
        obtain ⟨o, ho, hok⟩ := s.blk b _ _ hb hl
        cases hok with
        | map hes =>
          rename_i ents
          split at he
          · rename_i hc
            split at he
            · rename_i bb hself hf
              cases he
              obtain ⟨hchk, dk, hdk⟩ := keyFacts hC hself hk w
              obtain ⟨y, g1, g2⟩ := aFind_sound hC hk w es ents.toList 0 _ hf hes
              cases y with
              | some y => simp [FoundOk] at g2
              | none =>
                have hfk := run_findKey' hdk kv ents.toList w g1
                obtain ⟨k1, k2⟩ := setMap_heap (w := w) (o' := .map ents clock) ho
                refine ⟨_, ?_, s.put hb hl rfl k1 k2 (.map hes) rfl (by simp)⟩
                simp [Builtin.delete_, run_underlying hu, V.pack, run_getMap ho, hchk, hfk, run_setMap ho]
            · rename_i bb i _ hself hf
              cases he
              obtain ⟨hchk, dk, hdk⟩ := keyFacts hC hself hk w
              obtain ⟨y, g1, g2⟩ := aFind_sound hC hk w es ents.toList 0 _ hf hes
              cases y with
              | none => simp [FoundOk] at g2
              | some y =>
                obtain ⟨j, y⟩ := y
                obtain ⟨rfl, _, _, _⟩ := g2
                have hfk := run_findKey' hdk kv ents.toList w g1
                obtain ⟨k1, k2⟩ := setMap_heap (w := w) (o' := .map (ents.eraseIdxIfInBounds i) clock) ho
                refine ⟨_, ?_, s.put hb hl rfl k1 k2 (.map ?_) rfl (by simp)⟩
                · simp [Builtin.delete_, run_underlying hu, V.pack, run_getMap ho, hchk, hfk, run_setMap ho]
                · have : (ents.eraseIdxIfInBounds i).toList = ents.toList.eraseIdx i := by simp [Array.eraseIdxIfInBounds]; split <;> simp_all [List.eraseIdx_of_length_le]
                  rw [this]; exact hes.erase i
            · simp at he
          · simp at he
    · simp at he
  · simp at he
end
end Go.A
