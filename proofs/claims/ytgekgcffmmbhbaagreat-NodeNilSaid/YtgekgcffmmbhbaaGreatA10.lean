/- append is sound. -/
import Derived.Test.YtgekgcffmmbhbaaGreatA9
set_option linter.unusedVariables false
set_option linter.unusedSimpArgs false
noncomputable section
namespace Go.A
open Go
set_option linter.unusedSectionVars false
variable [Outer]
section
variable {P : Program} {C : Ctx} (hC : CtxOk P C) {F : Frz} {ρ : Ren} {h : H} {w : World}
theorem H.get_kill (h : H) (b c : Nat) (y : Blk) (hy : (h.set b .dead).get c = some y) : c ≠ b ∧ h.get c = some y := by
  rw [H.get_set] at hy
  by_cases e : c = b
  · simp [e] at hy
  · simp only [e, if_false] at hy; exact ⟨e, hy⟩
/-- A row moves on: the elder block is dead, the new one may stand over the same cells. -/
theorem Sim.move {w' : World} (s : Sim F ρ h w) {b : Nat} {x x' : Blk} {l l' : Loc} {o : Obj} (hx : h.get b = some x) (hl : ρ b = some l) (hw : x.writable = true) (hbb : l'.bb = l.bb)
    (h1 : ∀ n, n ≠ l.bb → w'.heap[n]? = w.heap[n]?) (h2 : w'.heap[l.bb]? = some o) (h3 : ObjOk F ρ x' l' o) (hd : x' ≠ .dead) (eio : SameIo w w' := by exact ⟨rfl, rfl⟩) :
    Ext F ρ F ⟨fun c => if c = h.next then some l' else ρ c, ρ.nx⟩ ∧ Sim F ⟨fun c => if c = h.next then some l' else ρ c, ρ.nx⟩ ((h.set b .dead).push x') w' := by
  have he : Ext F ρ F ⟨fun c => if c = h.next then some l' else ρ c, ρ.nx⟩ := ⟨fun _ _ hh => hh, fun c q hq => by
    have := s.dom c q hq
    simp only [show c ≠ h.next by omega, if_false]; exact hq, Nat.le_refl _, fun c hc => by
    have := s.nx
    simp only [show c ≠ h.next by omega, if_false]⟩
  have hFl := s.live b x l hx hl hw
  have hg : ∀ c y, ((h.set b .dead).push x').get c = some y → (c = h.next ∧ y = x') ∨ (c ≠ h.next ∧ c ≠ b ∧ h.get c = some y) := by
    intro c y hy
    rw [H.get_push] at hy
    by_cases e : c = h.next
    · have e' : c = (h.set b .dead).next := e
      rw [if_pos e'] at hy
      cases x' <;> simp_all
    · have e' : ¬ c = (h.set b .dead).next := e
      rw [if_neg e'] at hy
      obtain ⟨q1, q2⟩ := H.get_kill h b c y hy
      exact .inr ⟨e, q1, q2⟩
  refine ⟨he, ⟨fun n o' hn => ?_, fun c q hq => ?_, fun c y q hy hq => ?_, fun c c' l1 l2 y y' hl1 hl2 hy hy' hq => ?_, fun c y q hy hq hwr => ?_, Nat.le_succ_of_le s.nx, s.same eio⟩⟩
  · have : n ≠ l.bb := by rintro rfl; rw [hFl] at hn; cases hn
    rw [h1 n this]; exact s.frz n o' hn
  · show c < h.next + 1
    by_cases e : c = h.next
    · omega
    · simp only [e, if_false] at hq; have := s.dom c q hq; omega
  · rcases hg c y hy with ⟨rfl, rfl⟩ | ⟨hne, hnb, hy'⟩
    · simp only [if_true, Option.some.injEq] at hq; subst hq
      exact ⟨o, by rw [hbb]; exact h2, h3.mono he⟩
    · simp only [hne, if_false] at hq
      obtain ⟨o', ho', hk⟩ := s.blk c y q hy' hq
      have : q.bb ≠ l.bb := fun e => hnb (s.inj c b q l y x hq hl hy' hx e)
      exact ⟨o', by rw [h1 _ this]; exact ho', hk.mono he⟩
  · rcases hg c y hy with ⟨rfl, rfl⟩ | ⟨hne, hnb, hy1⟩ <;> rcases hg c' y' hy' with ⟨rfl, rfl⟩ | ⟨hne', hnb', hy1'⟩
    · rfl
    · simp only [if_true, Option.some.injEq] at hl1; subst hl1
      simp only [hne', if_false] at hl2
      exact absurd (s.inj c' b l2 l y' x hl2 hl hy1' hx (by rw [← hq, hbb])) hnb'
    · simp only [if_true, Option.some.injEq] at hl2; subst hl2
      simp only [hne, if_false] at hl1
      exact absurd (s.inj c b l1 l y x hl1 hl hy1 hx (by rw [hq, hbb])) hnb
    · simp only [hne, if_false] at hl1
      simp only [hne', if_false] at hl2
      exact s.inj c c' l1 l2 y y' hl1 hl2 hy1 hy1' hq
  · rcases hg c y hy with ⟨rfl, rfl⟩ | ⟨hne, hnb, hy'⟩
    · simp only [if_true, Option.some.injEq] at hq; subst hq
      rw [hbb]; exact hFl
    · simp only [hne, if_false] at hq
      exact s.live c y q hy' hq hwr
theorem Sim.kill (s : Sim F ρ h w) (b : Nat) : Sim F ρ (h.set b .dead) w :=
  ⟨s.frz, s.dom, fun c y q hy hq => s.blk c y q (H.get_kill h b c y hy).2 hq, fun c c' l1 l2 y y' hl1 hl2 hy hy' hq => s.inj c c' l1 l2 y y' hl1 hl2 (H.get_kill h b c y hy).2 (H.get_kill h b c' y' hy').2 hq,
    fun c y q hy hq hwr => s.live c y q (H.get_kill h b c y hy).2 hq hwr, s.nx, s.io⟩
/-- A frozen row is made. -/
theorem Sim.freezeNew {w' : World} (s : Sim F ρ h w) {o : Obj} (h1 : ∀ n, n < w.heap.size → w'.heap[n]? = w.heap[n]?) (h2 : w'.heap[w.heap.size]? = some o) (eio : SameIo w w' := by exact ⟨rfl, rfl⟩) :
    Ext F ρ (fun n => if n = w.heap.size then some o else F n) ρ ∧ Sim (fun n => if n = w.heap.size then some o else F n) ρ h w' := by
  have hF : ∀ n o, F n = some o → n < w.heap.size := fun n o hn => (Array.getElem?_eq_some_iff.1 (s.frz n o hn)).1
  have he : Ext F ρ (fun n => if n = w.heap.size then some o else F n) ρ := ⟨fun n o' hn => by
    have := hF n o' hn
    simp only [show n ≠ w.heap.size by omega, if_false]; exact hn, fun _ _ hh => hh, Nat.le_refl _, fun _ _ => rfl⟩
  have hlt : ∀ c y l', h.get c = some y → ρ c = some l' → l'.bb < w.heap.size := fun c y l' hy hl' => by
    obtain ⟨o', ho', _⟩ := s.blk c y l' hy hl'
    exact (Array.getElem?_eq_some_iff.1 ho').1
  refine ⟨he, ⟨fun n o' hn => ?_, s.dom, fun c y q hy hq => ?_, s.inj, fun c y q hy hq hwr => ?_, s.nx, s.same eio⟩⟩
  · by_cases e : n = w.heap.size
    · simp only [e, if_true] at hn; cases hn; rw [e]; exact h2
    · simp only [e, if_false] at hn; rw [h1 n (hF n o' hn)]; exact s.frz n o' hn
  · obtain ⟨o', ho', hk⟩ := s.blk c y q hy hq
    exact ⟨o', by rw [h1 _ (hlt c y q hy hq)]; exact ho', hk.mono he⟩
  · have := hlt c y q hy hq
    simp only [show q.bb ≠ w.heap.size by omega, if_false]; exact s.live c y q hy hq hwr
theorem relL_append {F ρ} : ∀ {vs us : List V} {cs ds : List Value}, RelL F ρ vs cs → RelL F ρ us ds → RelL F ρ (vs ++ us) (cs ++ ds)
  | _, _, _, _, .nil, h => by simpa using h
  | _, _, _, _, .cons hn h hs, h' => by
    rw [List.cons_append, List.append_assoc]
    exact .cons hn h (relL_append hs h')
/-- The append that makes a new row. -/
theorem append_grow {t tx ty e : TypeId} {i : TypeInfo} {z : Value} (ht : P.underlying t = some (.slice e)) (hi : P.info? e = some i) (hz : i.zero = some z) (hzs : z.cells.size = i.size)
    {olds xs : List V} {sv xv : Value} {base : Option Addr} {c : Nat} {cs ds : List Value} (s : Sim F ρ h w) (ho : Row F ρ i.size olds sv cs w) (hsv : sv = .slice base olds.length c) (hx : Row F ρ i.size xs xv ds w)
    (hs : Src P i.size tx xv xs.length ds w) (hg : c < olds.length + xs.length) (hb : 0 < i.bytes) (hfit : (olds.length + xs.length) * i.bytes ≤ 140737488355328) :
    ∃ cap obj w', (Builtin.append_ #[t, tx] ty #[sv, xv]).run P w = .ok (.slice (some ⟨w.heap.size, 0, none⟩) (olds.length + xs.length) cap) w' ∧ olds.length + xs.length ≤ cap ∧
      w'.heap = w.heap.push (.cells obj e) ∧ obj.size = cap * i.size ∧ (∀ (j : Nat) (u : Value), (cs ++ ds)[j]? = some u → obj[j]? = some u) ∧ SameIo w w' := by
  subst hsv
  have hl1 := ho.len
  have hl2 := hx.len
  have hold : (Builtin.firstCells i.size olds.length (.slice base olds.length c)).run P w.drew = .ok cs.toArray w.drew := by
    rcases ho.val with ⟨a, c', hv, hc⟩ | ⟨st, hv, _⟩
    · simp only [Value.slice.injEq] at hv
      obtain ⟨rfl, _, rfl⟩ := hv
      cases base with
      | none =>
        have : cs = [] := by
          cases hcs : cs with
          | nil => rfl
          | cons u r => obtain ⟨b, hb, _⟩ := hc 0 u (by rw [hcs]; rfl); cases hb
        subst this
        exact run_firstCells_none w.drew i.size olds.length olds.length c
      | some b => exact run_firstCells_some w.drew i.size olds.length b olds.length c cs hl1 (fun j u hu => by obtain ⟨b', hb, hcell⟩ := hc j u hu; cases hb; simpa using hcell)
    · cases hv
  have h63 : ((olds.length + xs.length : Nat) : Int) ≤ 9223372036854775807 := by
    have : olds.length + xs.length ≤ (olds.length + xs.length) * i.bytes := Nat.le_mul_of_pos_right _ hb
    omega
  have hrun := run_append_grow_src (P := P) w t tx ty e i z ht hi hz base olds.length c cs hold xv xs.length ds hs hg h63 (growslice_fits hg hfit)
  have hcap : olds.length + xs.length ≤ grownCap w (olds.length + xs.length) c e := by
    unfold grownCap Question.cut
    exact Nat.le_add_right _ _
  refine ⟨_, _, _, hrun, hcap, rfl, ?_, ?_, ⟨rfl, rfl⟩⟩
  · simp only [Array.size_append, List.size_toArray, List.length_append, hl1, hl2]
    have : (Builtin.zeroCells z.cells (grownCap w (olds.length + xs.length) c e - (olds.length + xs.length))).size = (grownCap w (olds.length + xs.length) c e - (olds.length + xs.length)) * i.size := by
      unfold Builtin.zeroCells; simp [hzs]
    rw [this, ← Nat.add_mul, ← Nat.add_mul]
    congr 1; omega
  · intro j u hu
    rw [Array.getElem?_append_left (by simp; have := (List.getElem?_eq_some_iff.1 hu).1; simpa using this)]
    simpa using hu
include hC in
theorem aAppend_sound {t tx ty : TypeId} {s x y : V} {frz : Bool} {h' : H} {sv xv : Value} (he : aAppend C t tx s x frz h = some (y, h')) (sm : Sim F ρ h w) (hs : RelV F ρ s sv) (hx : RelV F ρ x xv) :
    ∃ v w' F' ρ', (Builtin.append_ #[t, tx] ty #[sv, xv]).run P w = .ok v w' ∧ Ext F ρ F' ρ' ∧ Sim F' ρ' h' w' ∧ RelV F' ρ' y v := by
  unfold aAppend at he
  split at he
  rotate_left
  · exact absurd he (by simp)
  rename_i ti tix ht htx
  obtain ⟨d, i0, hu, _, _, _, hk⟩ := (hC.ty _ _ ht).agg
  obtain ⟨dx, ix, hux, _, _, _, hkx⟩ := (hC.ty _ _ htx).agg
  split at he
  rotate_left
  · simp at he
  rename_i e hke
  rw [hke] at hk
  cases d <;> simp only [kindOk] at hk
  subst hk
  split at he
  rotate_left
  · simp at he
  rename_i te hte
  obtain ⟨i, de, z, hi, hue, hsz, hby, _, hz, hzr, hzt, _, hzsz⟩ := (hC.ty _ _ hte).ok
  have hzs : z.cells.size = i.size := by
    obtain ⟨zc, hzc, rfl⟩ := hzr F ρ
    have := hzc.isAgg_pack hzt
    have := congrArg List.length this
    simp at this
    rw [this, hzc.length, hzsz, hsz]
  split at he
  · simp at he
  rename_i hcond
  simp only [not_or, Bool.not_eq_false] at hcond
  obtain ⟨hkind, hb0⟩ := hcond
  unfold kindFits at hkind
  have hbpos : 0 < i.bytes := by omega
  have hkk : (∃ e', P.underlying tx = some (.slice e') ∧ ∀ s, xv ≠ .string s) ∨ (P.underlying tx = some .string ∧ ∃ s, xv = .string s) := by
    split at hkind
    · rename_i e' hkt
      rw [hkt] at hkx
      cases dx <;> simp only [kindOk] at hkx
      left
      refine ⟨_, hux, fun s hs => ?_⟩
      obtain ⟨cs, hr, rfl⟩ := hx
      cases hr <;> simp_all [V.pack, isStr]
    · rename_i hkt
      rw [hkt] at hkx
      cases dx <;> simp only [kindOk] at hkx
      right
      refine ⟨hux, ?_⟩
      cases x <;> simp [isStr] at hkind
      rename_i q
      cases q <;> simp [isStr] at hkind
      obtain ⟨rfl, _⟩ := sc_val hx
      exact ⟨_, rfl⟩
    · simp at hkind
  split at he
  · -- nothing is appended
    rename_i hel
    obtain ⟨cs, hrow⟩ := aElems_sound hel sm hx
    have hsrc := hrow.src hkk
    have hcs : cs = [] := by have := hrow.len; simpa using this
    subst hcs
    have : ∃ base n c, sv = .slice base n c ∧ n ≤ c ∧ y = s ∧ h' = h := by
      split at he
      · cases he; obtain ⟨cs, hr, rfl⟩ := hs; cases hr; exact ⟨_, _, _, rfl, Nat.le_refl _, rfl, rfl⟩
      · cases he; obtain ⟨cs, hr, rfl⟩ := hs; cases hr with
        | sl hl ha hn hc => exact ⟨_, _, _, rfl, hn, rfl, rfl⟩
      · cases he; obtain ⟨cs, hr, rfl⟩ := hs; cases hr with
        | listNil => exact ⟨_, _, _, rfl, Nat.zero_le _, rfl, rfl⟩
        | list h1 h2 h3 h4 h5 => exact ⟨_, _, _, rfl, h5, rfl, rfl⟩
      · simp at he
    obtain ⟨base, n, c, rfl, hnc, rfl, rfl⟩ := this
    rw [← hsz] at hsrc
    exact ⟨_, _, F, ρ, run_append_nothing (P := P) w t tx ty e i hu hi base n c hnc xv hsrc, .refl _ _, sm, hs⟩
  · rename_i xs hne hel
    obtain ⟨ds, hrow⟩ := aElems_sound hel sm hx
    have hsrc := hrow.src hkk
    rw [← hsz] at hsrc hrow
    have hpos : 0 < xs.length := by
      cases xs with
      | nil => exact absurd rfl hne
      | cons => simp
    have key : ∃ olds, aElems s te.sz h = some olds ∧ ((∃ b, s = .nl b) ∨ ∃ p a b c d, s = .sl p a b c d) ∧
        aGrow te s olds xs frz h = some (y, h') := by
      split at he
      · split at he
        · rename_i olds ho; exact ⟨olds, ho, .inl ⟨_, rfl⟩, he⟩
        · simp at he
      · split at he
        · rename_i olds ho; exact ⟨olds, ho, .inr ⟨_, _, _, _, _, rfl⟩, he⟩
        · simp at he
      · simp at he
    clear he
    obtain ⟨olds, ho, hform, he⟩ := key
    obtain ⟨cs, hor⟩ := aElems_sound ho sm hs
    rw [← hsz] at hor
    unfold aGrow at he
    split at he
    · simp at he
    rename_i hfit
    have hfit' : (olds.length + xs.length) * i.bytes ≤ 140737488355328 := by rw [hby]; omega
    have hall : RelL F ρ (olds ++ xs) (cs ++ ds) := relL_append hor.rel hrow.rel
    have hsizes : ∀ v ∈ olds ++ xs, v.size = i.size := fun v hv => (List.mem_append.1 hv).elim (hor.sizes v) (hrow.sizes v)
    -- what s is in the model
    have hslice : ∃ base c, sv = .slice base olds.length c ∧ ∀ k, capOf s = some k → c = k := by
      rcases hor.val with ⟨a, c, hv, _⟩ | ⟨st, hv, _⟩
      · refine ⟨a, c, hv, fun k hk => ?_⟩
        rcases hform with ⟨_, rfl⟩ | ⟨p, a', b', c', d', rfl⟩
        · obtain ⟨q, hr, rfl⟩ := hs; cases hr; simp [V.pack] at hv; simp [capOf] at hk; omega
        · obtain ⟨q, hr, rfl⟩ := hs; cases hr with
          | sl hl ha hn hc => simp [V.pack] at hv; rw [← hv.2.2]; exact hc k hk
      · rcases hform with ⟨_, rfl⟩ | ⟨p, a', b', c', d', rfl⟩
        · obtain ⟨q, hr, rfl⟩ := hs; cases hr; simp [V.pack] at hv
        · obtain ⟨q, hr, rfl⟩ := hs; cases hr with
          | sl hl ha hn hc => simp [V.pack] at hv
    obtain ⟨base, c, hsv, hcapk⟩ := hslice
    -- the new row
    have grow : c < olds.length + xs.length → ∀ hh : H, Sim F ρ hh w → (∃ v w' F' ρ', (Builtin.append_ #[t, tx] ty #[sv, xv]).run P w = .ok v w' ∧ Ext F ρ F' ρ' ∧ Sim F' ρ' hh w' ∧ RelV F' ρ' (.list (olds ++ xs)) v) ∧
        (∃ v w' F' ρ', (Builtin.append_ #[t, tx] ty #[sv, xv]).run P w = .ok v w' ∧ Ext F ρ F' ρ' ∧ Sim F' ρ' (hh.push (.cells (.agg (olds ++ xs)) false)) w' ∧ RelV F' ρ' (.sl ⟨hh.next, [], 0⟩ te.sz 0 (olds.length + xs.length) none) v) := by
      intro hg hh sm'
      obtain ⟨cap, obj, w', hrun, hcap, hheap, hobj, hin, hio⟩ := append_grow (P := P) (ty := ty) hu hi hz hzs sm hor hsv hrow hsrc hg hbpos hfit'
      have e1 : ∀ n, n < w.heap.size → w'.heap[n]? = w.heap[n]? := fun n hn => by rw [hheap, Array.getElem?_push_lt hn, Array.getElem?_eq_getElem hn]
      have e2 : w'.heap[w.heap.size]? = some (.cells obj e) := by rw [hheap]; simp
      constructor
      · obtain ⟨x1, x2⟩ := sm'.freezeNew e1 e2 hio
        refine ⟨_, w', _, ρ, hrun, x1, x2, ?_⟩
        have hr := RelL.mono x1 hall
        have := Rel.list (F := fun n => if n = w.heap.size then some (Obj.cells obj e) else F n) (ρ := ρ) (bb := w.heap.size) (off := 0) (c := cap) (cells := obj) (E := e) (fz := (0, 0)) (by simp) hr hsizes (fun j u hu => by simpa using hin j u hu) (by simpa using hcap)
        exact ⟨_, this, by simp [V.pack]⟩
      · have h3 : ObjOk F ρ (.cells (.agg (olds ++ xs)) false) ⟨w.heap.size, 0, obj.size⟩ (.cells obj e (0, 0)) :=
          .cells rfl (.inl rfl) (.agg hall) rfl (fun j u hu => by simpa using hin j u hu)
        obtain ⟨x1, x2⟩ := sm'.push (w' := w') (l := ⟨w.heap.size, 0, obj.size⟩) rfl e1 e2 h3 (by simp) hio
        refine ⟨_, w', _, _, hrun, x1, x2, _, .sl (l := ⟨w.heap.size, 0, obj.size⟩) (c := cap) (a := ⟨w.heap.size, 0, none⟩) (by simp) (.inl ⟨by simp, by simp [hobj, hsz]⟩) hcap (by simp), rfl⟩
    split at he
    · rename_i k hk
      have hck := hcapk k hk
      split at he
      · rename_i hlt
        have hg : c < olds.length + xs.length := by omega
        split at he
        · cases he; exact (grow hg h sm).1
        · cases he; exact (grow hg h sm).2
      · simp at he
    · rename_i hk
      split at he
      rotate_left
      · simp at he
      rename_i p esz i1 n1 cap1 
      split at he
      rotate_left
      · simp at he
      rename_i hcc
      obtain ⟨hpath, hlo, hfrz⟩ := hcc
      split at he
      rotate_left
      · simp at he
      rename_i v0 hget
      cases he
      by_cases hg : c < olds.length + xs.length
      · exact (grow hg (h.set p.b .dead) (sm.kill p.b)).2
      · -- there is room
        obtain ⟨q, hr, hq⟩ := hs
        cases hr with
        | sl hl ha hn hcp =>
          rename_i c' l a
          rw [hsv] at hq
          simp only [V.pack, List.headD_cons, Value.slice.injEq] at hq
          obtain ⟨rfl, hlen, rfl⟩ := hq
          rcases ha with ⟨rfl, hroom⟩ | ⟨hz1, hz2⟩
          · have hesz : esz = te.sz := by
              simp only [aElems] at ho
              split at ho
              · split at ho
                · rename_i hcnd; exact hcnd.2.1
                · simp at ho
              · simp at ho
            subst hesz
            obtain ⟨obj, hobj, hok⟩ := sm.blk _ _ _ hget hl
            cases hok with
            | cells hs' hf hr' hn' hin' =>
              rename_i cc E fz vcs
              have hdl := hrow.len
              have hcl := hor.len
              rw [hsz] at hdl hcl
              have hbound : l.sh + p.off + i1 * te.sz + olds.length * te.sz + ds.length ≤ cc.size := by
                have : (olds.length + xs.length) * te.sz ≤ c * te.sz := Nat.mul_le_mul_right _ (by omega)
                have e2 : (olds.length + xs.length) * te.sz = olds.length * te.sz + xs.length * te.sz := Nat.add_mul _ _ _
                have e3 : (i1 + c) * te.sz = i1 * te.sz + c * te.sz := Nat.add_mul _ _ _
                omega
              have hcell : ∀ j, j < ds.length → (w.cell? ⟨l.bb, l.sh + p.off + i1 * te.sz + olds.length * i.size + j, none⟩).isSome = true := fun j hj => by
                unfold World.cell?; rw [hobj]
                simp only [Option.isSome_none, Bool.false_eq_true, if_false]
                rw [Array.getElem?_eq_getElem (by rw [hsz]; omega)]; rfl
              have hfrz : ∀ j, j < ds.length → w.frozen? ⟨l.bb, l.sh + p.off + i1 * te.sz + olds.length * i.size + j, none⟩ = false := fun j hj => by
                unfold World.frozen?; rw [hobj]
                exact hf.at_ (l.sh + p.off + i1 * te.sz + olds.length * i.size + j) (by rw [hsz]; omega)
              have hrun := run_append_room_src (P := P) w t tx ty e i hu hi l.bb (l.sh + p.off + i1 * te.sz) olds.length c xv xs.length ds hsrc (by omega) hcell hfrz
              obtain ⟨k1, k0, c', k2, k3, k4⟩ := heap_setCells l.bb E fz ds (l.sh + p.off + i1 * te.sz + olds.length * i.size) w cc hobj (by rw [hsz]; omega)
              have h3 : ObjOk F ρ (.cells (.agg (olds ++ xs)) false) ⟨l.bb, l.sh + p.off + i1 * te.sz, l.size⟩ (.cells c' E fz) := by
                refine .cells (by rw [k3]; exact hs') (by rw [k3]; exact hf) (.agg hall) rfl (fun j u hu => ?_)
                rw [k4]
                show (if _ then _ else _) = some u
                by_cases hj : j < cs.length
                · rw [if_neg (by simp only [hsz]; omega)]
                  rw [List.getElem?_append_left hj] at hu
                  rcases hor.val with ⟨a2, c2, hv2, hcells⟩ | ⟨st, hv2, _⟩
                  · obtain ⟨b2, hb2, hcell2⟩ := hcells j u hu
                    rw [hsv] at hv2
                    simp only [Value.slice.injEq] at hv2
                    rw [← hv2.1] at hb2
                    cases hb2
                    rw [Addr.add_mid] at hcell2
                    unfold World.cell? at hcell2
                    rw [hobj] at hcell2
                    simpa using hcell2
                  · rw [hsv] at hv2; cases hv2
                · have hj2 := (List.getElem?_eq_some_iff.1 hu).1
                  rw [List.length_append] at hj2
                  rw [if_pos (by simp only [hsz]; omega)]
                  rw [List.getElem?_append_right (by omega)] at hu
                  rw [← hu]; congr 1; simp only [hsz]; omega
              obtain ⟨x1, x2⟩ := sm.move (w' := w.setCells l.bb (l.sh + p.off + i1 * te.sz + olds.length * i.size) ds) (l' := ⟨l.bb, l.sh + p.off + i1 * te.sz, l.size⟩) hget hl rfl rfl k1 k2 h3 (by simp) ⟨Go.World.os_setCells _ _ _ _, Go.World.output_setCells _ _ _ _⟩
              rw [hsv]
              refine ⟨_, _, F, _, hrun, x1, x2, _, .sl (l := ⟨l.bb, l.sh + p.off + i1 * te.sz, l.size⟩) (c := c) (a := ⟨l.bb, l.sh + p.off + i1 * te.sz, none⟩) (by simp) (.inl ⟨by simp, ?_⟩) (by omega) (by simp), rfl⟩
              show l.sh + p.off + i1 * te.sz + 0 + (0 + c) * te.sz ≤ l.size
              have e3 : (i1 + c) * te.sz = i1 * te.sz + c * te.sz := Nat.add_mul _ _ _
              rw [Nat.zero_add]; omega
          · omega
  · simp at he
end
end Go.A
