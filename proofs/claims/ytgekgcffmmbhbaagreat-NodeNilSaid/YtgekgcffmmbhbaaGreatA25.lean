/- Rows that are made, copied into, cleared. -/
import Derived.Test.YtgekgcffmmbhbaaGreatA24
import Derived.Laws.MakeOwn
set_option linter.unusedVariables false
set_option linter.unusedSimpArgs false
noncomputable section
namespace Go.A
open Go
set_option linter.unusedSectionVars false
variable [Outer]
section
variable {P : Program} {C : Ctx} (hC : CtxOk P C) {F : Frz} {ρ : Ren} {h : H} {w : World}
theorem heap_ext {a b : Array Obj} (n : Nat) (h1 : ∀ k, k ≠ n → a[k]? = b[k]?) (h2 : a[n]? = b[n]?) : a = b := by
  apply Array.ext_getElem?
  intro k
  by_cases e : k = n
  · rw [e, h2]
  · exact h1 k e
/-- Cells that are written with what they hold do not count. -/
theorem setCells_mid {b o : Nat} {E : TypeId} {fz : Nat × Nat} {c : Array Value} {pre mid post : List Value} (hb : w.heap[b]? = some (.cells c E fz)) (hl : o + (pre ++ mid ++ post).length ≤ c.size)
    (h1 : ∀ (j : Nat) (u : Value), pre[j]? = some u → c[o + j]? = some u) (h2 : ∀ (j : Nat) (u : Value), post[j]? = some u → c[o + pre.length + mid.length + j]? = some u) :
    (w.setCells b o (pre ++ mid ++ post)).heap = (w.setCells b (o + pre.length) mid).heap := by
  obtain ⟨a1, _, c1, a2, a3, a4⟩ := heap_setCells b E fz (pre ++ mid ++ post) o w c hb hl
  obtain ⟨b1, _, c2, b2, b3, b4⟩ := heap_setCells b E fz mid (o + pre.length) w c hb (by simp at hl; omega)
  refine heap_ext b (fun k hk => by rw [a1 k hk, b1 k hk]) ?_
  rw [a2, b2]
  have : c1 = c2 := by
    apply Array.ext_getElem?
    intro k
    rw [a4, b4]
    by_cases q1 : k < o + pre.length
    · rw [if_neg (show ¬ (o + pre.length ≤ k ∧ k < o + pre.length + mid.length) by omega)]
      split
      · rename_i hk
        rw [List.append_assoc, List.getElem?_append_left (by omega)]
        have hlt : k - o < pre.length := by omega
        rw [List.getElem?_eq_getElem hlt]
        have := h1 (k - o) _ (List.getElem?_eq_getElem hlt)
        rw [show o + (k - o) = k by omega] at this
        exact this.symm
      · rfl
    · by_cases q2 : k < o + pre.length + mid.length
      · rw [if_pos (show o + pre.length ≤ k ∧ k < o + pre.length + mid.length by omega), if_pos (show o ≤ k ∧ k < o + (pre ++ mid ++ post).length by simp; omega)]
        rw [List.append_assoc, List.getElem?_append_right (by omega), List.getElem?_append_left (by omega)]
        congr 1; omega
      · rw [if_neg (show ¬ (o + pre.length ≤ k ∧ k < o + pre.length + mid.length) by omega)]
        split
        · rename_i hk
          simp only [List.length_append] at hk
          rw [List.getElem?_append_right (by simp; omega)]
          simp only [List.length_append]
          have hlt : k - o - (pre.length + mid.length) < post.length := by omega
          rw [List.getElem?_eq_getElem hlt]
          have := h2 (k - o - (pre.length + mid.length)) _ (List.getElem?_eq_getElem hlt)
          rw [show o + pre.length + mid.length + (k - o - (pre.length + mid.length)) = k by omega] at this
          exact this.symm
        · rfl
  rw [this]
theorem rowPut_sound {p : Pt} {vs xs : List V} {i esz : Nat} {cs : List Value} {l : Loc} {h' : H} (hlook : lookC h p = some (.agg vs)) (he : aPut h p (V.sizeL vs) (.agg (vs.take i ++ xs ++ vs.drop (i + xs.length))) = some h') (s : Sim F ρ h w)
    (hl : ρ p.b = some l) (hi : V.sizeL (vs.take i) = i * esz) (hmid : V.sizeL ((vs.drop i).take xs.length) = xs.length * esz) (hxs : ∀ v ∈ xs, v.size = esz) (hr : RelL F ρ xs cs) :
    ∃ w', (storeCells ⟨l.bb, l.sh + p.off + i * esz, none⟩ cs).run P w = .ok () w' ∧ Sim F ρ h' w' := by
  obtain ⟨ds, hlies⟩ := s.lies hl hlook
  cases hlies.rel with
  | agg hrel =>
    obtain ⟨r1, r2⟩ := relL_split hrel i
    obtain ⟨r3, r4⟩ := relL_split r2 xs.length
    rw [hi] at r1 r2 r3 r4
    rw [hmid] at r3 r4
    rw [List.drop_drop] at r4
    rw [List.drop_drop] at r4
    have hcl : cs.length = xs.length * esz := by rw [hr.length, sizeL_const hxs]
    have hw : RelL F ρ (vs.take i ++ xs ++ vs.drop (i + xs.length)) (ds.take (i * esz) ++ cs ++ ds.drop (i * esz + xs.length * esz)) := relL_append (relL_append r1 hr) r4
    obtain ⟨g1, g2, g3, g4⟩ := aPut_sound he s hl (.agg hw)
    have hdl : ds.length = V.sizeL vs := hrel.length
    have hyl : (ds.take (i * esz) ++ cs ++ ds.drop (i * esz + xs.length * esz)).length = ds.length := by rw [g1, hdl]
    have htl : (ds.take (i * esz)).length = i * esz := by rw [r1.length, hi]
    have hst := run_storeCells_cells (P := P) l.bb (l.sh + p.off + i * esz) cs 0 w
      (fun j hj => by
        have := (g3 (i * esz + j) (by simp only [List.length_append, htl]; omega)).1
        rw [show l.sh + p.off + i * esz + 0 + j = l.sh + p.off + (i * esz + j) by omega]; exact this)
      (fun j hj => by
        have := (g3 (i * esz + j) (by simp only [List.length_append, htl]; omega)).2
        rw [show l.sh + p.off + i * esz + 0 + j = l.sh + p.off + (i * esz + j) by omega]; exact this)
      (fun u hu => g2 u (by simp [hu]))
    rw [Nat.add_zero] at hst
    refine ⟨_, hst, ?_⟩
    unfold aPut at he
    split at he
    · rename_i v0 hg
      obtain ⟨obj, hobj, hok⟩ := s.blk _ _ _ hg hl
      cases hok with
      | cells hs hf hr0 hn hin =>
        rename_i c E fz cs0
        by_cases hz : ds.length = 0
        · have h1 : cs = [] := List.eq_nil_of_length_eq_zero (by simp only [List.length_append] at hyl; omega)
          subst h1
          have h2 : ds = [] := List.eq_nil_of_length_eq_zero hz
          subst h2
          have g5 : Sim F ρ h' w := by simp only [List.take_nil, List.drop_nil, List.append_nil] at g4; exact g4
          exact g5
        · have hbound : l.sh + p.off + ds.length ≤ c.size := by
            have := (g3 (ds.length - 1) (by rw [hyl]; omega)).1
            unfold World.cell? at this
            rw [hobj] at this
            simp only [Option.isSome_none, Bool.false_eq_true, if_false] at this
            by_cases hc : l.sh + p.off + (ds.length - 1) < c.size
            · omega
            · rw [Array.getElem?_eq_none (by omega)] at this; simp at this
          have cellc : ∀ (j : Nat) (u : Value), ds[j]? = some u → c[l.sh + p.off + j]? = some u := fun j u hu => by
            have := hlies.rng j u hu
            unfold World.cell? at this
            rw [hobj] at this
            simpa using this
          have := setCells_mid (w := w) (pre := ds.take (i * esz)) (mid := cs) (post := ds.drop (i * esz + xs.length * esz)) hobj (by rw [hyl]; exact hbound)
            (fun j u hu => cellc j u (by rw [← hu, List.getElem?_take_of_lt (by have := (List.getElem?_eq_some_iff.1 hu).1; omega)]))
            (fun j u hu => by
              rw [htl, hcl]
              rw [List.getElem?_drop] at hu
              have := cellc _ u hu
              rw [← this]; congr 1; omega)
          rw [htl] at this
          exact g4.heap_eq this.symm ⟨(Go.World.os_setCells _ _ _ _).trans (Go.World.os_setCells _ _ _ _).symm, (Go.World.output_setCells _ _ _ _).trans (Go.World.output_setCells _ _ _ _).symm⟩
    · simp at he

/-! ### make -/
def aMakeSlice (C : Ctx) (t : TypeId) (l c : V) (h : H) : Option (V × H) :=
  match C.ty.get t, l, c with
  | some ti, .sc (.int _ l), .sc (.int _ c) => match ti.k with
    | .slc e => match C.ty.get e with
      | some te => if 0 ≤ l ∧ l ≤ c ∧ (te.bytes : Int) * c ≤ 140737488355328 ∧ c ≤ 9223372036854775807 ∧ te.sz ≠ 0 then
          some (.sl ⟨h.next, [], 0⟩ te.sz 0 l.toNat (some c.toNat), h.push (.cells (.agg (List.replicate c.toNat te.zero)) false)) else none
      | none => none
    | _ => none
  | _, _, _ => none
include hC in
theorem aMakeSlice_sound {t : TypeId} {l c y : V} {h' : H} {lv cv : Value} (he : aMakeSlice C t l c h = some (y, h')) (s : Sim F ρ h w) (hl : RelV F ρ l lv) (hc : RelV F ρ c cv) :
    ∃ z w' ρ', (Instr.makeSlice t lv cv).run P w = .ok z w' ∧ Ext F ρ F ρ' ∧ Sim F ρ' h' w' ∧ RelV F ρ' y z := by
  unfold aMakeSlice at he
  split at he
  · rename_i ti kl l kc c ht
    obtain ⟨d, i, hu, hi, _, _, hk⟩ := (hC.ty _ _ ht).agg
    obtain ⟨rfl, _⟩ := sc_val hl
    obtain ⟨rfl, _⟩ := sc_val hc
    split at he
    · rename_i e hq
      rw [hq] at hk
      cases d <;> simp only [kindOk] at hk
      subst hk
      split at he
      · rename_i te hte
        obtain ⟨ie, de, ze, f1, f2, f3, f4, f5, f6, f7, f8, f9, f10⟩ := (hC.ty _ _ hte).ok
        split at he
        · rename_i hcond
          obtain ⟨c1, c2, c3, c4, c5⟩ := hcond
          simp only [Option.some.injEq, Prod.mk.injEq] at he
          obtain ⟨rfl, rfl⟩ := he
          obtain ⟨cs, hr, rfl⟩ := f7 F ρ
          have hzc : (te.zero.pack cs).cells = cs.toArray := by apply Array.ext'; simpa using hr.isAgg_pack f8
          have hcl : cs.length = te.sz := by rw [hr.length, f10]
          have hrl : RelL F ρ (List.replicate c.toNat te.zero) (List.flatten (List.replicate c.toNat cs)) := relL_replicate hr f8 _
          have hrun := run_make (P := P) w t e ie _ hu f1 f6 kl kc l c c1 c2 (by rw [f4]; omega) c4
          have hcells : madeCells (te.zero.pack cs).cells (c.toNat * ie.size) = (List.flatten (List.replicate c.toNat cs)).toArray := by
            unfold madeCells
            rw [hzc, f3, ← hcl]
            exact range_mod cs (by rw [hcl]; exact c5) _
          rw [hcells] at hrun
          have hlen : (List.flatten (List.replicate c.toNat cs)).length = c.toNat * te.sz := by
            rw [hrl.length, sizeL_const (esz := te.sz) (fun v hv => by rw [List.eq_of_mem_replicate hv, f10]), List.length_replicate]
          have h3 : ObjOk F ρ (.cells (.agg (List.replicate c.toNat te.zero)) false) ⟨w.heap.size, 0, c.toNat * te.sz⟩ (.cells (List.flatten (List.replicate c.toNat cs)).toArray e (0, 0)) :=
            .cells (by simpa using hlen) (.inl rfl) (.agg hrl) rfl (fun j u hu => by simpa using hu)
          obtain ⟨e', s'⟩ := s.push (w' := w.alloc (.cells (List.flatten (List.replicate c.toNat cs)).toArray e)) (l := ⟨w.heap.size, 0, c.toNat * te.sz⟩) rfl
            (fun n hn => by show (w.heap.push _)[n]? = _; rw [Array.getElem?_push_lt hn, Array.getElem?_eq_getElem hn]) (by show (w.heap.push _)[_]? = _; simp) h3 (by simp)
          refine ⟨_, _, _, hrun, e', s', _, .sl (l := ⟨w.heap.size, 0, c.toNat * te.sz⟩) (c := c.toNat) (a := ⟨w.heap.size, 0, none⟩) (by simp) (.inl ⟨by simp, by simp⟩) (by omega) (by simp), rfl⟩
        · simp at he
      · simp at he
    · simp at he
  · simp at he

/-! ### copy, clear -/
def aRowPut (h : H) (x : V) (sz : Nat) (xs : List V) : Option H :=
  if xs.length = 0 then some h else
  match x with
  | .sl p esz i n _ => match lookC h p with
    | some (.agg vs) => if esz = sz ∧ xs.length ≤ n ∧ i + n ≤ vs.length ∧ V.sizeL (vs.take i) = i * esz ∧ V.sizeL ((vs.drop i).take xs.length) = xs.length * esz ∧ xs.all (fun v => v.size == sz) = true then
        aPut h p (V.sizeL vs) (.agg (vs.take i ++ xs ++ vs.drop (i + xs.length))) else none
    | _ => none
  | _ => none
theorem aRowPut_sound {x : V} {sz : Nat} {xs : List V} {h' : H} {xv : Value} {cs : List Value} (he : aRowPut h x sz xs = some h') (s : Sim F ρ h w) (hx : RelV F ρ x xv) (hr : RelL F ρ xs cs) (hn : xs.length ≠ 0) :
    ∃ a n c w', xv = .slice (some a) n c ∧ xs.length ≤ n ∧ (storeCells a cs).run P w = .ok () w' ∧ Sim F ρ h' w' := by
  unfold aRowPut at he
  rw [if_neg hn] at he
  split at he
  · rename_i p esz i n cap
    split at he
    · rename_i vs hlook
      split at he
      · rename_i hc
        obtain ⟨rfl, c2, c3, c4, c5, c6⟩ := hc
        obtain ⟨cs', hrel, rfl⟩ := hx
        cases hrel with
        | sl hl ha hnc hcap =>
          rename_i cc l a
          have ha' : a = ⟨l.bb, l.sh + p.off + i * esz, none⟩ := by
            rcases ha with ha | ha
            · exact ha.1
            · omega
          subst ha'
          obtain ⟨w', g1, g2⟩ := rowPut_sound (P := P) hlook he s hl c4 c5 (fun v hv => by have := List.all_eq_true.1 c6 v hv; simpa using this) hr
          exact ⟨_, _, _, w', rfl, c2, g1, g2⟩
      · simp at he
    · simp at he
  · simp at he
def lenOfV : V → Option Nat
  | .nl _ => some 0
  | .sl _ _ _ n _ => some n
  | .list vs => some vs.length
  | _ => none
theorem lenOfV_sound {x : V} {xv : Value} {n : Nat} (he : lenOfV x = some n) (hx : RelV F ρ x xv) : ∃ a c, xv = .slice a n c := by
  obtain ⟨cs, hr, rfl⟩ := hx
  cases hr <;> simp [lenOfV] at he <;> subst he <;> exact ⟨_, _, rfl⟩
def aCopy (C : Ctx) (t : TypeId) (d x : V) (h : H) : Option (V × H) :=
  match C.ty.get t with
  | some ti => match ti.k with
    | .slc e => match C.ty.get e with
      | some te => match aElems x te.sz h, lenOfV x, lenOfV d with
        | some xs, some _, some n => match aRowPut h d te.sz (xs.take (Nat.min xs.length n)) with
          | some h' => some (.sc (.int .i64 (Nat.min xs.length n)), h')
          | none => none
        | _, _, _ => none
      | none => none
    | _ => none
  | none => none
include hC in
theorem aCopy_sound {t tx ty : TypeId} {d x y : V} {h' : H} {dv xv : Value} (he : aCopy C t d x h = some (y, h')) (s : Sim F ρ h w) (hd : RelV F ρ d dv) (hx : RelV F ρ x xv) :
    ∃ z w', (Builtin.copy_ #[t, tx] ty #[dv, xv]).run P w = .ok z w' ∧ Sim F ρ h' w' ∧ RelV F ρ y z := by
  unfold aCopy at he
  split at he
  · rename_i ti ht
    obtain ⟨td, i, hu, hi, _, _, hk⟩ := (hC.ty _ _ ht).agg
    split at he
    · rename_i e hq
      rw [hq] at hk
      cases td <;> simp only [kindOk] at hk
      subst hk
      split at he
      · rename_i te hte
        obtain ⟨de, ie, hue, hie, hse, _⟩ := (hC.ty _ _ hte).agg
        split at he
        · rename_i xs m n hxs hm hn
          split at he
          · rename_i hput
            cases he
            obtain ⟨cs, hrow⟩ := aElems_sound hxs s hx
            obtain ⟨ax, cx, hxv⟩ := lenOfV_sound hm hx
            obtain ⟨ad, cd, hdv⟩ := lenOfV_sound hn hd
            rcases hrow.val with ⟨a, c, hv, hcell⟩ | ⟨st, hv, _⟩
            · rw [hxv] at hv
              simp only [Value.slice.injEq] at hv
              obtain ⟨rfl, rfl, rfl⟩ := hv
              have hfc : ∀ k, k ≤ xs.length → (Builtin.firstCells te.sz k xv).run P w = .ok (cs.take (k * te.sz)).toArray w := fun k hk => by
                rw [hxv]
                cases ax with
                | none =>
                  have : cs = [] := by
                    cases hcs : cs with
                    | nil => rfl
                    | cons u r => obtain ⟨b, hb, _⟩ := hcell 0 u (by rw [hcs]; rfl); cases hb
                  subst this
                  simpa using run_firstCells_none w te.sz k xs.length cx
                | some b =>
                  refine run_firstCells_some w te.sz k b xs.length cx _ ?_ (fun j u hj => ?_)
                  · rw [List.length_take, hrow.len]
                    exact Nat.min_eq_left (Nat.mul_le_mul_right _ hk)
                  · obtain ⟨b', hb, h2⟩ := hcell j u (by
                      have := (List.getElem?_eq_some_iff.1 hj).1
                      rw [List.length_take] at this
                      rw [List.getElem?_take_of_lt (by omega)] at hj; exact hj)
                    cases hb; exact h2
              have hmin := hfc (Nat.min xs.length n) (Nat.min_le_left _ _)
              have hlen2 : (Builtin.lenOf xv).run P w = .ok xs.length w := by rw [hxv]; simp [Builtin.lenOf]
              have hr2 : RelL F ρ (xs.take (Nat.min xs.length n)) (cs.take (Nat.min xs.length n * te.sz)) := by
                have := (relL_split hrow.rel (Nat.min xs.length n)).1
                rw [sizeL_const (esz := te.sz) (fun v hv => hrow.sizes v (List.mem_of_mem_take hv)), List.length_take, Nat.min_eq_left (Nat.min_le_left _ _)] at this
                exact this
              by_cases h0 : (xs.take (Nat.min xs.length n)).length = 0
              · unfold aRowPut at hput
                rw [if_pos h0] at hput
                cases hput
                have h00 : Nat.min xs.length n = 0 := by
                  rw [List.length_take, Nat.min_eq_left (Nat.min_le_left _ _)] at h0
                  exact h0
                rw [h00] at hmin
                refine ⟨_, w, ?_, s, sc_rel rfl⟩
                rw [hdv]
                rw [h00]
                cases ad with
                | none => simp [Builtin.copy_, run_underlying hu, hlen2, run_sizeOf hie, hse, h00, hmin, goInt]
                | some b => simp [Builtin.copy_, run_underlying hu, hlen2, run_sizeOf hie, hse, h00, hmin, goInt, storeCells]
              · obtain ⟨a, n', c', w', g1, g2, g3, g4⟩ := aRowPut_sound (P := P) hput s hd hr2 h0
                rw [hdv] at g1
                simp only [Value.slice.injEq] at g1
                obtain ⟨rfl, rfl, rfl⟩ := g1
                refine ⟨_, w', ?_, g4, sc_rel rfl⟩
                rw [hdv]
                simp [Builtin.copy_, run_underlying hu, hlen2, run_sizeOf hie, hse, hmin, goInt, g3]
            · rw [hxv] at hv; cases hv
          · simp at he
        · simp at he
      · simp at he
    · simp at he
  · simp at he
def aClear (C : Ctx) (t : TypeId) (d : V) (h : H) : Option H :=
  match C.ty.get t with
  | some ti => match ti.k with
    | .slc e => match C.ty.get e, lenOfV d with
      | some te, some n => if n = 0 then some h else if te.sz = 0 then none else aRowPut h d te.sz (List.replicate n te.zero)
      | _, _ => none
    | _ => none
  | none => none
include hC in
theorem aClear_sound {t ty : TypeId} {d : V} {h' : H} {dv : Value} (he : aClear C t d h = some h') (s : Sim F ρ h w) (hd : RelV F ρ d dv) :
    ∃ w', (Builtin.clear_ #[t] ty #[dv]).run P w = .ok (.tuple #[]) w' ∧ Sim F ρ h' w' := by
  unfold aClear at he
  split at he
  · rename_i ti ht
    obtain ⟨td, i, hu, hi, _, _, hk⟩ := (hC.ty _ _ ht).agg
    split at he
    · rename_i e hq
      rw [hq] at hk
      cases td <;> simp only [kindOk] at hk
      subst hk
      split at he
      · rename_i te n hte hn
        obtain ⟨ie, de, ze, f1, f2, f3, f4, f5, f6, f7, f8, f9, f10⟩ := (hC.ty _ _ hte).ok
        obtain ⟨ad, cd, hdv⟩ := lenOfV_sound hn hd
        split at he
        · rename_i h0
          subst h0
          cases he
          refine ⟨w, ?_, s⟩
          rw [hdv]
          cases ad <;> simp [Builtin.clear_, run_underlying hu]
        · rename_i h0
          split at he
          · simp at he
          · rename_i hz0
            obtain ⟨cs, hr, rfl⟩ := f7 F ρ
            have hzc : (te.zero.pack cs).cells = cs.toArray := by apply Array.ext'; simpa using hr.isAgg_pack f8
            have hcl : cs.length = te.sz := by rw [hr.length, f10]
            obtain ⟨a, n', c', w', g1, g2, g3, g4⟩ := aRowPut_sound (P := P) he s hd (relL_replicate hr f8 n) (by simpa using h0)
            rw [hdv] at g1
            simp only [Value.slice.injEq] at g1
            obtain ⟨rfl, rfl, rfl⟩ := g1
            refine ⟨w', ?_, g4⟩
            rw [hdv]
            have hzero : (zeroValue e).run P w = .ok (te.zero.pack cs) w := by simp [zeroValue, typeInfo, f1, f6]
            have hzz : (Builtin.zeroCells (te.zero.pack cs).cells n).toList = List.flatten (List.replicate n cs) := by
              unfold Builtin.zeroCells
              rw [hzc]
              have := range_mod cs (by rw [hcl]; exact hz0) n
              simp only [List.size_toArray] at this ⊢
              rw [this]
            cases n with
            | zero => exact absurd rfl h0
            | succ n => simp [Builtin.clear_, run_underlying hu, hzero, hzz, g3]
      · simp at he
    · simp at he
  · simp at he
end
end Go.A
