/- Calls that are reckoned apart: of a state that is told by lists; and of functions without arguments, in whatever memory. -/
import Derived.Test.YtgekgcffmmbhbaaGreatA37
set_option linter.unusedVariables false
set_option linter.unusedSimpArgs false
noncomputable section
namespace Go.A
open Go
set_option linter.unusedSectionVars false
structure Memo where
  f : FuncId
  args : List V
  nx : Nat
  lh : List (Nat × Blk)
  v : V
  nx' : Nat
  lh' : List (Nat × Blk)
def Memo.pre (m : Memo) : H := ⟨m.nx, 0, Tr.ofList m.lh⟩
def Memo.post (m : Memo) : H := ⟨m.nx', 0, Tr.ofList m.lh'⟩
def memoCall (m : Memo) (call : CallK) : CallK := fun f args h =>
  if (Nat.beq m.f f && (eqWs m.args args && subSt [] m.nx m.lh (.lf, h))) = true then some (m.v, m.post) else call f args h
section
variable [Outer] {P : Program} {C : Ctx} {F : Frz} {ρ : Ren} {w : World}
def MemoOk (P : Program) (m : Memo) : Prop := ∀ F ρ w xs, Sim F ρ m.pre w → RelTs F ρ m.args xs → CallOk P F ρ m.f xs w m.v m.post
theorem memoCall_ok {call : CallK} (hcall : CallsOk P call) {m : Memo} (hm : MemoOk P m) : CallsOk P (memoCall m call) := by
  intro f args h v h' he F ρ w xs sm hr
  unfold memoCall at he
  split at he
  · rename_i hc
    simp only [Bool.and_eq_true] at hc
    obtain ⟨h1, h2, h3⟩ := hc
    cases he
    have e1 := Nat.eq_of_beq_eq_true h1
    have e2 := eqWs_eq h2
    subst e1 e2
    have hs := subSt_ok h3
    exact hm F ρ w xs (sm.sub hs.nx hs.heap) hr
  · exact hcall f args h v h' he F ρ w xs sm hr
/-- A memo out of the walk through its function's code. -/
theorem memoOk_of_trip (hC : CtxOk P C) {m : Memo} {fn : Func} {code : Code} {s' : St} {ex : Ex} {vs : List V} (hfn : C.fn.get m.f = some fn) (hcode : fn.body = some code) (hlen : m.args.length ≤ fn.ntmps) (hne : ∀ id, ex ≠ .exit id)
    (ht : Trip P [] fn.ntmps code (initEnv m.args 0 .lf, m.pre) ex s') (hres : aRes C s'.1 s'.2 fn.results.toList = some vs) (hv : m.v = packRes vs) (hs : SubSt (.lf, m.post) (.lf, s'.2)) : MemoOk P m := by
  intro F ρ w xs sm hr
  have hF := hC.fn _ _ hfn
  have hl := relTs_get hr
  have hsz : (xs.toArray ++ Array.replicate (fn.ntmps - xs.length) undef).size = fn.ntmps := by simp; omega
  refine calls_of_wp hF.at_ hcode ?_
  refine wp_mono (ht F ρ { tmps := xs.toArray ++ Array.replicate (fn.ntmps - xs.toArray.size) undef, defers := [] } w sm (by simpa using initEnv_rel hr fn.ntmps) (by simpa using hsz) rfl) ?_
  rintro e a' w' ⟨F', ρ', rfl, g1, g2, g3, g4, g5⟩
  obtain ⟨x, q1, q2⟩ := results_sound hC g2 g3 hres
  have g2' : Sim F' ρ' m.post w' := g2.sub hs.nx hs.heap
  cases ex with
  | exit id => exact absurd rfl (hne id)
  | normal => exact ⟨g5, x, q1, x, F', ρ', rfl, g1, g2', by rw [hv]; exact q2⟩
  | ret => exact ⟨g5, x, q1, x, F', ρ', rfl, g1, g2', by rw [hv]; exact q2⟩
def chkM (m : Memo) : Option (V × H) → Bool
  | some (v, h) => eqW m.v v && subSt [] m.nx' m.lh' (.lf, h)
  | none => false
/-- A memo out of a call that is reckoned at once. -/
theorem memoOk_of_call {call : CallK} (hcall : CallsOk P call) {m : Memo} (h : chkM m (call m.f m.args m.pre) = true) : MemoOk P m := by
  intro F ρ w xs sm hr
  unfold chkM at h
  split at h
  · rename_i v h' he
    simp only [Bool.and_eq_true] at h
    obtain ⟨h1, h2⟩ := h
    have e1 := eqW_eq h1
    have hs := subSt_ok h2
    refine (hcall _ _ _ _ _ he F ρ w xs sm hr).mono ?_
    rintro e w' ⟨x, F', ρ', g0, g1, g2, g3⟩
    exact ⟨x, F', ρ', g0, g1, g2.sub hs.nx hs.heap, by rw [e1]; exact g3⟩
  · cases h
/-! ### in whatever memory -/
mutual
/-- What leads to new blocks alone, and to no frozen row. -/
def newV (n : Nat) : V → Bool
  | .sc _ => true
  | .nl _ => true
  | .ptr p => Nat.ble n p.b
  | .sl p _ _ _ _ => Nat.ble n p.b
  | .list _ => false
  | .lp _ => false
  | .map m => Nat.ble n m
  | .fn _ a b => newVs n a && newVs n b
  | .iface _ v => newV n v
  | .agg vs => newVs n vs
  | .tup vs => newVs n vs
def newVs (n : Nat) : List V → Bool
  | [] => true
  | v :: r => newV n v && newVs n r
end
def newEnts (n : Nat) : List (V × V × Nat) → Bool
  | [] => true
  | e :: r => newV n e.1 && newV n e.2.1 && newEnts n r
def newBlk (n : Nat) : Blk → Bool
  | .cells v f => newV n v && !f
  | .map es _ => newEnts n es
  | _ => false
mutual
theorem Rel.new {F' : Frz} {ρ' : Ren} {n : Nat} (hρ : ∀ b l, n ≤ b → ρ b = some l → ρ' b = some l) : ∀ {v : V} {cs : List Value}, newV n v = true → Rel F ρ v cs → Rel F' ρ' v cs
  | _, _, hn, .sc h => .sc h
  | _, _, hn, .nl h => .nl h
  | _, _, hn, .ptr h => .ptr (hρ _ _ (Nat.le_of_ble_eq_true hn) h)
  | _, _, hn, .sl h ha hc hk => .sl (hρ _ _ (Nat.le_of_ble_eq_true hn) h) ha hc hk
  | _, _, hn, .listNil => .listNil
  | _, _, hn, .list h hr hs hin hc => by simp [newV] at hn
  | _, _, hn, .lp h hr hk hin => by simp [newV] at hn
  | _, _, hn, .map h => .map (hρ _ _ (Nat.le_of_ble_eq_true hn) h)
  | _, _, hn, .fn h1 h2 => by
    simp only [newV, Bool.and_eq_true] at hn
    exact .fn (RelTs.new hρ hn.1 h1) (RelTs.new hρ hn.2 h2)
  | _, _, hn, .iface h => .iface (Rel.new hρ hn h)
  | _, _, hn, .agg h => .agg (RelL.new hρ hn h)
  | _, _, hn, .tup h => .tup (RelTs.new hρ hn h)
theorem RelL.new {F' : Frz} {ρ' : Ren} {n : Nat} (hρ : ∀ b l, n ≤ b → ρ b = some l → ρ' b = some l) : ∀ {vs : List V} {cs : List Value}, newVs n vs = true → RelL F ρ vs cs → RelL F' ρ' vs cs
  | _, _, hn, .nil => .nil
  | _, _, hn, .cons hk h hs => by
    simp only [newVs, Bool.and_eq_true] at hn
    exact .cons hk (Rel.new hρ hn.1 h) (RelL.new hρ hn.2 hs)
theorem RelTs.new {F' : Frz} {ρ' : Ren} {n : Nat} (hρ : ∀ b l, n ≤ b → ρ b = some l → ρ' b = some l) : ∀ {vs : List V} {xs : List Value}, newVs n vs = true → RelTs F ρ vs xs → RelTs F' ρ' vs xs
  | _, _, hn, .nil => .nil
  | _, _, hn, .cons h hs => by
    simp only [newVs, Bool.and_eq_true] at hn
    exact .cons (Rel.new hρ hn.1 h) (RelTs.new hρ hn.2 hs)
end
theorem RelV.new {F' : Frz} {ρ' : Ren} {n : Nat} (hρ : ∀ b l, n ≤ b → ρ b = some l → ρ' b = some l) {v : V} {x : Value} (hn : newV n v = true) (h : RelV F ρ v x) : RelV F' ρ' v x :=
  let ⟨cs, h, hx⟩ := h; ⟨cs, Rel.new hρ hn h, hx⟩
theorem EntsOk.new {F' : Frz} {ρ' : Ren} {n : Nat} (hρ : ∀ b l, n ≤ b → ρ b = some l → ρ' b = some l) : ∀ {es : List (V × V × Nat)} {ents : List MapEntry}, newEnts n es = true → EntsOk F ρ es ents → EntsOk F' ρ' es ents
  | _, _, _, .nil => .nil
  | _, _, hn, .cons hk hv hb hs => by
    simp only [newEnts, Bool.and_eq_true] at hn
    exact .cons (hk.new hρ hn.1.1) (hv.new hρ hn.1.2) hb (EntsOk.new hρ hn.2 hs)
theorem ObjOk.new {F' : Frz} {ρ' : Ren} {n : Nat} (hρ : ∀ b l, n ≤ b → ρ b = some l → ρ' b = some l) {x : Blk} {l : Loc} {o : Obj} (hn : newBlk n x = true) (h : ObjOk F ρ x l o) : ObjOk F' ρ' x l o := by
  cases h with
  | cells hs hf hr hk hin =>
    simp only [newBlk, Bool.and_eq_true] at hn
    exact .cells hs hf (Rel.new hρ hn.1 hr) hk hin
  | map he => exact .map (EntsOk.new hρ hn he)
  | it hm hs => simp [newBlk] at hn
def mergeH (h : Tr Blk) : List (Nat × Blk) → Tr Blk
  | [] => h
  | x :: r => (mergeH h r).set x.1 x.2
omit [Outer] in
theorem mergeH_get (t : Tr Blk) : ∀ (l : List (Nat × Blk)) (n : Nat), (mergeH t l).get n = match (Tr.ofList l).get n with
    | some x => some x
    | none => t.get n
  | [], n => by simp [mergeH, Tr.ofList]
  | x :: r, n => by
    simp only [mergeH, Tr.ofList, Tr.get_set]
    by_cases e : n = x.1
    · simp [e]
    · simp only [e, if_false]; exact mergeH_get t r n
/-- All numbers that have something. -/
def allIx {α : Type} : Tr α → (Nat → Bool) → Bool
  | .lf, _ => true
  | .nd l v r, f => (v.isNone || f 0) && (allIx l (fun i => f (2 * i + 1)) && allIx r (fun i => f (2 * i + 2)))
omit [Outer] in
theorem allIx_get {α : Type} : ∀ {t : Tr α} {f : Nat → Bool} {n : Nat} {x : α}, allIx t f = true → t.get n = some x → f n = true
  | .lf, f, n, x, h, hg => by simp at hg
  | .nd l v r, f, n, x, h, hg => by
    simp only [allIx, Bool.and_eq_true, Bool.or_eq_true] at h
    rw [Tr.get_nd] at hg
    split at hg
    · rename_i h0
      subst h0
      rcases h.1 with h1 | h1
      · rw [hg] at h1; cases h1
      · exact h1
    · split at hg
      · have := allIx_get h.2.1 hg
        rw [show 2 * (n / 2) + 1 = n by omega] at this
        exact this
      · have := allIx_get h.2.2 hg
        rw [show 2 * (n / 2 - 1) + 2 = n by omega] at this
        exact this
def newOk (m : Memo) : Bool := m.lh.isEmpty && m.args.isEmpty && newV m.nx m.v && Nat.ble m.nx m.nx' && m.lh'.all fun x => Nat.ble m.nx x.1 && newBlk m.nx x.2
/-- A function without arguments, reckoned from an empty memory whose numbers begin with nx, called in whatever memory whose numbers end ahead of it. -/
def frameCall (m : Memo) (call : CallK) : CallK := fun f args h => if f = m.f then (match args with
  | [] => if (Nat.ble h.next m.nx && allIx h.m (fun i => Nat.blt i m.nx)) = true then some (m.v, ⟨m.nx', h.lo, mergeH h.m m.lh'⟩) else none
  | _ => none) else call f args h
theorem frameCall_ok {call : CallK} (hcall : CallsOk P call) {m : Memo} (hn : newOk m = true) (hm : MemoOk P m) : CallsOk P (frameCall m call) := by
  intro f args h v h' he F ρ w xs sm hr
  unfold frameCall at he
  split at he
  · rename_i hf
    subst hf
    split at he
    · split at he
      · rename_i hle
        simp only [Bool.and_eq_true] at hle
        obtain ⟨hle, hix⟩ := hle
        have hle := Nat.le_of_ble_eq_true hle
        cases he
        cases hr
        unfold newOk at hn
        simp only [Bool.and_eq_true, List.isEmpty_iff, List.all_eq_true] at hn
        obtain ⟨⟨⟨⟨n1, n2⟩, n3⟩, n4⟩, n5⟩ := hn
        have n4 := Nat.le_of_ble_eq_true n4
        have hpre : m.pre = ⟨m.nx, 0, .lf⟩ := by unfold Memo.pre; rw [n1]; rfl
        have s0 : Sim (allF w) ρ m.pre w := by
          rw [hpre]
          exact ⟨fun _ _ h => h, fun b l hl => Nat.lt_of_lt_of_le (sm.dom b l hl) hle, fun b x l hx => by simp [H.get] at hx, fun b b' l l' x x' hl hl' hx => by simp [H.get] at hx, fun b x l hx => by simp [H.get] at hx, Nat.le_trans sm.nx hle, sm.io⟩
        refine (hm (allF w) ρ w [] s0 (by rw [n2]; exact .nil)).mono ?_
        rintro e w' ⟨x, F2, ρ2, rfl, e2, s2, r2⟩
        have hkeep : ∀ i o, w.heap[i]? = some o → w'.heap[i]? = some o := fun i o hi => s2.frz i o (e2.f i o hi)
        let F3 : Frz := fun n => if n < w.heap.size then F n else F2 n
        let ρ3 : Ren := ⟨fun b => if b < m.nx then ρ b else ρ2 b, ρ.nx⟩
        have hρ : ∀ b l, m.nx ≤ b → ρ2 b = some l → ρ3 b = some l := fun b l hb hl => by
          show (if b < m.nx then ρ b else ρ2 b) = some l
          rw [if_neg (by omega)]; exact hl
        have hpost : ∀ b y, m.post.get b = some y → m.nx ≤ b ∧ newBlk m.nx y = true := fun b y hy => by
          have hq : (Tr.ofList m.lh').get b = some y := by
            unfold H.get Memo.post at hy
            simp only at hy
            split at hy
            · cases hy
            · exact hy
          have := n5 _ (Tr.get_ofList _ _ _ hq)
          simp only [Bool.and_eq_true] at this
          exact ⟨Nat.le_of_ble_eq_true this.1, this.2⟩
        have hlits : ∀ b, (Tr.ofList m.lh').get b = none ∨ (m.nx ≤ b ∧ ∃ y, m.post.get b = some y ∧ (Tr.ofList m.lh').get b = some y) := fun b => by
          cases hq : (Tr.ofList m.lh').get b with
          | none => exact .inl rfl
          | some y =>
            have := n5 _ (Tr.get_ofList _ _ _ hq)
            simp only [Bool.and_eq_true] at this
            refine .inr ⟨Nat.le_of_ble_eq_true this.1, y, ?_, rfl⟩
            unfold H.get Memo.post
            simp only [hq]
            cases y with
            | dead => simp [newBlk] at this
            | _ => rfl
        have hget : ∀ b y, (⟨m.nx', h.lo, mergeH h.m m.lh'⟩ : H).get b = some y → (m.nx ≤ b ∧ m.post.get b = some y) ∨ ((Tr.ofList m.lh').get b = none ∧ h.get b = some y) := fun b y hy => by
          unfold H.get at hy
          simp only [mergeH_get] at hy
          rcases hlits b with hq | ⟨hb, z, hz, hq⟩
          · rw [hq] at hy
            exact .inr ⟨hq, hy⟩
          · rw [hq] at hy
            left
            refine ⟨hb, ?_⟩
            have hzd : z ≠ .dead := fun hd => by
              have := (hpost b z hz).2
              rw [hd] at this; simp [newBlk] at this
            cases z with
            | dead => exact absurd rfl hzd
            | _ => simp only at hy; rw [← hy]; exact hz
        have hnewbb : ∀ b y l, m.post.get b = some y → ρ2 b = some l → w.heap.size ≤ l.bb := fun b y l hy hl => by
          apply Classical.byContradiction
          intro hlt
          have hlt' : l.bb < w.heap.size := by omega
          have hwr : y.writable = true := by
            have := (hpost b y hy).2
            cases y with
            | cells v f => simp [newBlk] at this; simp [Blk.writable, this.2]
            | map es c => rfl
            | it a b c d => rfl
            | dead => simp [newBlk] at this
          have h1 := s2.live b y l hy hl hwr
          have h2 := e2.f l.bb _ (Array.getElem?_eq_getElem hlt' : allF w l.bb = some _)
          rw [h1] at h2; cases h2
        have holdbb : ∀ b y l, h.get b = some y → ρ b = some l → l.bb < w.heap.size := fun b y l hy hl => by
          obtain ⟨o, ho, _⟩ := sm.blk b y l hy hl
          exact (Array.getElem?_eq_some_iff.1 ho).1
        have hold : ∀ b y, h.get b = some y → b < m.nx := fun b y hy => by
          have hq : ∃ z, h.m.get b = some z := by
            unfold H.get at hy
            split at hy
            · cases hy
            · exact ⟨_, hy⟩
          obtain ⟨z, hz⟩ := hq
          have := allIx_get hix hz
          simpa using this
        have hboth : ∀ b y l, (⟨m.nx', h.lo, mergeH h.m m.lh'⟩ : H).get b = some y → ρ3 b = some l → (m.nx ≤ b ∧ m.post.get b = some y ∧ ρ2 b = some l) ∨ (b < m.nx ∧ h.get b = some y ∧ ρ b = some l) := fun b y l hy hl => by
          have hl' : (if b < m.nx then ρ b else ρ2 b) = some l := hl
          rcases hget b y hy with ⟨hb, hp⟩ | ⟨hq, hp⟩
          · rw [if_neg (by omega)] at hl'
            exact .inl ⟨hb, hp, hl'⟩
          · have hb := hold b y hp
            rw [if_pos hb] at hl'
            exact .inr ⟨hb, hp, hl'⟩
        have hnx : h.next ≤ m.nx' := Nat.le_trans hle n4
        have ext : Ext F ρ F3 ρ3 := by
          refine ⟨fun i o hi => ?_, fun b l hl => ?_, Nat.le_refl _, fun b hb => ?_⟩
          · have hlt := (Array.getElem?_eq_some_iff.1 (sm.frz i o hi)).1
            show (if i < w.heap.size then F i else F2 i) = some o
            rw [if_pos hlt]; exact hi
          · show (if b < m.nx then ρ b else ρ2 b) = some l
            rw [if_pos (Nat.lt_of_lt_of_le (sm.dom b l hl) hle)]; exact hl
          · show (if b < m.nx then ρ b else ρ2 b) = ρ b
            rw [if_pos (Nat.lt_of_lt_of_le (Nat.lt_of_lt_of_le hb sm.nx) hle)]
        refine ⟨x, F3, ρ3, rfl, ext, ⟨fun i o hi => ?_, fun b l hl => ?_, fun b y l hy hl => ?_, fun b b' l l' y y' hl hl' hy hy' hbb => ?_, fun b y l hy hl hwr => ?_, Nat.le_trans sm.nx hnx, s2.io⟩, r2.new hρ n3⟩
        · have hi' : (if i < w.heap.size then F i else F2 i) = some o := hi
          split at hi'
          · exact hkeep i o (sm.frz i o hi')
          · exact s2.frz i o hi'
        · have hl' : (if b < m.nx then ρ b else ρ2 b) = some l := hl
          split at hl'
          · exact Nat.lt_of_lt_of_le (sm.dom b l hl') hnx
          · exact s2.dom b l hl'
        · rcases hboth b y l hy hl with ⟨_, h1, h2⟩ | ⟨_, h1, h2⟩
          · obtain ⟨o, ho, hok⟩ := s2.blk b y l h1 h2
            exact ⟨o, ho, hok.new hρ (hpost b y h1).2⟩
          · obtain ⟨o, ho, hok⟩ := sm.blk b y l h1 h2
            exact ⟨o, hkeep _ _ ho, hok.mono ext⟩
        · rcases hboth b y l hy hl with ⟨_, h1, h2⟩ | ⟨_, h1, h2⟩ <;> rcases hboth b' y' l' hy' hl' with ⟨_, h3, h4⟩ | ⟨_, h3, h4⟩
          · exact s2.inj b b' l l' y y' h2 h4 h1 h3 hbb
          · have q1 := hnewbb b y l h1 h2
            have q2 := holdbb b' y' l' h3 h4
            omega
          · have q1 := holdbb b y l h1 h2
            have q2 := hnewbb b' y' l' h3 h4
            omega
          · exact sm.inj b b' l l' y y' h2 h4 h1 h3 hbb
        · show (if l.bb < w.heap.size then F l.bb else F2 l.bb) = none
          rcases hboth b y l hy hl with ⟨_, h1, h2⟩ | ⟨_, h1, h2⟩
          · rw [if_neg (by have := hnewbb b y l h1 h2; omega)]
            exact s2.live b y l h1 h2 hwr
          · rw [if_pos (holdbb b y l h1 h2)]
            exact sm.live b y l h1 h2 hwr
      · simp at he
    · simp at he
  · exact hcall f args h v h' he F ρ w xs sm hr
end
end Go.A
