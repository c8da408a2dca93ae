/- Arithmetic, comparisons, conversions, tuples, interfaces, lengths. -/
import Derived.Test.YtgekgcffmmbhbaaGreatA7
set_option linter.unusedVariables false
set_option linter.unusedSimpArgs false
noncomputable section
namespace Go.A
open Go
set_option linter.unusedSectionVars false
variable [Outer]
section
variable {P : Program} {C : Ctx} (hC : CtxOk P C) {F : Frz} {ρ : Ren} {h : H} {w : World}

/-! ### binary operators -/
def isConst : Operand → Bool
  | .const _ => true
  | _ => false
def ofPure : Sem Value → Option V
  | .pure v => if scalar v then some (.sc v) else none
  | _ => none
def eqlOf (op : BinOp) (b : Bool) : Option V :=
  match op with
  | .eql => some (.sc (.bool b))
  | .neq => some (.sc (.bool (!b)))
  | _ => none
def isPtr : V → Bool
  | .ptr _ | .lp _ => true
  | _ => false
/-- Is a slice nil? -/
def sliceNil : V → Option Bool
  | .nl b => some b
  | .sl _ _ _ _ _ | .list _ => some false
  | _ => none
theorem sliceNil_sound {x : V} {b : Bool} {xv : Value} (he : sliceNil x = some b) (hx : RelV F ρ x xv) : ∃ a n c, xv = .slice a n c ∧ a.isNone = b := by
  obtain ⟨cs, hr, rfl⟩ := hx
  cases hr <;> simp [sliceNil] at he
  · rename_i a hb; subst he; exact ⟨_, _, _, rfl, hb⟩
  · subst he; exact ⟨_, _, _, rfl, rfl⟩
  · subst he; exact ⟨_, _, _, rfl, rfl⟩
  · subst he; exact ⟨_, _, _, rfl, rfl⟩
theorem eq_sn (d : Nat) {t e : TypeId} (a : Option Addr) (n c : Nat) (hu : P.underlying t = some (.slice e)) (w : World) : (Op.equalIn (d + 1) t (.slice a n c) (.slice none 0 0)).run P w = .ok a.isNone w := by
  cases a <;> simp [Op.equalIn, run_underlying hu]
theorem eqGuard_slice (op : BinOp) (t : TypeId) (xo yo : Operand) (a b : Option Addr) (n c m k : Nat) (w : World) : (eqGuard op t xo yo (.slice a n c) (.slice b m k)).run P w = .ok () w := by cases op <;> rfl
/-- Whole numbers compared, so that the kernel sees it of numbers that are not written out, too. -/
def ltI : Int → Int → Bool
  | .ofNat m, .ofNat n => Nat.ble (m + 1) n
  | .negSucc _, .ofNat _ => true
  | .ofNat _, .negSucc _ => false
  | .negSucc m, .negSucc n => Nat.ble (n + 1) m
theorem ltI_eq (a b : Int) : ltI a b = decide (a < b) := by
  have hb : ∀ m n : Nat, Nat.ble m n = decide (m ≤ n) := fun m n => by
    cases h : Nat.ble m n with
    | true => simp [Nat.le_of_ble_eq_true h]
    | false => simp; exact Nat.lt_of_not_le (Nat.not_le_of_not_ble_eq_true (by simp [h]))
  cases a <;> cases b <;> simp only [ltI, hb] <;> simp <;> omega
def cmpI (op : BinOp) (a b : Int) : Option Bool :=
  match op with
  | .lss => some (ltI a b)
  | .leq => some (!ltI b a)
  | .gtr => some (ltI b a)
  | .geq => some (!ltI a b)
  | _ => none
theorem cmpI_run {P : Program} {w : World} {op : BinOp} {t : TypeId} {k : IntKind} {a b : Int} {r : Bool} (h : cmpI op a b = some r) : (binOp op t (.int k a) (.int k b)).run P w = .ok (.bool r) w := by
  have h1 : decide (a ≤ b) = !decide (b < a) := by by_cases h : b < a <;> simp [h] <;> omega
  have h2 : decide (a ≥ b) = !decide (a < b) := by by_cases h : a < b <;> simp [h] <;> omega
  cases op <;> simp only [cmpI, Option.some.injEq, reduceCtorEq] at h <;> subst h <;> rw [ltI_eq]
  · simp [binOp, Op.intCmp]
  · rw [← h1]; simp [binOp, Op.intCmp]
  · simp [binOp, Op.intCmp]
  · rw [← h2]; simp [binOp, Op.intCmp]
def aBin (C : Ctx) (op : BinOp) (t : TypeId) (xc yc : Bool) (x y : V) : Option V :=
  match x, y with
  | .sc (.int k a), .sc (.int k' b) => match cmpI op a b with
    | some r => if k = k' then some (.sc (.bool r)) else none
    | none => ofPure (binOp op t (.int k a) (.int k' b))
  | .sc (.string a), .sc (.string b) => ofPure (binOp op t (.string a) (.string b))
  | .sc (.bool a), .sc (.bool b) => match C.ty.get t with
    | some ⟨.bool, _, _, _, _⟩ => eqlOf op (a == b)
    | _ => none
  | .sc (.pointer none), .sc (.pointer none) => match C.ty.get t with
    | some ⟨.ptr _, _, _, _, _⟩ => eqlOf op true
    | _ => none
  | .sc .nilIface, .sc .nilIface => if xc || yc then (match C.ty.get t with
    | some ⟨.ifc, _, _, _, _⟩ => eqlOf op true
    | _ => none) else none
  | .iface _ _, .sc .nilIface => match C.ty.get t with
    | some ⟨.ifc, _, _, _, _⟩ => eqlOf op false
    | _ => none
  | .agg as, .agg bs => match C.ty.get t with
    | some ti => if ti.eq then (aEq C 12 t (.agg as) (.agg bs)).bind (eqlOf op) else none
    | none => none
  | x, .nl true => match C.ty.get t, sliceNil x with
    | some ⟨.slc _, _, _, _, _⟩, some b => eqlOf op b
    | _, _ => none
  | x, .sc (.pointer none) => if isPtr x then (match C.ty.get t with
    | some ⟨.ptr _, _, _, _, _⟩ => eqlOf op false
    | _ => none) else none
  | _, _ => none
theorem ofPure_some {s : Sem Value} {z : V} (he : ofPure s = some z) : ∃ v, s = .pure v ∧ z = .sc v ∧ scalar v = true := by
  unfold ofPure at he
  split at he
  · rename_i v
    split at he
    · rename_i hs; cases he; exact ⟨v, rfl, rfl, hs⟩
    · simp at he
  · simp at he
theorem eqlOf_run {op : BinOp} {b : Bool} {z : V} {t : TypeId} {x y : Value} (he : eqlOf op b = some z) (hb : (binOp .eql t x y).run P w = .ok (.bool b) w) (hn : (binOp .neq t x y).run P w = .ok (.bool (!b)) w) :
    ∃ v, (binOp op t x y).run P w = .ok v w ∧ RelV F ρ z v := by
  unfold eqlOf at he
  split at he
  · cases he; exact ⟨_, hb, sc_rel rfl⟩
  · cases he; exact ⟨_, hn, sc_rel rfl⟩
  · simp at he
theorem eqGuard_int (op : BinOp) (t : TypeId) (xo yo : Operand) (k k' : IntKind) (a b : Int) (w : World) : (eqGuard op t xo yo (.int k a) (.int k' b)).run P w = .ok () w := by cases op <;> rfl
theorem eqGuard_str (op : BinOp) (t : TypeId) (xo yo : Operand) (a b : ByteArray) (w : World) : (eqGuard op t xo yo (.string a) (.string b)).run P w = .ok () w := by cases op <;> rfl
theorem eqGuard_bool (op : BinOp) (t : TypeId) (xo yo : Operand) (a b : Bool) (w : World) : (eqGuard op t xo yo (.bool a) (.bool b)).run P w = .ok () w := by cases op <;> rfl
theorem eqGuard_ptr (op : BinOp) (t : TypeId) (xo yo : Operand) (a b : Option Addr) (w : World) : (eqGuard op t xo yo (.pointer a) (.pointer b)).run P w = .ok () w := by cases op <;> rfl
theorem eqGuard_ifl (op : BinOp) (t u : TypeId) (xo yo : Operand) (v : Value) (w : World) : (eqGuard op t xo yo (.iface u v) .nilIface).run P w = .ok () w := by cases op <;> rfl
theorem eqGuard_nil (op : BinOp) (t : TypeId) (xo yo : Operand) (hc : isConst xo = true ∨ isConst yo = true) (w : World) : (eqGuard op t xo yo .nilIface .nilIface).run P w = .ok () w := by
  cases op <;> cases xo <;> cases yo <;> first | rfl | simp [isConst] at hc
theorem bin_eqneq {t : TypeId} {x y : Value} {b : Bool} (hne : ∀ op, binOp op t x y = (match op with | .eql => (do pure (.bool (← Op.equal t x y)) : Sem Value) | .neq => (do pure (.bool (!(← Op.equal t x y))) : Sem Value) | _ => binOp op t x y))
    (he : (Op.equal t x y).run P w = .ok b w) : (binOp .eql t x y).run P w = .ok (.bool b) w ∧ (binOp .neq t x y).run P w = .ok (.bool (!b)) w := by
  have h1 := hne .eql
  have h2 := hne .neq
  simp only at h1 h2
  constructor
  · rw [h1]; simp [he]
  · rw [h2]; simp [he]
theorem eq_nn (d : Nat) {t e : TypeId} (hu : P.underlying t = some (.pointer e)) (w : World) : (Op.equalIn (d + 1) t (.pointer none) (.pointer none)).run P w = .ok true w := by
  simp [Op.equalIn, run_underlying hu]
theorem eq_pn (d : Nat) {t e : TypeId} (a : Addr) (hu : P.underlying t = some (.pointer e)) (w : World) : (Op.equalIn (d + 1) t (.pointer (some a)) (.pointer none)).run P w = .ok false w := by
  simp [Op.equalIn, run_underlying hu]
theorem eq_ii (d : Nat) {t : TypeId} {ms : Array (String × TypeId)} (hu : P.underlying t = some (.interface ms)) (w : World) : (Op.equalIn (d + 1) t .nilIface .nilIface).run P w = .ok true w := by
  simp [Op.equalIn, run_underlying hu]
theorem eq_vi (d : Nat) {t u : TypeId} {v : Value} {ms : Array (String × TypeId)} (hu : P.underlying t = some (.interface ms)) (w : World) : (Op.equalIn (d + 1) t (.iface u v) .nilIface).run P w = .ok false w := by
  simp [Op.equalIn, run_underlying hu]
include hC in
theorem aBin_sound {op : BinOp} {t : TypeId} {xo yo : Operand} {x y z : V} {xv yv : Value} (he : aBin C op t (isConst xo) (isConst yo) x y = some z) (hx : RelV F ρ x xv) (hy : RelV F ρ y yv) :
    ∃ v, ((do eqGuard op t xo yo xv yv; binOp op t xv yv) : Sem Value).run P w = .ok v w ∧ RelV F ρ z v := by
  unfold aBin at he
  split at he
  · rename_i k a k' b
    obtain ⟨rfl, _⟩ := sc_val hx
    obtain ⟨rfl, _⟩ := sc_val hy
    split at he
    · rename_i r hcmp
      split at he
      · rename_i hk
        cases he
        subst hk
        refine ⟨.bool r, ?_, sc_rel rfl⟩
        rw [Sem.run_bind, eqGuard_int, Result.andThen_ok, cmpI_run hcmp]
      · cases he
    · obtain ⟨v, h1, rfl, h3⟩ := ofPure_some he
      refine ⟨v, ?_, sc_rel h3⟩
      rw [Sem.run_bind, eqGuard_int, Result.andThen_ok, h1]; rfl
  · rename_i a b
    obtain ⟨rfl, _⟩ := sc_val hx
    obtain ⟨rfl, _⟩ := sc_val hy
    obtain ⟨v, h1, rfl, h3⟩ := ofPure_some he
    refine ⟨v, ?_, sc_rel h3⟩
    rw [Sem.run_bind, eqGuard_str, Result.andThen_ok, h1]; rfl
  · rename_i a b
    obtain ⟨rfl, _⟩ := sc_val hx
    obtain ⟨rfl, _⟩ := sc_val hy
    split at he
    · rename_i ht
      obtain ⟨d, i, hu, _, _, _, hk⟩ := (hC.ty _ _ ht).agg
      cases d <;> simp only [kindOk] at hk
      rw [Sem.run_bind, eqGuard_bool, Result.andThen_ok]
      have heq : (Op.equal t (.bool a) (.bool b)).run P w = .ok (a == b) w := run_equalIn_bool' w 9999 t a b hu
      have := bin_eqneq (P := P) (w := w) (t := t) (x := .bool a) (y := .bool b) (fun op => by cases op <;> rfl) heq
      exact eqlOf_run he this.1 this.2
    · simp at he
  · obtain ⟨rfl, _⟩ := sc_val hx
    obtain ⟨rfl, _⟩ := sc_val hy
    split at he
    · rename_i ht
      obtain ⟨d, i, hu, _, _, _, hk⟩ := (hC.ty _ _ ht).agg
      cases d <;> simp only [kindOk] at hk
      rw [Sem.run_bind, eqGuard_ptr, Result.andThen_ok]
      have heq : (Op.equal t (.pointer none) (.pointer none)).run P w = .ok true w := eq_nn 9999 hu w
      have := bin_eqneq (P := P) (w := w) (t := t) (x := .pointer none) (y := .pointer none) (fun op => by cases op <;> rfl) heq
      exact eqlOf_run he this.1 this.2
    · simp at he
  · obtain ⟨rfl, _⟩ := sc_val hx
    obtain ⟨rfl, _⟩ := sc_val hy
    split at he
    · rename_i hcst
      split at he
      · rename_i ht
        obtain ⟨d, i, hu, _, _, _, hk⟩ := (hC.ty _ _ ht).agg
        cases d <;> simp only [kindOk] at hk
        rw [Sem.run_bind, eqGuard_nil op t xo yo (by simpa using hcst), Result.andThen_ok]
        have heq : (Op.equal t .nilIface .nilIface).run P w = .ok true w := eq_ii 9999 hu w
        have := bin_eqneq (P := P) (w := w) (t := t) (x := .nilIface) (y := .nilIface) (fun op => by cases op <;> rfl) heq
        exact eqlOf_run he this.1 this.2
      · simp at he
    · simp at he
  · rename_i t' v'
    obtain ⟨cs, hr, rfl⟩ := hx
    obtain ⟨rfl, _⟩ := sc_val hy
    cases hr with
    | iface hr =>
      rename_i cs'
      split at he
      · rename_i ht
        obtain ⟨d, i, hu, _, _, _, hk⟩ := (hC.ty _ _ ht).agg
        cases d <;> simp only [kindOk] at hk
        simp only [V.pack, List.headD_cons]
        rw [Sem.run_bind, eqGuard_ifl, Result.andThen_ok]
        have heq : (Op.equal t (.iface t' (v'.pack cs')) .nilIface).run P w = .ok false w := eq_vi 9999 hu w
        have := bin_eqneq (P := P) (w := w) (t := t) (x := .iface t' (v'.pack cs')) (y := .nilIface) (fun op => by cases op <;> rfl) heq
        exact eqlOf_run he this.1 this.2
      · simp at he
  · rename_i as bs
    obtain ⟨cs, hr, rfl⟩ := hx
    obtain ⟨ds, hr', rfl⟩ := hy
    split at he
    · rename_i ti ht
      split at he
      · rename_i heq
        simp only [Option.bind_eq_some_iff] at he
        obtain ⟨b, hb, he⟩ := he
        have hok := (hC.ty _ _ ht).eqs heq
        simp only [eqOk, Bool.and_eq_true, Bool.not_eq_true'] at hok
        simp only [V.pack]
        rw [Sem.run_bind, run_eqGuard_agg w op t xo yo _ _ hok.1.1, Result.andThen_ok]
        have heq := aEq_sound hC 12 t _ _ b cs ds 9988 hb hr hr' w
        have := bin_eqneq (P := P) (w := w) (t := t) (x := .agg cs.toArray) (y := .agg ds.toArray) (fun op => by cases op <;> rfl) heq
        exact eqlOf_run he this.1 this.2
      · simp at he
    · simp at he
  · split at he
    · rename_i ht hs
      obtain ⟨d, i, hu, _, _, _, hk⟩ := (hC.ty _ _ ht).agg
      cases d <;> simp only [kindOk] at hk
      obtain ⟨a, n, c, rfl, hb⟩ := sliceNil_sound hs hx
      obtain ⟨cs, hr, rfl⟩ := hy
      cases hr with
      | nl hn =>
        rename_i a2
        cases a2 with
        | some => simp at hn
        | none =>
          simp only [V.pack, List.headD_cons]
          rw [Sem.run_bind, eqGuard_slice, Result.andThen_ok]
          have heq : (Op.equal t (.slice a n c) (.slice none 0 0)).run P w = .ok a.isNone w := eq_sn 9999 a n c hu w
          rw [hb] at heq
          have := bin_eqneq (P := P) (w := w) (t := t) (x := .slice a n c) (y := .slice none 0 0) (fun op => by cases op <;> rfl) heq
          exact eqlOf_run he this.1 this.2
    · simp at he
  · rename_i x' hnot
    obtain ⟨rfl, _⟩ := sc_val hy
    split at he
    · rename_i hp
      split at he
      · rename_i ht
        obtain ⟨d, i, hu, _, _, _, hk⟩ := (hC.ty _ _ ht).agg
        cases d <;> simp only [kindOk] at hk
        obtain ⟨a, rfl⟩ : ∃ a, xv = .pointer (some a) := by
          obtain ⟨cs, hr, rfl⟩ := hx
          cases hr <;> simp [isPtr] at hp
          · exact ⟨_, rfl⟩
          · exact ⟨_, rfl⟩
        rw [Sem.run_bind, eqGuard_ptr, Result.andThen_ok]
        have heq : (Op.equal t (.pointer (some a)) (.pointer none)).run P w = .ok false w := eq_pn 9999 a hu w
        have := bin_eqneq (P := P) (w := w) (t := t) (x := .pointer (some a)) (y := .pointer none) (fun op => by cases op <;> rfl) heq
        exact eqlOf_run he this.1 this.2
      · simp at he
    · simp at he
  · simp at he
end
end Go.A
