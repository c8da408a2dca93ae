/- Abstract values, their relation to the model's values, paths into them; a table by numbers. -/
import Derived.Deep.AppendSrc
import Derived.Deep.MidRow
import Derived.Orders
set_option linter.unusedVariables false
set_option linter.unusedSimpArgs false
noncomputable section
namespace Go.A
open Go

/-! ### A table by numbers -/
inductive Tr (α : Type) where
  | lf
  | nd (l : Tr α) (v : Option α) (r : Tr α)
namespace Tr
variable {α : Type}
/-- By a number: nought, odd, even. -/
def pick {β : Type} (n : Nat) (a : β) (f g : Nat → β) : β :=
  Nat.casesOn n a (fun m => Nat.casesOn (Nat.mod m 2) (f (Nat.div m 2)) (fun _ => g (Nat.div m 2)))
theorem pick_eq {β : Type} (n : Nat) (a : β) (f g : Nat → β) : pick n a f g = if n = 0 then a else if n % 2 = 1 then f (n / 2) else g (n / 2 - 1) := by
  cases n with
  | zero => rfl
  | succ m =>
    have key : ∀ q : Nat, m % 2 = q → (Nat.casesOn q (f (m / 2)) (fun _ => g (m / 2)) : β) = if (m + 1) % 2 = 1 then f ((m + 1) / 2) else g ((m + 1) / 2 - 1) := by
      intro q hq
      cases q with
      | zero =>
        rw [if_pos (by omega)]
        show f (m / 2) = _
        rw [show (m + 1) / 2 = m / 2 by omega]
      | succ q =>
        rw [if_neg (by omega)]
        show g (m / 2) = _
        rw [show (m + 1) / 2 - 1 = m / 2 by omega]
    rw [if_neg (by omega)]
    exact key _ rfl
def getC : Tr α → Nat → Option α
  | lf, _ => none
  | nd l v r, n => pick n v (getC l) (getC r)
/-- Written out with the recursors: the kernel has less to unfold. -/
noncomputable def get (t : Tr α) : Nat → Option α :=
  Tr.rec (motive := fun _ => Nat → Option α) (fun _ => none) (fun _ v _ gl gr n => Nat.rec (motive := fun _ => Option α) v (fun m _ => Nat.rec (motive := fun _ => Option α) (gl (Nat.div m 2)) (fun _ _ => gr (Nat.div m 2)) (Nat.mod m 2)) n) t
theorem get_nd (l : Tr α) (v : Option α) (r : Tr α) (n : Nat) : (nd l v r).get n = if n = 0 then v else if n % 2 = 1 then l.get (n / 2) else r.get (n / 2 - 1) := pick_eq n v (get l) (get r)
def path (x : α) : Nat → Nat → Tr α
  | 0, _ => lf
  | k + 1, n => pick n (nd lf (some x) lf) (fun m => nd (path x k m) none lf) (fun m => nd lf none (path x k m))
def setTC (x : α) : Tr α → Nat → Tr α
  | lf, n => path x (n + 1) n
  | nd l v r, n => pick n (nd l (some x) r) (fun m => nd (setTC x l m) v r) (fun m => nd l v (setTC x r m))
noncomputable def setT (x : α) (t : Tr α) : Nat → Tr α :=
  Tr.rec (motive := fun _ => Nat → Tr α) (fun n => path x (n + 1) n) (fun l v r sl sr n => Nat.rec (motive := fun _ => Tr α) (nd l (some x) r) (fun m _ => Nat.rec (motive := fun _ => Tr α) (nd (sl (Nat.div m 2)) v r) (fun _ _ => nd l v (sr (Nat.div m 2))) (Nat.mod m 2)) n) t
theorem setT_nd (x : α) (l : Tr α) (v : Option α) (r : Tr α) (n : Nat) : setT x (nd l v r) n = if n = 0 then nd l (some x) r else if n % 2 = 1 then nd (setT x l (n / 2)) v r else nd l v (setT x r (n / 2 - 1)) :=
  pick_eq n (nd l (some x) r) (fun m => nd (setT x l m) v r) (fun m => nd l v (setT x r m))
def set (t : Tr α) (n : Nat) (x : α) : Tr α := setT x t n
@[simp] theorem get_lf (n : Nat) : (lf : Tr α).get n = none := rfl
theorem get_path : ∀ (k : Nat) (n m : Nat) (x : α), n < k → (path x k n).get m = if m = n then some x else none := by
  intro k
  induction k with
  | zero => intro n m x h; omega
  | succ k ih =>
    intro n m x h
    simp only [path, pick_eq]
    by_cases h0 : n = 0
    · subst h0; simp only [if_pos, get_nd]
      by_cases hm : m = 0
      · simp [hm]
      · simp only [hm, if_false]; split <;> rfl
    · simp only [h0, if_false]
      by_cases h1 : n % 2 = 1
      · simp only [h1, if_true, get_nd]
        by_cases hm : m = 0
        · subst hm; simp [Ne.symm h0]
        · simp only [hm, if_false]
          by_cases hm1 : m % 2 = 1
          · simp only [hm1, if_true, ih (n / 2) (m / 2) x (by omega)]
            by_cases he : m = n
            · simp [he]
            · rw [if_neg (by omega), if_neg he]
          · simp only [hm1, if_false]
            rw [if_neg (by omega)]; rfl
      · simp only [h1, if_false, get_nd]
        by_cases hm : m = 0
        · subst hm; simp [Ne.symm h0]
        · simp only [hm, if_false]
          by_cases hm1 : m % 2 = 1
          · simp only [hm1, if_true]; rw [if_neg (by omega)]; rfl
          · simp only [hm1, if_false, ih (n / 2 - 1) (m / 2 - 1) x (by omega)]
            by_cases he : m = n
            · simp [he]
            · rw [if_neg (by omega), if_neg he]
theorem get_setT (x : α) : ∀ (t : Tr α) (n m : Nat), (setT x t n).get m = if m = n then some x else t.get m := by
  intro t
  induction t with
  | lf => intro n m; rw [get_lf]; exact get_path (n + 1) n m x (by omega)
  | nd l v r ihl ihr =>
    intro n m
    rw [setT_nd]
    by_cases h0 : n = 0
    · subst h0; simp only [if_pos, get_nd]
      by_cases hm : m = 0
      · simp [hm]
      · simp [hm]
    · simp only [h0, if_false]
      by_cases h1 : n % 2 = 1
      · simp only [h1, if_true, get_nd]
        by_cases hm : m = 0
        · subst hm; simp [Ne.symm h0]
        · simp only [hm, if_false]
          by_cases hm1 : m % 2 = 1
          · simp only [hm1, if_true, ihl (n / 2) (m / 2)]
            by_cases he : m = n
            · simp [he]
            · rw [if_neg (by omega), if_neg he]
          · simp only [hm1, if_false]
            rw [if_neg (by omega)]
      · simp only [h1, if_false, get_nd]
        by_cases hm : m = 0
        · subst hm; simp [Ne.symm h0]
        · simp only [hm, if_false]
          by_cases hm1 : m % 2 = 1
          · simp only [hm1, if_true]; rw [if_neg (by omega)]
          · simp only [hm1, if_false, ihr (n / 2 - 1) (m / 2 - 1)]
            by_cases he : m = n
            · simp [he]
            · rw [if_neg (by omega), if_neg he]
theorem get_set (t : Tr α) (n m : Nat) (x : α) : (t.set n x).get m = if m = n then some x else t.get m := get_setT x t n m
theorem get_set_same (t : Tr α) (n : Nat) (x : α) : (t.set n x).get n = some x := by rw [get_set, if_pos rfl]
theorem get_set_ne (t : Tr α) {n m : Nat} (x : α) (h : m ≠ n) : (t.set n x).get m = t.get m := by rw [get_set, if_neg h]
def ofList : List (Nat × α) → Tr α
  | [] => lf
  | (n, x) :: r => (ofList r).set n x
theorem get_ofList (L : List (Nat × α)) (n : Nat) (x : α) (h : (ofList L).get n = some x) : (n, x) ∈ L := by
  induction L with
  | nil => simp [ofList] at h
  | cons p r ih =>
    obtain ⟨m, y⟩ := p
    simp only [ofList, get_set] at h
    by_cases he : n = m
    · simp only [he, if_true, Option.some.injEq] at h; subst he; subst h; simp
    · simp only [he, if_false] at h; exact List.mem_cons_of_mem _ (ih h)
end Tr

/-! ### Values -/
structure Pt where
  b : Nat
  path : List Nat
  off : Nat
  deriving DecidableEq
inductive V where
  | sc (v : Value)
  | nl (isNil : Bool)
  | ptr (p : Pt)
  | sl (p : Pt) (esz i n : Nat) (cap : Option Nat)
  | list (vs : List V)
  | lp (v : V)
  | map (m : Nat)
  | fn (f : Fn) (first caps : List V)
  | iface (t : TypeId) (v : V)
  | agg (vs : List V)
  | tup (vs : List V)
instance : Inhabited V := ⟨.tup []⟩
def scalar : Value → Bool
  | .bool _ | .int _ _ | .string _ | .pointer none | .map none | .nilFunc | .nilIface => true
  | .func _ a b => a.isEmpty && b.isEmpty
  | _ => false
mutual
def V.size : V → Nat
  | .agg vs => V.sizeL vs
  | _ => 1
def V.sizeL : List V → Nat
  | [] => 0
  | v :: vs => v.size + V.sizeL vs
end
def V.isAgg : V → Bool
  | .agg _ => true
  | _ => false
def V.isTup : V → Bool
  | .tup _ => true
  | _ => false
/-- A value out of its cells. -/
def V.pack : V → List Value → Value
  | .agg _, cs => .agg cs.toArray
  | _, cs => cs.headD undef
structure Loc where
  bb : Nat
  sh : Nat
  size : Nat
abbrev Frz := Nat → Option Obj
/-- What stands for the abstract blocks; below nx nothing is added. -/
structure Ren where
  at_ : Nat → Option Loc
  nx : Nat
instance : CoeFun Ren (fun _ => Nat → Option Loc) := ⟨Ren.at_⟩
mutual
inductive Rel (F : Frz) (ρ : Ren) : V → List Value → Prop
  | sc {v : Value} (h : scalar v = true) : Rel F ρ (.sc v) [v]
  | nl {b : Bool} {a : Option Addr} (hb : a.isNone = b) : Rel F ρ (.nl b) [.slice a 0 0]
  | ptr {p : Pt} {l : Loc} (h : ρ p.b = some l) : Rel F ρ (.ptr p) [.pointer (some ⟨l.bb, l.sh + p.off, none⟩)]
  | sl {p : Pt} {esz i n c : Nat} {cap : Option Nat} {l : Loc} {a : Addr} (h : ρ p.b = some l)
      (ha : (a = ⟨l.bb, l.sh + p.off + i * esz, none⟩ ∧ l.sh + p.off + (i + c) * esz ≤ l.size) ∨ (n = 0 ∧ c = 0)) (hn : n ≤ c) (hc : ∀ k, cap = some k → c = k) :
      Rel F ρ (.sl p esz i n cap) [.slice (some a) n c]
  | listNil {a : Addr} {c : Nat} : Rel F ρ (.list []) [.slice (some a) 0 c]
  | list {vs : List V} {bb off c esz : Nat} {cells : Array Value} {E : TypeId} {fz : Nat × Nat} {cs : List Value} (h : F bb = some (.cells cells E fz)) (hr : RelL F ρ vs cs) (hs : ∀ v ∈ vs, v.size = esz)
      (hin : ∀ (j : Nat) (u : Value), cs[j]? = some u → cells[off + j]? = some u) (hc : vs.length ≤ c) : Rel F ρ (.list vs) [.slice (some ⟨bb, off, none⟩) vs.length c]
  | lp {v : V} {bb off : Nat} {cells : Array Value} {E : TypeId} {fz : Nat × Nat} {cs : List Value} (h : F bb = some (.cells cells E fz)) (hr : Rel F ρ v cs) (hn : v.isTup = false)
      (hin : ∀ (j : Nat) (u : Value), cs[j]? = some u → cells[off + j]? = some u) : Rel F ρ (.lp v) [.pointer (some ⟨bb, off, none⟩)]
  | map {m : Nat} {l : Loc} (h : ρ m = some l) : Rel F ρ (.map m) [.map (some l.bb)]
  | fn {f : Fn} {first caps : List V} {xs ys : List Value} (h1 : RelTs F ρ first xs) (h2 : RelTs F ρ caps ys) : Rel F ρ (.fn f first caps) [.func f xs.toArray ys.toArray]
  | iface {t : TypeId} {v : V} {cs : List Value} (h : Rel F ρ v cs) : Rel F ρ (.iface t v) [.iface t (v.pack cs)]
  | agg {vs : List V} {cs : List Value} (h : RelL F ρ vs cs) : Rel F ρ (.agg vs) cs
  | tup {vs : List V} {xs : List Value} (h : RelTs F ρ vs xs) : Rel F ρ (.tup vs) [.tuple xs.toArray]
inductive RelL (F : Frz) (ρ : Ren) : List V → List Value → Prop
  | nil : RelL F ρ [] []
  | cons {v : V} {vs : List V} {c cs : List Value} (hn : v.isTup = false) (h : Rel F ρ v c) (hs : RelL F ρ vs cs) : RelL F ρ (v :: vs) (c ++ cs)
inductive RelTs (F : Frz) (ρ : Ren) : List V → List Value → Prop
  | nil : RelTs F ρ [] []
  | cons {v : V} {vs : List V} {c : List Value} {xs : List Value} (h : Rel F ρ v c) (hs : RelTs F ρ vs xs) : RelTs F ρ (v :: vs) (v.pack c :: xs)
end
/-- A value as a whole. -/
def RelV (F : Frz) (ρ : Ren) (v : V) (x : Value) : Prop := ∃ cs, Rel F ρ v cs ∧ x = v.pack cs

/-- A step of the two registers. -/
structure WExt (F : Frz) (ρ : Ren) (F' : Frz) (ρ' : Ren) : Prop where
  f : ∀ n c E fz, F n = some (.cells c E fz) → F' n = some (.cells c E fz)
  r : ∀ b l, ρ b = some l → ρ' b = some l
structure Ext (F : Frz) (ρ : Ren) (F' : Frz) (ρ' : Ren) : Prop where
  f : ∀ n o, F n = some o → F' n = some o
  r : ∀ b l, ρ b = some l → ρ' b = some l
  n : ρ.nx ≤ ρ'.nx
  s : ∀ b, b < ρ.nx → ρ' b = ρ b
theorem Ext.refl (F : Frz) (ρ : Ren) : Ext F ρ F ρ := ⟨fun _ _ h => h, fun _ _ h => h, Nat.le_refl _, fun _ _ => rfl⟩
theorem Ext.trans {F ρ F' ρ' F'' ρ''} (h : Ext F ρ F' ρ') (h' : Ext F' ρ' F'' ρ'') : Ext F ρ F'' ρ'' :=
  ⟨fun n o x => h'.f _ _ (h.f _ _ x), fun b l x => h'.r _ _ (h.r _ _ x), Nat.le_trans h.n h'.n, fun b hb => by rw [h'.s b (Nat.lt_of_lt_of_le hb h.n), h.s b hb]⟩
theorem Ext.w {F ρ F' ρ'} (h : Ext F ρ F' ρ') : WExt F ρ F' ρ' := ⟨fun n _ _ _ => h.f n _, h.r⟩
mutual
theorem Rel.wmono {F ρ F' ρ'} (e : WExt F ρ F' ρ') : ∀ {v cs}, Rel F ρ v cs → Rel F' ρ' v cs
  | _, _, .sc h => .sc h
  | _, _, .nl h => .nl h
  | _, _, .ptr h => .ptr (e.r _ _ h)
  | _, _, .sl h ha hn hc => .sl (e.r _ _ h) ha hn hc
  | _, _, .listNil => .listNil
  | _, _, .list h hr hs hin hc => .list (e.f _ _ _ _ h) (RelL.wmono e hr) hs hin hc
  | _, _, .lp h hr hn hin => .lp (e.f _ _ _ _ h) (Rel.wmono e hr) hn hin
  | _, _, .map h => .map (e.r _ _ h)
  | _, _, .fn h1 h2 => .fn (RelTs.wmono e h1) (RelTs.wmono e h2)
  | _, _, .iface h => .iface (Rel.wmono e h)
  | _, _, .agg h => .agg (RelL.wmono e h)
  | _, _, .tup h => .tup (RelTs.wmono e h)
theorem RelL.wmono {F ρ F' ρ'} (e : WExt F ρ F' ρ') : ∀ {vs cs}, RelL F ρ vs cs → RelL F' ρ' vs cs
  | _, _, .nil => .nil
  | _, _, .cons hn h hs => .cons hn (Rel.wmono e h) (RelL.wmono e hs)
theorem RelTs.wmono {F ρ F' ρ'} (e : WExt F ρ F' ρ') : ∀ {vs cs}, RelTs F ρ vs cs → RelTs F' ρ' vs cs
  | _, _, .nil => .nil
  | _, _, .cons h hs => .cons (Rel.wmono e h) (RelTs.wmono e hs)
end
theorem RelV.wmono {F ρ F' ρ'} (e : WExt F ρ F' ρ') {v x} (h : RelV F ρ v x) : RelV F' ρ' v x := let ⟨cs, h, hx⟩ := h; ⟨cs, h.wmono e, hx⟩
theorem Rel.mono {F ρ F' ρ'} (e : Ext F ρ F' ρ') {v cs} (h : Rel F ρ v cs) : Rel F' ρ' v cs := h.wmono e.w
theorem RelL.mono {F ρ F' ρ'} (e : Ext F ρ F' ρ') {v cs} (h : RelL F ρ v cs) : RelL F' ρ' v cs := h.wmono e.w
theorem RelTs.mono {F ρ F' ρ'} (e : Ext F ρ F' ρ') {v cs} (h : RelTs F ρ v cs) : RelTs F' ρ' v cs := h.wmono e.w
theorem RelV.mono {F ρ F' ρ'} (e : Ext F ρ F' ρ') {v x} (h : RelV F ρ v x) : RelV F' ρ' v x := h.wmono e.w
mutual
theorem Rel.length {F ρ} : ∀ {v cs}, Rel F ρ v cs → cs.length = v.size
  | _, _, .sc h => rfl
  | _, _, .nl _ => rfl
  | _, _, .ptr h => rfl
  | _, _, .sl h ha hn hc => rfl
  | _, _, .listNil => rfl
  | _, _, .list h hr hs hin hc => rfl
  | _, _, .lp h hr hn hin => rfl
  | _, _, .map h => rfl
  | _, _, .fn h1 h2 => rfl
  | _, _, .iface h => rfl
  | _, _, .agg h => RelL.length h
  | _, _, .tup h => rfl
theorem RelL.length {F ρ} : ∀ {vs cs}, RelL F ρ vs cs → cs.length = V.sizeL vs
  | _, _, .nil => rfl
  | _, _, .cons _ h hs => by rw [List.length_append, h.length, hs.length]; rfl
end
theorem oneCell_of_scalar {v : Value} (h : scalar v = true) : v.oneCell' = true := by cases v <;> simp_all [scalar, Value.oneCell']
mutual
theorem Rel.one {F ρ} : ∀ {v cs}, Rel F ρ v cs → v.isTup = false → ∀ u ∈ cs, u.oneCell' = true
  | _, _, .sc h, _ => by intro u hu; simp at hu; subst hu; exact oneCell_of_scalar h
  | _, _, .nl _, _ => by intro u hu; simp at hu; subst hu; rfl
  | _, _, .ptr h, _ => by intro u hu; simp at hu; subst hu; rfl
  | _, _, .sl h ha hn hc, _ => by intro u hu; simp at hu; subst hu; rfl
  | _, _, .listNil, _ => by intro u hu; simp at hu; subst hu; rfl
  | _, _, .list h hr hs hin hc, _ => by intro u hu; simp at hu; subst hu; rfl
  | _, _, .lp h hr hn hin, _ => by intro u hu; simp at hu; subst hu; rfl
  | _, _, .map h, _ => by intro u hu; simp at hu; subst hu; rfl
  | _, _, .fn h1 h2, _ => by intro u hu; simp at hu; subst hu; rfl
  | _, _, .iface h, _ => by intro u hu; simp at hu; subst hu; rfl
  | _, _, .agg h, _ => RelL.one h
  | _, _, .tup h, hn => by simp [V.isTup] at hn
theorem RelL.one {F ρ} : ∀ {vs cs}, RelL F ρ vs cs → ∀ u ∈ cs, u.oneCell' = true
  | _, _, .nil => by intro u hu; simp at hu
  | _, _, .cons hn h hs => by
    intro u hu
    rcases List.mem_append.1 hu with hu | hu
    · exact Rel.one h hn u hu
    · exact RelL.one hs u hu
end
/-- Not an aggregate, not a tuple: one cell, the value itself. -/
theorem Rel.single {F ρ v cs} (h : Rel F ρ v cs) (ha : v.isAgg = false) : cs = [v.pack cs] := by
  cases h <;> simp_all [V.pack, V.isAgg]
theorem Rel.isAgg_pack {F ρ v cs} (h : Rel F ρ v cs) (ht : v.isTup = false) : (v.pack cs).cells.toList = cs := by
  cases h <;> simp_all [V.pack, Value.cells, V.isTup]
  case sc v h => cases v <;> simp_all [scalar, Value.cells]

/-! ### Paths -/
def V.at : V → List Nat → Option (V × Nat)
  | v, [] => some (v, 0)
  | .agg vs, i :: p => match vs[i]? with
    | some u => (u.at p).map fun x => (x.1, V.sizeL (vs.take i) + x.2)
    | none => none
  | _, _ :: _ => none
def V.upd : V → List Nat → V → Option V
  | _, [], x => some x
  | .agg vs, i :: p, x => match vs[i]? with
    | some u => (u.upd p x).map fun y => .agg (vs.set i y)
    | none => none
  | _, _ :: _, _ => none
theorem RelL.nth {F ρ} : ∀ {vs cs}, RelL F ρ vs cs → ∀ (i : Nat) (u : V), vs[i]? = some u → ∃ pre ds post, cs = pre ++ ds ++ post ∧ pre.length = V.sizeL (vs.take i) ∧ Rel F ρ u ds ∧ u.isTup = false
  | _, _, .nil, i, u, h => by simp at h
  | _, _, .cons (v := v) (vs := vs) (c := c) (cs := cs) hn h hs, 0, u, hu => by
    simp at hu; subst hu
    exact ⟨[], c, cs, by simp, by simp [V.sizeL], h, hn⟩
  | _, _, .cons (v := v) (vs := vs) (c := c) (cs := cs) hn h hs, i + 1, u, hu => by
    simp at hu
    obtain ⟨pre, ds, post, he, hl, hr, ht⟩ := RelL.nth hs i u hu
    exact ⟨c ++ pre, ds, post, by simp [he], by simp [V.sizeL, h.length, hl], hr, ht⟩
theorem RelL.setNth {F ρ} : ∀ {vs cs}, RelL F ρ vs cs → ∀ (i : Nat) (u y : V) (ys : List Value), vs[i]? = some u → Rel F ρ y ys → y.isTup = false → ys.length = u.size →
    RelL F ρ (vs.set i y) (cs.take (V.sizeL (vs.take i)) ++ ys ++ cs.drop (V.sizeL (vs.take i) + ys.length))
  | _, _, .nil, i, u, y, ys, h, _, _, _ => by simp at h
  | _, _, .cons (v := v) (vs := vs) (c := c) (cs := cs) hn h hs, 0, u, y, ys, hu, hy, ht, hl => by
    simp at hu; subst hu
    have e : (c ++ cs).drop ys.length = cs := by rw [hl, ← h.length]; simp
    simp only [List.set_cons_zero, List.take_zero, V.sizeL, List.nil_append, Nat.zero_add, e]
    exact .cons ht hy hs
  | _, _, .cons (v := v) (vs := vs) (c := c) (cs := cs) hn h hs, i + 1, u, y, ys, hu, hy, ht, hl => by
    simp at hu
    have ih := RelL.setNth hs i u y ys hu hy ht hl
    have e1 : (c ++ cs).take (V.sizeL ((v :: vs).take (i + 1))) = c ++ cs.take (V.sizeL (vs.take i)) := by
      simp only [List.take_succ_cons, V.sizeL, ← h.length]
      rw [List.take_append]; simp [List.take_of_length_le]
    have e2 : (c ++ cs).drop (V.sizeL ((v :: vs).take (i + 1)) + ys.length) = cs.drop (V.sizeL (vs.take i) + ys.length) := by
      simp only [List.take_succ_cons, V.sizeL, ← h.length, Nat.add_assoc]
      rw [List.drop_append]; simp
    rw [e1, e2, List.set_cons_succ]
    have := RelL.cons hn h ih
    simpa [List.append_assoc] using this
theorem Rel.at {F ρ} : ∀ (p : List Nat) {v : V} {cs : List Value} {u : V} {o : Nat}, Rel F ρ v cs → v.at p = some (u, o) →
    ∃ pre ds post, cs = pre ++ ds ++ post ∧ pre.length = o ∧ Rel F ρ u ds ∧ (v.isTup = false → u.isTup = false)
  | [], v, cs, u, o, h, ha => by
    have : v.at [] = some (v, 0) := by cases v <;> rfl
    rw [this] at ha; cases ha
    exact ⟨[], cs, [], by simp, rfl, h, id⟩
  | i :: p, v, cs, u, o, h, ha => by
    cases h <;> simp only [V.at] at ha <;> try (exact absurd ha (by simp))
    case agg vs h =>
      cases hu : vs[i]? with
      | none => rw [hu] at ha; simp at ha
      | some x =>
        rw [hu] at ha
        simp only [Option.map_eq_some_iff] at ha
        obtain ⟨⟨x', o'⟩, hx, he⟩ := ha
        simp at he
        obtain ⟨rfl, rfl⟩ := he
        obtain ⟨pre, ds, post, he, hl, hr, ht⟩ := h.nth i x hu
        obtain ⟨pre', ds', post', he', hl', hr', ht'⟩ := Rel.at p hr hx
        exact ⟨pre ++ pre', ds', post' ++ post, by rw [he, he']; simp, by simp [hl, hl'], hr', fun _ => ht' ht⟩
theorem Rel.upd {F ρ} : ∀ (p : List Nat) {v : V} {cs : List Value} {u : V} {o : Nat} {x v' : V} {xs : List Value}, Rel F ρ v cs → v.at p = some (u, o) → v.upd p x = some v' →
    Rel F ρ x xs → x.isTup = false → xs.length = u.size → Rel F ρ v' (cs.take o ++ xs ++ cs.drop (o + xs.length)) ∧ v'.size = v.size ∧ (v.isTup = false → v'.isTup = false)
  | [], v, cs, u, o, x, v', xs, h, ha, hu, hx, ht, hl => by
    have e : v.at [] = some (v, 0) := by cases v <;> rfl
    rw [e] at ha; cases ha
    have e : v.upd [] x = some x := by cases v <;> rfl
    rw [e] at hu; cases hu
    refine ⟨?_, by rw [← hx.length, hl], fun _ => ht⟩
    have : cs.length = xs.length := by rw [h.length, hl]
    simpa [List.drop_of_length_le, this] using hx
  | i :: p, v, cs, u, o, x, v', xs, h, ha, hu, hx, ht, hl => by
    cases h <;> simp only [V.at, V.upd] at ha hu <;> try (exact absurd ha (by simp))
    case agg vs h =>
      cases hy : vs[i]? with
      | none => rw [hy] at ha; simp at ha
      | some y =>
        rw [hy] at ha hu
        simp only [Option.map_eq_some_iff] at ha hu
        obtain ⟨⟨x', o'⟩, hx', he⟩ := ha
        simp at he
        obtain ⟨rfl, rfl⟩ := he
        obtain ⟨z, hz, rfl⟩ := hu
        obtain ⟨pre, ds, post, he, hl1, hr, ht1⟩ := h.nth i y hy
        obtain ⟨h1, h2, h3⟩ := Rel.upd p hr hx' hz hx ht hl
        have hlen : (ds.take o' ++ xs ++ ds.drop (o' + xs.length)).length = y.size := by rw [h1.length, h2]
        have h4 := h.setNth i y z _ hy h1 (h3 ht1) hlen
        obtain ⟨pre', ds', post', he', hl1', hr', _⟩ := Rel.at p hr hx'
        have hlds : ds'.length = xs.length := by rw [hr'.length, hl]
        refine ⟨.agg ?_, ?_, fun _ => rfl⟩
        · have e : cs.take (V.sizeL (vs.take i)) ++ (ds.take o' ++ xs ++ ds.drop (o' + xs.length)) ++ cs.drop (V.sizeL (vs.take i) + (ds.take o' ++ xs ++ ds.drop (o' + xs.length)).length) =
              cs.take (V.sizeL (vs.take i) + o') ++ xs ++ cs.drop (V.sizeL (vs.take i) + o' + xs.length) := by
            rw [hlen, ← hl1, ← hl1', ← hr.length, ← hlds, he, he']
            simp [List.take_append, List.drop_append, Nat.add_assoc, List.take_of_length_le, List.drop_of_length_le]
          rw [e] at h4; exact h4
        · have := h4.length
          have := h.length
          have l1 := h4.length
          simp only [V.size]
          rw [← l1, ← h.length, hlen, he]
          have l2 := congrArg List.length he'
          simp only [List.length_append] at l2
          simp [hl1, ← hr.length]
          omega
end Go.A
