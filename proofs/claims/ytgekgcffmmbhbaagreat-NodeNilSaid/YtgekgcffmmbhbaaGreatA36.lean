/- A function's code run in pieces: what one piece leaves is told by lists, and what is needed no more is forgotten. -/
import Derived.Test.YtgekgcffmmbhbaaGreatA21
set_option linter.unusedVariables false
set_option linter.unusedSimpArgs false
noncomputable section
namespace Go.A
open Go
set_option linter.unusedSectionVars false
/-! Short names for what is told often. -/
def bu (n : Nat) : V := .sc (.int .u8 (Int.ofNat n))
def bi (n : Nat) : V := .sc (.int .i64 (Int.ofNat n))
def bw (n : Nat) : V := .sc (.int .u64 (Int.ofNat n))
def bp (b : Nat) : V := .ptr ⟨b, [], 0⟩
def rp (n : Nat) (v : V) : List V := List.replicate n v
mutual
def eqW : V → V → Bool
  | .sc a, .sc b => (match a, b with
    | .bool x, .bool y => x == y
    | .int k x, .int l y => decide (k = l) && decide (x = y)
    | .string x, .string y => decide (x.data.toList = y.data.toList)
    | .pointer none, .pointer none => true
    | .map none, .map none => true
    | .nilFunc, .nilFunc => true
    | .nilIface, .nilIface => true
    | .func (.func k) x y, .func (.func l) x' y' => Nat.beq k l && x.isEmpty && y.isEmpty && x'.isEmpty && y'.isEmpty
    | _, _ => false)
  | .nl a, .nl b => a == b
  | .ptr a, .ptr b => decide (a = b)
  | .sl p e i n c, .sl p' e' i' n' c' => decide (p = p') && decide (e = e') && decide (i = i') && decide (n = n') && decide (c = c')
  | .list a, .list b => eqWs a b
  | .lp a, .lp b => eqW a b
  | .map a, .map b => Nat.beq a b
  | .fn (.func k) a b, .fn (.func l) c d => Nat.beq k l && eqWs a c && eqWs b d
  | .iface t a, .iface u b => Nat.beq t u && eqW a b
  | .agg a, .agg b => eqWs a b
  | .tup a, .tup b => eqWs a b
  | _, _ => false
def eqWs : List V → List V → Bool
  | [], [] => true
  | a :: r, b :: s => eqW a b && eqWs r s
  | _, _ => false
end
theorem bytes_eq {x y : ByteArray} (h : x.data.toList = y.data.toList) : x = y := by
  cases x; cases y
  simp only at h
  congr 1
  exact Array.ext' h
mutual
theorem eqW_eq : ∀ {a b : V}, eqW a b = true → a = b
  | .sc a, .sc b, h => by
    simp only [eqW] at h
    split at h
    · simp at h; rw [h]
    · simp at h; rw [h.1, h.2]
    · simp only [decide_eq_true_eq] at h; rw [bytes_eq h]
    · rfl
    · rfl
    · rfl
    · rfl
    · simp only [Bool.and_eq_true, Array.isEmpty_iff] at h
      obtain ⟨⟨⟨⟨h1, rfl⟩, rfl⟩, rfl⟩, rfl⟩ := h
      rw [Nat.eq_of_beq_eq_true h1]
    · simp at h
  | .nl a, .nl b, h => by simp [eqW] at h; rw [h]
  | .ptr a, .ptr b, h => by simp [eqW] at h; rw [h]
  | .sl p e i n c, .sl p' e' i' n' c', h => by simp [eqW] at h; obtain ⟨⟨⟨⟨rfl, rfl⟩, rfl⟩, rfl⟩, rfl⟩ := h; rfl
  | .list a, .list b, h => by simp only [eqW] at h; rw [eqWs_eq h]
  | .lp a, .lp b, h => by simp only [eqW] at h; rw [eqW_eq h]
  | .map a, .map b, h => by simp only [eqW] at h; rw [Nat.eq_of_beq_eq_true h]
  | .fn (.func k) a b, .fn (.func l) c d, h => by simp only [eqW, Bool.and_eq_true] at h; rw [Nat.eq_of_beq_eq_true h.1.1, eqWs_eq h.1.2, eqWs_eq h.2]
  | .iface t a, .iface u b, h => by simp only [eqW, Bool.and_eq_true] at h; rw [Nat.eq_of_beq_eq_true h.1, eqW_eq h.2]
  | .agg a, .agg b, h => by simp only [eqW] at h; rw [eqWs_eq h]
  | .tup a, .tup b, h => by simp only [eqW] at h; rw [eqWs_eq h]
theorem eqWs_eq : ∀ {a b : List V}, eqWs a b = true → a = b
  | [], [], h => rfl
  | a :: r, b :: s, h => by simp only [eqWs, Bool.and_eq_true] at h; rw [eqW_eq h.1, eqWs_eq h.2]
end
def eqEnts : List (V × V × Nat) → List (V × V × Nat) → Bool
  | [], [] => true
  | (a, b, n) :: r, (c, d, m) :: s => eqW a c && eqW b d && Nat.beq n m && eqEnts r s
  | _, _ => false
theorem eqEnts_eq : ∀ {a b : List (V × V × Nat)}, eqEnts a b = true → a = b
  | [], [], h => rfl
  | (a, b, n) :: r, (c, d, m) :: s, h => by
    simp only [eqEnts, Bool.and_eq_true] at h
    rw [eqW_eq h.1.1.1, eqW_eq h.1.1.2, Nat.eq_of_beq_eq_true h.1.2, eqEnts_eq h.2]
def eqBlk : Blk → Blk → Bool
  | .cells v f, .cells u g => eqW v u && f == g
  | .map es c, .map fs d => eqEnts es fs && Nat.beq c d
  | _, _ => false
theorem eqBlk_eq : ∀ {a b : Blk}, eqBlk a b = true → a = b
  | .cells v f, .cells u g, h => by simp only [eqBlk, Bool.and_eq_true, beq_iff_eq] at h; rw [eqW_eq h.1, h.2]
  | .map es c, .map fs d, h => by simp only [eqBlk, Bool.and_eq_true] at h; rw [eqEnts_eq h.1, Nat.eq_of_beq_eq_true h.2]
abbrev St := Env × H
/-- A state told by lists. -/
def mkSt (le : List (Nat × V)) (nx : Nat) (lh : List (Nat × Blk)) : St := (Tr.ofList le, ⟨nx, 0, Tr.ofList lh⟩)
def subSt (le : List (Nat × V)) (nx : Nat) (lh : List (Nat × Blk)) (s : St) : Bool :=
  Nat.beq s.2.next nx && (le.all fun x => match s.1.get x.1 with
    | some v => eqW x.2 v
    | none => false) && lh.all fun x => match s.2.get x.1 with
    | some v => eqBlk x.2 v
    | none => false
structure SubSt (s s' : St) : Prop where
  nx : s.2.next = s'.2.next
  env : ∀ n v, s.1.get n = some v → s'.1.get n = some v
  heap : ∀ b x, s.2.get b = some x → s'.2.get b = some x
theorem subSt_ok {le : List (Nat × V)} {nx : Nat} {lh : List (Nat × Blk)} {s : St} (h : subSt le nx lh s = true) : SubSt (mkSt le nx lh) s := by
  unfold subSt at h
  simp only [Bool.and_eq_true, List.all_eq_true] at h
  obtain ⟨⟨h1, h2⟩, h3⟩ := h
  refine ⟨(Nat.eq_of_beq_eq_true h1).symm, fun n v hv => ?_, fun b x hx => ?_⟩
  · have := h2 _ (Tr.get_ofList _ _ _ hv)
    split at this
    · rename_i u hu; exact hu.trans (congrArg some (eqW_eq this).symm)
    · simp at this
  · have hm : (Tr.ofList lh).get b = some x := by
      unfold H.get mkSt at hx
      simp only at hx
      split at hx
      · simp at hx
      · exact hx
    have := h3 _ (Tr.get_ofList _ _ _ hm)
    split at this
    · rename_i u hu; exact hu.trans (congrArg some (eqBlk_eq this).symm)
    · simp at this
section
variable [Outer] {P : Program} {C : Ctx} {F : Frz} {ρ : Ren} {w : World}
theorem Sim.sub {h h' : H} (s : Sim F ρ h w) (hn : h'.next = h.next) (hg : ∀ b x, h'.get b = some x → h.get b = some x) : Sim F ρ h' w :=
  ⟨s.frz, fun b l hl => by rw [hn]; exact s.dom b l hl, fun b x l hx hl => s.blk b x l (hg b x hx) hl, fun b b' l l' x x' hl hl' hx hx' => s.inj b b' l l' x x' hl hl' (hg b x hx) (hg b' x' hx'), fun b x l hx hl => s.live b x l (hg b x hx) hl, by rw [hn]; exact s.nx, s.io⟩
theorem Post.sub {D : List Deferred} {sz : Nat} {ex : Ex} {s s' : St} (hs : SubSt s' s) {e : Exit} {a : Act} (p : Post D F ρ sz ex s.1 s.2 e a w) : Post D F ρ sz ex s'.1 s'.2 e a w :=
  let ⟨F', ρ', h1, h2, h3, h4, h5⟩ := p
  ⟨F', ρ', h1, h2, h3.sub hs.nx hs.heap, ⟨fun t v hv => h4.at_ t v (hs.env t v hv)⟩, h5⟩
/-- From the one state the code leads to the other. -/
def Trip (P : Program) (D : List Deferred) (sz : Nat) (c : Code) (s : St) (ex : Ex) (s' : St) : Prop :=
  ∀ F ρ a w, Sim F ρ s.2 w → EnvRel F ρ s.1 a.tmps → a.tmps.size = sz → a.defers = D → c.wp P (Post D F ρ sz ex s'.1 s'.2) a w
/-- So many rounds of a loop. -/
def TripL (P : Program) (D : List Deferred) (sz m : Nat) (c : Code) (s : St) (ex : Ex) (s' : St) : Prop :=
  ∀ F ρ a w, Sim F ρ s.2 w → EnvRel F ρ s.1 a.tmps → a.tmps.size = sz → a.defers = D → Code.rounds P c (Post D F ρ sz ex s'.1 s'.2) m a w
variable {D : List Deferred} {sz : Nat}
theorem Trip.sub {c : Code} {s s1 s2 : St} {ex : Ex} (h : Trip P D sz c s ex s1) (hs : SubSt s2 s1) : Trip P D sz c s ex s2 :=
  fun F ρ a w h1 h2 h3 h4 => wp_mono (h F ρ a w h1 h2 h3 h4) (fun _ _ _ p => p.sub hs)
theorem Trip.seq {a b : Code} {s s1 s' : St} {ex : Ex} (h1 : Trip P D sz a s .normal s1) (h2 : Trip P D sz b s1 ex s') : Trip P D sz (.seq a b) s ex s' := by
  intro F ρ ac w q1 q2 q3 q4
  refine wp_seq (wp_mono (h1 F ρ ac w q1 q2 q3 q4) ?_)
  rintro e a' w' ⟨F', ρ', rfl, g1, g2, g3, g4, g5⟩
  exact wp_mono (h2 F' ρ' a' w' g2 g3 g4 g5) (fun e a w p => p.ext g1)
theorem Trip.block {b : Code} {id : Nat} {s s' : St} (h : Trip P D sz b s (.exit id) s') : Trip P D sz (.block id b) s .normal s' := by
  intro F ρ ac w q1 q2 q3 q4
  refine wp_block (wp_mono (h F ρ ac w q1 q2 q3 q4) ?_)
  rintro e a' w' ⟨F', ρ', rfl, g⟩
  show Exit.inBlock id _ (.exit id) a' w'
  simp only [Exit.inBlock, if_true]
  exact ⟨F', ρ', rfl, g⟩
theorem Trip.blockN {b : Code} {id : Nat} {s s' : St} (h : Trip P D sz b s .normal s') : Trip P D sz (.block id b) s .normal s' := by
  intro F ρ ac w q1 q2 q3 q4
  refine wp_block (wp_mono (h F ρ ac w q1 q2 q3 q4) ?_)
  rintro e a' w' ⟨F', ρ', rfl, g⟩
  exact ⟨F', ρ', rfl, g⟩
theorem rounds_ext {c : Code} {s' : St} {ex : Ex} {F' : Frz} {ρ' : Ren} (g1 : Ext F ρ F' ρ') : ∀ (k : Nat) (a : Act) (w : World), Code.rounds P c (Post D F' ρ' sz ex s'.1 s'.2) k a w → Code.rounds P c (Post D F ρ sz ex s'.1 s'.2) k a w := by
  intro k
  induction k with
  | zero => intro a w hh; exact hh
  | succ k ihk =>
    intro a w hh
    rw [rounds_succ] at hh ⊢
    refine wp_mono hh (fun e a w p => ?_)
    cases e with
    | normal => exact ihk _ _ p
    | _ => exact Post.ext g1 p
theorem TripL.step {c : Code} {s s1 s' : St} {ex : Ex} {m : Nat} (h1 : Trip P D sz c s .normal s1) (h2 : TripL P D sz m c s1 ex s') : TripL P D sz (m + 1) c s ex s' := by
  intro F ρ ac w q1 q2 q3 q4
  rw [rounds_succ]
  refine wp_mono (h1 F ρ ac w q1 q2 q3 q4) ?_
  rintro e a' w' ⟨F', ρ', rfl, g1, g2, g3, g4, g5⟩
  exact rounds_ext g1 m a' w' (h2 F' ρ' a' w' g2 g3 g4 g5)
theorem TripL.last {c : Code} {s s' : St} {id m : Nat} (h : Trip P D sz c s (.exit id) s') : TripL P D sz (m + 1) c s (.exit id) s' := by
  intro F ρ ac w q1 q2 q3 q4
  rw [rounds_succ]
  refine wp_mono (h F ρ ac w q1 q2 q3 q4) ?_
  rintro e a' w' ⟨F', ρ', rfl, g⟩
  exact ⟨F', ρ', rfl, g⟩
theorem TripL.loop {c : Code} {s s' : St} {ex : Ex} {m : Nat} (h : TripL P D sz m c s ex s') : Trip P D sz (.loop c) s ex s' :=
  fun F ρ a w q1 q2 q3 q4 => wp_loop_rounds m (h F ρ a w q1 q2 q3 q4)
/-- What a piece is run with. -/
structure RunOk (P : Program) (C : Ctx) (call : CallK) (f : FuncId) : Prop where
  ctx : CtxOk P C
  call : CallsOk P call
abbrev runF (C : Ctx) (call : CallK) (f n : Nat) (c : Code) (s : St) : Option (Ex × St) := run C call (frzOf C f) (drawnOf C call f) n c s.1 s.2
def fine (C : Ctx) (f sz : Nat) (c : Code) : Bool := codeFits sz c && regionsAll (goodOf C f) c
theorem Trip.run {call : CallK} {f n : Nat} (hr : RunOk P C call f) {c : Code} {s s' : St} {ex : Ex} (he : runF C call f n c s = some (ex, s')) (hf : fine C f sz c = true) : Trip P D sz c s ex s' := by
  unfold fine at hf
  simp only [Bool.and_eq_true] at hf
  exact fun F ρ a w q1 q2 q3 q4 => run_wp hr.call hr.ctx (drawn_ok hr.ctx hr.call D f sz) n c _ _ _ _ _ he hf.1 hf.2 F ρ a w q1 q2 q3 q4
/-- Pieces, one behind the other, each left as it ends. -/
def runs (C : Ctx) (call : CallK) (f n : Nat) : List Code → St → Option St
  | [], s => some s
  | c :: r, s => match runF C call f n c s with
    | some (.normal, s1) => runs C call f n r s1
    | _ => none
omit [Outer] in
theorem runs_cons {call : CallK} {f n : Nat} {c : Code} {r : List Code} {s s' : St} (h : runs C call f n (c :: r) s = some s') : ∃ s1, runF C call f n c s = some (.normal, s1) ∧ runs C call f n r s1 = some s' := by
  simp only [runs] at h
  split at h
  · rename_i s1 hs; exact ⟨s1, hs, h⟩
  · simp at h
theorem TripL.lastX {c : Code} {s s' : St} {ex : Ex} {m : Nat} (hne : ex ≠ .normal) (h : Trip P D sz c s ex s') : TripL P D sz (m + 1) c s ex s' := by
  intro F ρ ac w q1 q2 q3 q4
  rw [rounds_succ]
  refine wp_mono (h F ρ ac w q1 q2 q3 q4) ?_
  rintro e a' w' ⟨F', ρ', rfl, g⟩
  cases ex with
  | normal => exact absurd rfl hne
  | exit id => exact ⟨F', ρ', rfl, g⟩
  | ret => exact ⟨F', ρ', rfl, g⟩
theorem TripL.run {call : CallK} {f n : Nat} (hr : RunOk P C call f) {c : Code} (hf : fine C f sz c = true) : ∀ (m : Nat) (s s' : St) (ex : Ex), loopN (Go.A.run C call (frzOf C f) (drawnOf C call f) n c) m s.1 s.2 = some (ex, s') → TripL P D sz m c s ex s' := by
  intro m
  induction m with
  | zero => intro s s' ex he; simp [loopN] at he
  | succ m ih =>
    intro s s' ex he
    simp only [loopN] at he
    split at he
    · rename_i e1 h1 hx
      exact TripL.step (s1 := (e1, h1)) (Trip.run hr hx hf) (ih (e1, h1) s' ex he)
    · rename_i hne
      exact TripL.lastX (fun hq => by subst hq; obtain ⟨e1, h1⟩ := s'; exact hne _ _ he) (Trip.run hr he hf)
def chk (le : List (Nat × V)) (nx : Nat) (lh : List (Nat × Blk)) : Option St → Bool
  | some s => subSt le nx lh s
  | none => false
omit [Outer] in
theorem chk_inv {le : List (Nat × V)} {nx : Nat} {lh : List (Nat × Blk)} {r : Option St} (h : chk le nx lh r = true) : ∃ s, r = some s ∧ SubSt (mkSt le nx lh) s := by
  cases r with
  | none => simp [chk] at h
  | some s => exact ⟨s, rfl, subSt_ok h⟩
/-! ### a function without parameters, run in an empty heap -/
def ρ0 : Ren := ⟨fun _ => none, 0⟩
theorem sim0 {F : Frz} {w : World} (h : ∀ n o, F n = some o → w.heap[n]? = some o) (hio : w.os = Outer.os ∧ w.output = Outer.out) : Sim F ρ0 ⟨0, 0, .lf⟩ w :=
  ⟨h, fun b l hl => by simp [ρ0] at hl, fun b x l hx => by simp [H.get] at hx, fun b b' l l' x x' hl => by simp [ρ0] at hl, fun b x l hx => by simp [H.get] at hx, Nat.le_refl _, hio⟩
/-- Called in whatever world, it hands back v, and nothing that lay there has turned. -/
def ShutOk (P : Program) (f : FuncId) (v : Value) : Prop := ∀ w : World, Calls P f #[] w fun e w' => e = .returned v ∧ SameIo w w' ∧ ∀ (n : Nat) (o : Obj), w.heap[n]? = some o → w'.heap[n]? = some o
def withShut (call : CallK) (g : FuncId) (v : Value) : CallK := fun f args h => if f = g then (match args with
  | [] => some (.sc v, h)
  | _ => none) else call f args h
theorem withShut_ok {call : CallK} (hcall : CallsOk P call) {g : FuncId} {v : Value} (hv : scalar v = true) (hg : ShutOk P g v) : CallsOk P (withShut call g v) := by
  intro f args h v' h' he F ρ w xs sm hr
  unfold withShut at he
  split at he
  · rename_i hf
    subst hf
    split at he
    · cases he
      cases hr
      refine (hg w).mono ?_
      rintro e w' ⟨rfl, hio, hk⟩
      refine ⟨v, F, ρ, rfl, .refl _ _, ⟨fun n o hn => hk _ _ (sm.frz n o hn), sm.dom, fun b x l hx hl => ?_, sm.inj, sm.live, sm.nx, sm.same hio⟩, sc_rel hv⟩
      obtain ⟨o, ho, hok⟩ := sm.blk b x l hx hl
      exact ⟨o, hk _ _ ho, hok⟩
    · simp at he
  · exact hcall f args h v' h' he F ρ w xs sm hr
omit [Outer] in
theorem shutOk_of {f : FuncId} {fn : Func} {code : Code} {v : Value} {s' : St} (hC : CtxOk P C) (hfn : C.fn.get f = some fn) (hcode : fn.body = some code) (ht : ∀ _ : Outer, Trip P [] fn.ntmps code (.lf, ⟨0, 0, .lf⟩) .ret s') (hres : aRes C s'.1 s'.2 fn.results.toList = some [.sc v]) : ShutOk P f v := by
  intro w
  letI : Outer := ⟨w.os, w.output⟩
  have hF := hC.fn _ _ hfn
  refine calls_of_wp hF.at_ hcode ?_
  refine wp_mono (ht _ (fun n => w.heap[n]?) ρ0 _ w (sim0 (fun _ _ h => h) ⟨rfl, rfl⟩) ⟨fun t v hv => by simp at hv⟩ (by simp) rfl) ?_
  rintro e a' w' ⟨F', ρ', rfl, g1, g2, g3, g4, g5⟩
  obtain ⟨x, q1, q2⟩ := results_sound hC g2 g3 hres
  obtain ⟨rfl, _⟩ := sc_val q2
  exact ⟨g5, _, q1, rfl, g2.io, fun n o hn => g2.frz n o (g1.f n o hn)⟩
end
end Go.A
