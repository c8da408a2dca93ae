/- What stays as it was; calls; the whole evaluator and its soundness. -/
import Derived.Test.YtgekgcffmmbhbaaGreatA19
set_option linter.unusedVariables false
set_option linter.unusedSimpArgs false
noncomputable section
namespace Go.A
open Go
set_option linter.unusedSectionVars false
variable [Outer]
section
variable {P : Program} {C : Ctx} {F : Frz} {ρ : Ren} {h : H} {w : World}
theorem Keep.push {x : Blk} (hl : h.lo ≤ h.next) : Keep h (h.push x) :=
  ⟨rfl, Nat.le_succ _, fun c hc => by rw [H.get_push, if_neg (by omega)]⟩
theorem aNew_keep {v : V} (hl : h.lo ≤ h.next) : Keep h (aNew v h).2 := Keep.push hl
theorem aPut_keep {p : Pt} {n : Nat} {y : V} {h' : H} (he : aPut h p n y = some h') : Keep h h' := by
  unfold aPut at he
  split at he
  · split at he
    · split at he
      · rename_i hc; cases he; exact Keep.setHi hc.2.2.2.2
      · simp at he
    · simp at he
  · simp at he
theorem aStore_keep {t : TypeId} {x y : V} {h' : H} (he : aStore C t x y h = some h') : Keep h h' := by
  unfold aStore at he
  split at he
  · exact aPut_keep he
  · simp at he
theorem aBuildSlice_keep {t : TypeId} {len : Nat} {ps : List (Nat × V)} {x : V} {h' : H} (hl : h.lo ≤ h.next) (he : aBuildSlice C t len ps h = some (x, h')) : Keep h h' := by
  unfold aBuildSlice at he
  split at he
  · split at he
    · split at he
      · split at he
        · split at he
          · cases he; exact .refl _
          · simp at he
        · split at he
          · simp at he
          · split at he
            · cases he; exact Keep.push hl
            · simp at he
      · simp at he
    · simp at he
  · simp at he
theorem aAppend_keep {t tx : TypeId} {s x y : V} {frz : Bool} {h' : H} (hl : h.lo ≤ h.next) (he : aAppend C t tx s x frz h = some (y, h')) : Keep h h' := by
  unfold aAppend at he
  split at he
  · split at he
    · split at he
      · split at he
        · simp at he
        · split at he
          · split at he <;> first | (simp at he; done) | (cases he; exact .refl _)
          · have fin : ∀ {te : TI} {s : V} {olds xs : List V}, aGrow te s olds xs frz h = some (y, h') → Keep h h' := fun hg => by
              rcases aGrow_keep hg with rfl | ⟨x, rfl⟩ | ⟨b, x, hb, rfl⟩
              · exact .refl _
              · exact Keep.push hl
              · exact (Keep.setHi hb).trans (Keep.push (by simpa [H.set] using hl))
            split at he
            · split at he
              · exact fin he
              · simp at he
            · split at he
              · exact fin he
              · simp at he
            · simp at he
          · simp at he
      · simp at he
    · simp at he
  · simp at he
theorem aRowPut_keep {x : V} {sz : Nat} {xs : List V} {h' : H} (he : aRowPut h x sz xs = some h') : Keep h h' := by
  unfold aRowPut at he
  split at he
  · cases he; exact .refl _
  · split at he
    · split at he
      · split at he
        · exact aPut_keep he
        · simp at he
      · simp at he
    · simp at he
theorem more_keep {ev : Operand → Option V} {o : Oper} {r : OR} {h' : H} (hl : h.lo ≤ h.next) (he : moreEval C ev o h = some (r, h')) : Keep h h' := by
  cases hE : isE0 o with
  | false => rw [(more_quiet hE he).1]; exact .refl _
  | true =>
    unfold moreEval at he
    unfold isE0 at hE
    cases hop : o.op <;> simp only [hop] at he hE <;> try (simp at hE; done)
    case alloc => simp at he
    case box => simp at he
    case buildSlice => simp at he
    case store => simp at he
    case makeMap t r =>
      cases r with
      | none => simp only at he; cases he; exact Keep.push hl
      | some r => simp at he
    case mapUpdate t m k v =>
      split at he
      · simp only [Option.map_eq_some_iff] at he
        obtain ⟨h1, hb, he⟩ := he
        cases he
        unfold aMapPut at hb
        split at hb
        · split at hb
          · split at hb
            · rename_i hc
              split at hb
              · cases hb; exact Keep.setHi hc.1
              · split at hb
                · split at hb
                  · cases hb; exact Keep.setHi hc.1
                  · simp at hb
                · simp at hb
              · simp at hb
            · simp at hb
          · simp at hb
        · simp at hb
      · simp at he
    case makeSlice t l c =>
      split at he
      · simp only [Option.map_eq_some_iff] at he
        obtain ⟨⟨z, h1⟩, hb, he⟩ := he
        cases he
        unfold aMakeSlice at hb
        split at hb
        · split at hb
          · split at hb
            · split at hb
              · cases hb; exact Keep.push hl
              · simp at hb
            · simp at hb
          · simp at hb
        · simp at hb
      · simp at he
    case range t x =>
      split at he
      · simp only [Option.map_eq_some_iff] at he
        obtain ⟨⟨z, h1⟩, hb, he⟩ := he
        cases he
        unfold aRange at hb
        split at hb
        · split at hb
          · cases hb; exact Keep.push hl
          · simp at hb
        · simp at hb
      · simp at he
    case next x b =>
      cases b with
      | true => simp at he
      | false =>
        simp only at he
        split at he
        · simp only [Option.map_eq_some_iff] at he
          obtain ⟨⟨z, h1⟩, hb, he⟩ := he
          cases he
          unfold aNext at hb
          split at hb
          · split at hb
            · split at hb
              · split at hb
                · rename_i hc
                  split at hb
                  · cases hb; exact .refl _
                  · cases hb; exact Keep.setHi hc.1
                  · simp at hb
                · simp at hb
              · simp at hb
            · simp at hb
          · simp at hb
        · simp at he
    case call c =>
      split at he
      · rename_i b hcal
        split at he
        · simp only [Option.map_eq_some_iff] at he
          obtain ⟨⟨z, h1⟩, hb, he⟩ := he
          cases he
          unfold moreCall at hb
          split at hb
          · split at hb
            · cases hb; exact .refl _
            · simp only [Option.map_eq_some_iff] at hb; obtain ⟨q, _, hb⟩ := hb; cases hb; exact .refl _
          · simp only [Option.map_eq_some_iff] at hb
            obtain ⟨q, hq, hb⟩ := hb
            cases hb
            unfold aMapDel at hq
            split at hq
            · split at hq
              · split at hq
                · rename_i hc
                  split at hq
                  · cases hq; exact Keep.setHi hc
                  · cases hq; exact Keep.setHi hc
                  · simp at hq
                · simp at hq
              · simp at hq
            · simp at hq
          · unfold aCopy at hb
            split at hb
            · split at hb
              · split at hb
                · split at hb
                  · split at hb
                    · rename_i hput; cases hb; exact aRowPut_keep hput
                    · simp at hb
                  · simp at hb
                · simp at hb
              · simp at hb
            · simp at hb
          · simp only [Option.map_eq_some_iff] at hb
            obtain ⟨q, hq, hb⟩ := hb
            cases hb
            unfold aClear at hq
            split at hq
            · split at hq
              · split at hq
                · split at hq
                  · cases hq; exact .refl _
                  · split at hq
                    · simp at hq
                    · exact aRowPut_keep hq
                · simp at hq
              · simp at hq
            · simp at hq
          · simp only [Option.map_eq_some_iff] at hb; obtain ⟨q, _, hb⟩ := hb; cases hb; exact .refl _
          · simp only [Option.map_eq_some_iff] at hb; obtain ⟨q, _, hb⟩ := hb; cases hb; exact .refl _
          · simp at hb
        · simp at he
      · simp at he
theorem opEval_keep {frz : Bool} {ev : Operand → Option V} {o : Oper} {r : OR} {h' : H} (hl : h.lo ≤ h.next) (he : opEval C frz ev o h = some (r, h')) : Keep h h' := by
  cases hE : isE0 o with
  | false => rw [(opEval_quiet hE he).1]; exact .refl _
  | true =>
    have hE0 := hE
    unfold opEval at he
    unfold isE0 at hE
    split at he <;> (try exact more_keep hl he) <;> simp only [*] at hE <;> try (simp at hE; done)
    · simp only [Option.map_eq_some_iff] at he
      obtain ⟨⟨x, h1⟩, hx, he⟩ := he
      cases he
      unfold aAlloc at hx
      simp only [Option.map_eq_some_iff] at hx
      obtain ⟨ti, _, hx⟩ := hx
      have := aNew_keep (v := ti.zero) hl
      rw [hx] at this; exact this
    · split at he
      · simp only [Option.map_eq_some_iff] at he
        obtain ⟨⟨x, h1⟩, hx, he⟩ := he
        cases he
        unfold aBox at hx
        split at hx
        · simp at hx
        · rename_i v _ _
          simp only [Option.some.injEq] at hx
          have := aNew_keep (v := v) hl
          rw [hx] at this; exact this
      · simp at he
    · split at he
      · simp only [Option.map_eq_some_iff] at he
        obtain ⟨⟨x, h1⟩, hx, he⟩ := he
        cases he
        exact aBuildSlice_keep hl hx
      · simp at he
    · split at he
      · simp only [Option.map_eq_some_iff] at he
        obtain ⟨h1, hx, he⟩ := he
        cases he
        exact aStore_keep hx
      · simp at he
    · split at he
      · split at he
        · split at he
          · cases he; exact .refl _
          · simp only [Option.map_eq_some_iff] at he
            obtain ⟨r', hb, he⟩ := he
            cases he; exact .refl _
        · simp at he
      · split at he
        · simp only [Option.map_eq_some_iff] at he
          obtain ⟨r', hb, he⟩ := he
          cases he; exact .refl _
        · simp at he
      · split at he
        · split at he
          · simp only [Option.map_eq_some_iff] at he
            obtain ⟨⟨z, h1⟩, hb, he⟩ := he
            cases he; exact aAppend_keep hl hb
          · simp at he
        · simp at he
      · exact more_keep hl he
def CallsKeep (call : CallK) : Prop := ∀ f args h v h', call f args h = some (v, h') → h.lo ≤ h.next → Keep h h'
theorem Keep.le {h h' : H} (k : Keep h h') (hl : h.lo ≤ h.next) : h'.lo ≤ h'.next := by rw [k.lo]; exact Nat.le_trans hl k.next
theorem stepOp_keep {call : CallK} (hcall : CallsKeep call) {frz : Bool} {ev : Operand → Option V} {o : Oper} {x : V} {h' : H} (hl : h.lo ≤ h.next) (he : stepOp C call frz ev o h = some (x, h')) : Keep h h' := by
  unfold stepOp at he
  split at he
  · rename_i hop; cases he; exact opEval_keep hl hop
  · rename_i hop; cases he; exact opEval_keep hl hop
  · rename_i f args h1 hop
    have k1 := opEval_keep hl hop
    exact k1.trans (hcall f args h1 x h' he (k1.le hl))
  · simp at he
theorem runOps_keep {call : CallK} (hcall : CallsKeep call) {frz : Nat → Bool} {ops : Array Oper} : ∀ (l : List Oper) (env : Env) (h : H) (env' : Env) (h' : H), runOps C call frz ops l env h = some (env', h') → h.lo ≤ h.next → Keep h h'
  | [], env, h, env', h', he, hl => by simp only [runOps, Option.some.injEq, Prod.mk.injEq] at he; rw [← he.2]; exact .refl _
  | o :: r, env, h, env', h', he, hl => by
    simp only [runOps] at he
    split at he
    · simp at he
    · exact runOps_keep hcall r _ h env' h' he hl
    · split at he
      · rename_i x h1 hs
        have k1 := stepOp_keep hcall hl hs
        exact k1.trans (runOps_keep hcall r _ h1 env' h' he (k1.le hl))
      · simp at he
theorem runD_keep {call : CallK} (hcall : CallsKeep call) {frz : Nat → Bool} {ops : Array Oper} (h0 : H) : ∀ (l : List Oper) (env : Env) (sn : List H) (env' : Env) (sn' : List H), runD C call frz ops l env sn = some (env', sn') →
    (∀ h, sn.head? = some h → Keep h0 h ∧ h.lo ≤ h.next) → ∀ h, sn'.head? = some h → Keep h0 h ∧ h.lo ≤ h.next
  | [], env, sn, env', sn', he, hk => by simp only [runD, Option.some.injEq, Prod.mk.injEq] at he; rw [← he.2]; exact hk
  | o :: r, env, sn, env', sn', he, hk => by
    simp only [runD] at he
    cases sn with
    | nil => simp at he
    | cons h rest =>
      obtain ⟨k0, l0⟩ := hk h rfl
      simp only at he
      split at he
      · split at he
        · split at he
          · exact runD_keep hcall h0 r _ _ env' sn' he hk
          · simp at he
        · simp at he
      split at he
      · simp at he
      · refine runD_keep hcall h0 r _ _ env' sn' he (fun h1 h2 => ?_)
        cases hq : isE o <;> rw [hq] at h2 <;> simp at h2 <;> subst h2 <;> exact ⟨k0, l0⟩
      · split at he
        · rename_i x h1 hs
          have k1 := stepOp_keep hcall l0 hs
          refine runD_keep hcall h0 r _ _ env' sn' he (fun h2 h3 => ?_)
          cases hq : isE o <;> rw [hq] at h3 <;> simp at h3 <;> subst h3
          · exact ⟨k0, l0⟩
          · exact ⟨k0.trans k1, k1.le l0⟩
        · simp at he
theorem aDrawn_keep {call : CallK} (hcall : CallsKeep call) {frz : Nat → Bool} {floats : List (Nat × Nat × Nat)} {ops : Array Oper} {env env' : Env} {h h' : H} (he : aDrawn C call frz floats ops env h = some (env', h')) (hl : h.lo ≤ h.next) : Keep h h' := by
  unfold aDrawn at he
  split at he
  · simp at he
  · rename_i env1 h1 hpre
    obtain ⟨p1, p2, p3, p4⟩ := preA_facts _ _ _ _ _ hpre
    have k1 : Keep h h1 := ⟨p2, p1, fun b hb => p3 b (Nat.lt_of_lt_of_le hb hl)⟩
    split at he
    · rename_i e sn hrun
      split at he
      · split at he
        · cases he
          exact (runD_keep hcall h _ _ _ _ _ hrun (fun h1' h2 => by simp at h2; subst h2; exact ⟨k1, k1.le hl⟩) _ rfl).1
        · simp at he
      · simp at he
    · simp at he
theorem run_keep {call : CallK} (hcall : CallsKeep call) {frz : Nat → Bool} {drawn : Nat → Array Oper → Env → H → Option (Env × H)} (hdr : ∀ id ops env h env' h', drawn id ops env h = some (env', h') → h.lo ≤ h.next → Keep h h') (n : Nat) :
    ∀ (c : Code) (env : Env) (h : H) (ex : Ex) (env' : Env) (h' : H), run C call frz drawn n c env h = some (ex, env', h') → h.lo ≤ h.next → Keep h h' := by
  intro c
  induction c with
  | skip => intro env h ex env' h' he hl; simp only [run, Option.some.injEq, Prod.mk.injEq] at he; rw [← he.2.2]; exact .refl _
  | region id ops d =>
    intro env h ex env' h' he hl
    simp only [run, Option.map_eq_some_iff] at he
    obtain ⟨⟨e1, h1⟩, hx, he⟩ := he
    cases he
    cases d with
    | true => exact hdr _ _ _ _ _ _ hx hl
    | false => exact runOps_keep hcall _ _ _ _ _ hx hl
  | seq x y ihx ihy =>
    intro env h ex env' h' he hl
    simp only [run] at he
    split at he
    · rename_i e1 h1 hx
      have k1 := ihx _ _ _ _ _ hx hl
      exact k1.trans (ihy _ _ _ _ _ he (k1.le hl))
    · exact ihx _ _ _ _ _ he hl
  | cond c x y ihx ihy =>
    intro env h ex env' h' he hl
    simp only [run] at he
    split at he
    · split at he
      · exact ihx _ _ _ _ _ he hl
      · exact ihy _ _ _ _ _ he hl
    · simp at he
  | block id b ih =>
    intro env h ex env' h' he hl
    simp only [run] at he
    split at he
    · rename_i id' e1 h1 hx
      split at he <;> cases he <;> exact ih _ _ _ _ _ hx hl
    · exact ih _ _ _ _ _ he hl
  | loop b ih =>
    intro env h ex env' h' he hl
    simp only [run] at he
    have key : ∀ (m : Nat) (env : Env) (h : H), loopN (run C call frz drawn n b) m env h = some (ex, env', h') → h.lo ≤ h.next → Keep h h' := by
      intro m
      induction m with
      | zero => intro env h he; simp [loopN] at he
      | succ m ihm =>
        intro env h he hl
        simp only [loopN] at he
        split at he
        · rename_i e1 h1 hx
          have k1 := ih _ _ _ _ _ hx hl
          exact k1.trans (ihm _ _ he (k1.le hl))
        · exact ih _ _ _ _ _ he hl
    exact key n env h he hl
  | exit id => intro env h ex env' h' he hl; simp only [run, Option.some.injEq, Prod.mk.injEq] at he; rw [← he.2.2]; exact .refl _
  | ret => intro env h ex env' h' he hl; simp only [run, Option.some.injEq, Prod.mk.injEq] at he; rw [← he.2.2]; exact .refl _
  | rangeFunc f ps x y ihx ihy => intro env h ex env' h' he; simp [run] at he
  | scope b ih => intro env h ex env' h' he; simp [run] at he
  | label l => intro env h ex env' h' he; simp [run] at he
  | goto l => intro env h ex env' h' he; simp [run] at he
  | refuse why => intro env h ex env' h' he; simp [run] at he

/-! ### values without places -/
mutual
def V.idFree : V → Bool
  | .ptr _ | .sl _ _ _ _ _ | .map _ => false
  | .sc _ | .nl _ => true
  | .list vs => V.idFreeL vs
  | .lp v => v.idFree
  | .fn _ a b => V.idFreeL a && V.idFreeL b
  | .iface _ v => v.idFree
  | .agg vs => V.idFreeL vs
  | .tup vs => V.idFreeL vs
def V.idFreeL : List V → Bool
  | [] => true
  | v :: vs => v.idFree && V.idFreeL vs
end
mutual
theorem Rel.idFree {F ρ ρ'} : ∀ {v cs}, Rel F ρ v cs → v.idFree = true → Rel F ρ' v cs
  | _, _, .sc h, _ => .sc h
  | _, _, .nl h, _ => .nl h
  | _, _, .ptr h, hi => by simp [V.idFree] at hi
  | _, _, .sl h ha hn hc, hi => by simp [V.idFree] at hi
  | _, _, .listNil, _ => .listNil
  | _, _, .list h hr hs hin hc, hi => .list h (RelL.idFree hr (by simpa [V.idFree] using hi)) hs hin hc
  | _, _, .lp h hr hn hin, hi => .lp h (Rel.idFree hr (by simpa [V.idFree] using hi)) hn hin
  | _, _, .map h, hi => by simp [V.idFree] at hi
  | _, _, .fn h1 h2, hi => by
    simp only [V.idFree, Bool.and_eq_true] at hi
    exact .fn (RelTs.idFree h1 hi.1) (RelTs.idFree h2 hi.2)
  | _, _, .iface h, hi => .iface (Rel.idFree h (by simpa [V.idFree] using hi))
  | _, _, .agg h, hi => .agg (RelL.idFree h (by simpa [V.idFree] using hi))
  | _, _, .tup h, hi => .tup (RelTs.idFree h (by simpa [V.idFree] using hi))
theorem RelL.idFree {F ρ ρ'} : ∀ {vs cs}, RelL F ρ vs cs → V.idFreeL vs = true → RelL F ρ' vs cs
  | _, _, .nil, _ => .nil
  | _, _, .cons hn h hs, hi => by
    simp only [V.idFreeL, Bool.and_eq_true] at hi
    exact .cons hn (Rel.idFree h hi.1) (RelL.idFree hs hi.2)
theorem RelTs.idFree {F ρ ρ'} : ∀ {vs xs}, RelTs F ρ vs xs → V.idFreeL vs = true → RelTs F ρ' vs xs
  | _, _, .nil, _ => .nil
  | _, _, .cons h hs, hi => by
    simp only [V.idFreeL, Bool.and_eq_true] at hi
    exact .cons (Rel.idFree h hi.1) (RelTs.idFree hs hi.2)
end
mutual
theorem Rel.restrict {F ρ F' ρ'} (e : Ext F ρ F' ρ') : ∀ {v cs cs'}, Rel F ρ v cs → Rel F' ρ' v cs' → Rel F' ρ v cs'
  | _, _, _, .sc h, .sc h' => .sc h'
  | _, _, _, .nl h, .nl h' => .nl h'
  | _, _, _, .ptr h, .ptr h' => by have := e.r _ _ h; rw [this] at h'; cases h'; exact .ptr h
  | _, _, _, .sl h ha hn hc, .sl h' ha' hn' hc' => by have := e.r _ _ h; rw [this] at h'; cases h'; exact .sl h ha' hn' hc'
  | _, _, _, .listNil, .listNil => .listNil
  | _, _, _, .listNil, .list h hr hs hin hc => .list h (by cases hr; exact .nil) hs hin hc
  | _, _, _, .list h hr hs hin hc, .listNil => .listNil
  | _, _, _, .list h hr hs hin hc, .list h' hr' hs' hin' hc' => .list h' (RelL.restrict e hr hr') hs' hin' hc'
  | _, _, _, .lp h hr hn hin, .lp h' hr' hn' hin' => .lp h' (Rel.restrict e hr hr') hn' hin'
  | _, _, _, .map h, .map h' => by have := e.r _ _ h; rw [this] at h'; cases h'; exact .map h
  | _, _, _, .fn h1 h2, .fn h1' h2' => .fn (RelTs.restrict e h1 h1') (RelTs.restrict e h2 h2')
  | _, _, _, .iface h, .iface h' => .iface (Rel.restrict e h h')
  | _, _, _, .agg h, .agg h' => .agg (RelL.restrict e h h')
  | _, _, _, .tup h, .tup h' => .tup (RelTs.restrict e h h')
theorem RelL.restrict {F ρ F' ρ'} (e : Ext F ρ F' ρ') : ∀ {vs cs cs'}, RelL F ρ vs cs → RelL F' ρ' vs cs' → RelL F' ρ vs cs'
  | _, _, _, .nil, .nil => .nil
  | _, _, _, .cons hn h hs, .cons hn' h' hs' => .cons hn' (Rel.restrict e h h') (RelL.restrict e hs hs')
theorem RelTs.restrict {F ρ F' ρ'} (e : Ext F ρ F' ρ') : ∀ {vs xs xs'}, RelTs F ρ vs xs → RelTs F' ρ' vs xs' → RelTs F' ρ vs xs'
  | _, _, _, .nil, .nil => .nil
  | _, _, _, .cons h hs, .cons h' hs' => .cons (Rel.restrict e h h') (RelTs.restrict e hs hs')
end
theorem RelV.restrict {F ρ F' ρ'} (e : Ext F ρ F' ρ') {v x x'} (h : RelV F ρ v x) (h' : RelV F' ρ' v x') : RelV F' ρ v x' := by
  obtain ⟨cs, h1, _⟩ := h
  obtain ⟨cs', h2, hx⟩ := h'
  exact ⟨cs', h1.restrict e h2, hx⟩
theorem EntsOk.restrict {F ρ F' ρ'} (e : Ext F ρ F' ρ') : ∀ {es ents ents'}, EntsOk F ρ es ents → EntsOk F' ρ' es ents' → EntsOk F' ρ es ents'
  | _, _, _, .nil, .nil => .nil
  | _, _, _, .cons hk hv hb hs, .cons hk' hv' hb' hs' => .cons (hk.restrict e hk') (hv.restrict e hv') hb' (EntsOk.restrict e hs hs')
/-- What was there before a call that wrote nothing of it is there behind it; what the call made is forgotten. -/
theorem Sim.drop {F' ρ' h' w'} (s : Sim F ρ h w) (s' : Sim F' ρ' h' w') (e : Ext F ρ F' ρ') (hk : ∀ b, b < h.next → h'.get b = h.get b) : Sim F' ρ h w' := by
  refine ⟨s'.frz, s.dom, fun b x l hx hl => ?_, s.inj, fun b x l hx hl hw => ?_, s.nx, s'.io⟩
  · have hb := s.dom b l hl
    obtain ⟨o, ho, hok⟩ := s'.blk b x l (by rw [hk b hb]; exact hx) (e.r _ _ hl)
    obtain ⟨o0, ho0, hok0⟩ := s.blk b x l hx hl
    refine ⟨o, ho, ?_⟩
    cases hok with
    | cells a1 a2 a3 a4 a5 =>
      cases hok0 with
      | cells b1 b2 b3 b4 b5 => exact .cells a1 a2 (b3.restrict e a3) a4 a5
    | map a1 =>
      cases hok0 with
      | map b1 => exact .map (b1.restrict e a1)
    | it a1 a2 =>
      cases hok0 with
      | it b1 b2 =>
        have := e.r _ _ b1
        rw [a1] at this; cases this
        exact .it b1 a2
  · have hb := s.dom b l hl
    exact s'.live b x l (by rw [hk b hb]; exact hx) (e.r _ _ hl) hw
end
end Go.A
