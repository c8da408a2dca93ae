/- Freezing: rows become values; forgetting. -/
import Derived.Test.YtgekgcffmmbhbaaGreatA18
set_option linter.unusedVariables false
set_option linter.unusedSimpArgs false
noncomputable section
namespace Go.A
open Go
set_option linter.unusedSectionVars false
variable [Outer]
def frzL (f : V → H → Option (V × H)) : List V → H → Option (List V × H)
  | [], h => some ([], h)
  | v :: vs, h => match f v h with
    | some (v', h') => match frzL f vs h' with
      | some (vs', h'') => some (v' :: vs', h'')
      | none => none
    | none => none
def frzV : Nat → V → H → Option (V × H)
  | 0, _, _ => none
  | d + 1, v, h => match v with
    | .sl p esz i n _ => if n = 0 then some (.list [], h) else match h.get p.b with
      | some (.cells x fz) => match lookC h p with
        | some (.agg vs) => if V.sizeL (vs.take i) = i * esz ∧ i + n ≤ vs.length ∧ ((vs.drop i).take n).all (fun v => v.size == esz) ∧ (fz = true ∨ h.lo ≤ p.b) then
            (match frzL (frzV d) ((vs.drop i).take n) (h.set p.b (.cells x true)) with
              | some (xs, h') => some (.list xs, h')
              | none => none) else none
        | _ => none
      | _ => none
    | .agg vs => (frzL (frzV d) vs h).map fun x => (.agg x.1, x.2)
    | .tup vs => (frzL (frzV d) vs h).map fun x => (.tup x.1, x.2)
    | .iface t v => (frzV d v h).map fun x => (.iface t x.1, x.2)
    | v => some (v, h)
structure Keep (h h' : H) : Prop where
  lo : h'.lo = h.lo
  next : h.next ≤ h'.next
  get : ∀ b, b < h.lo → h'.get b = h.get b
theorem Keep.refl (h : H) : Keep h h := ⟨rfl, Nat.le_refl _, fun _ _ => rfl⟩
theorem Keep.trans {h h' h'' : H} (x : Keep h h') (y : Keep h' h'') : Keep h h'' :=
  ⟨by rw [y.lo, x.lo], Nat.le_trans x.next y.next, fun b hb => by rw [y.get b (by rw [x.lo]; exact hb), x.get b hb]⟩
section
variable {P : Program} {C : Ctx} {F : Frz} {ρ : Ren} {h : H} {w : World}
theorem Sim.thaw {b : Nat} {x : V} {fz : Bool} {l : Loc} (s : Sim F ρ h w) (hx : h.get b = some (.cells x fz)) (hl : ρ b = some l) :
    ∃ F' o, Ext F ρ F' ρ ∧ Sim F' ρ (h.set b (.cells x true)) w ∧ F' l.bb = some o ∧ w.heap[l.bb]? = some o := by
  obtain ⟨o, ho, hk⟩ := s.blk b _ l hx hl
  have hlt : ∀ n o', F n = some o' → n ≠ l.bb ∨ o' = o := fun n o' hn => by
    by_cases e : n = l.bb
    · right; have := s.frz n o' hn; rw [e, ho] at this; exact (Option.some.inj this).symm
    · exact .inl e
  have he : Ext F ρ (fun n => if n = l.bb then some o else F n) ρ := ⟨fun n o' hn => by
    by_cases e : n = l.bb
    · rcases hlt n o' hn with h1 | h1
      · exact absurd e h1
      · simp only [e, if_true, h1]
    · simp only [e, if_false]; exact hn, fun _ _ hh => hh, Nat.le_refl _, fun _ _ => rfl⟩
  have hg : ∀ c y, (h.set b (.cells x true)).get c = some y → (c = b ∧ y = .cells x true) ∨ (c ≠ b ∧ h.get c = some y) := by
    intro c y hy
    rw [H.get_set] at hy
    by_cases e : c = b
    · simp only [e, if_true, Option.some.injEq] at hy; exact .inl ⟨e, hy.symm⟩
    · simp only [e, if_false] at hy; exact .inr ⟨e, hy⟩
  refine ⟨_, o, he, ⟨fun n o' hn => ?_, s.dom, fun c y q hy hq => ?_, fun c c' l1 l2 y y' hl1 hl2 hy hy' hbb => ?_, fun c y q hy hq hwr => ?_, s.nx, s.io⟩, by simp, ho⟩
  · by_cases e : n = l.bb
    · simp only [e, if_true, Option.some.injEq] at hn; rw [e, ← hn]; exact ho
    · simp only [e, if_false] at hn; exact s.frz n o' hn
  · rcases hg c y hy with ⟨rfl, rfl⟩ | ⟨hne, hy'⟩
    · rw [hl] at hq; cases hq
      refine ⟨o, ho, ?_⟩
      have := hk.mono he
      cases this with
      | cells a1 a2 a3 a4 a5 => exact .cells a1 a2 a3 a4 a5
    · obtain ⟨o', ho', hk'⟩ := s.blk c y q hy' hq
      exact ⟨o', ho', hk'.mono he⟩
  · have g1 : ∃ z, h.get c = some z := by
      rcases hg c y hy with ⟨rfl, _⟩ | ⟨_, h'⟩
      · exact ⟨_, hx⟩
      · exact ⟨_, h'⟩
    have g2 : ∃ z, h.get c' = some z := by
      rcases hg c' y' hy' with ⟨rfl, _⟩ | ⟨_, h'⟩
      · exact ⟨_, hx⟩
      · exact ⟨_, h'⟩
    obtain ⟨z, hz⟩ := g1
    obtain ⟨z', hz'⟩ := g2
    exact s.inj c c' l1 l2 z z' hl1 hl2 hz hz' hbb
  · rcases hg c y hy with ⟨rfl, rfl⟩ | ⟨hne, hy'⟩
    · simp [Blk.writable] at hwr
    · have : q.bb ≠ l.bb := fun e => hne (s.inj c b q l y _ hq hl hy' hx e)
      simp only [this, if_false]
      exact s.live c y q hy' hq hwr
/-- What freezing a value does. -/
structure Froze (F : Frz) (ρ : Ren) (w : World) (h' : H) (cs : List Value) (v v' : V) : Prop where
  ok : ∃ F', Ext F ρ F' ρ ∧ Sim F' ρ h' w ∧ Rel F' ρ v' cs
  size : v'.size = v.size
  tup : v'.isTup = v.isTup
  agg : v'.isAgg = v.isAgg
theorem frzL_sound {f : V → H → Option (V × H)} (hf : ∀ v h v' h' F cs, f v h = some (v', h') → Sim F ρ h w → Rel F ρ v cs → Froze F ρ w h' cs v v') :
    ∀ (vs : List V) (h : H) (vs' : List V) (h' : H) (F : Frz) (cs : List Value), frzL f vs h = some (vs', h') → Sim F ρ h w → RelL F ρ vs cs →
      ∃ F', Ext F ρ F' ρ ∧ Sim F' ρ h' w ∧ RelL F' ρ vs' cs ∧ vs'.length = vs.length ∧ V.sizeL vs' = V.sizeL vs ∧ (∀ esz, (∀ v ∈ vs, v.size = esz) → ∀ v ∈ vs', v.size = esz)
  | [], h, vs', h', F, cs, he, s, hr => by
    simp only [frzL, Option.some.injEq, Prod.mk.injEq] at he
    obtain ⟨rfl, rfl⟩ := he
    exact ⟨F, .refl _ _, s, hr, rfl, rfl, by simp⟩
  | v :: vs, h, vs', h', F, cs, he, s, hr => by
    simp only [frzL] at he
    split at he
    · rename_i v1 h1 h2
      split at he
      · rename_i vs1 h3 h4
        cases he
        cases hr with
        | cons hn hv hr =>
          obtain ⟨⟨F1, e1, s1, r1⟩, z1, t1, _⟩ := hf _ _ _ _ _ _ h2 s hv
          obtain ⟨F2, e2, s2, r2, l2, z2, a2⟩ := frzL_sound hf vs h1 vs1 h' F1 _ h4 s1 (hr.mono e1)
          refine ⟨F2, e1.trans e2, s2, .cons (by rw [t1]; exact hn) (r1.mono e2) r2, by simp [l2], by simp [V.sizeL, z1, z2], fun esz hall u hu => ?_⟩
          rcases List.mem_cons.1 hu with rfl | hu
          · rw [z1]; exact hall v (by simp)
          · exact a2 esz (fun x hx => hall x (by simp [hx])) u hu
      · simp at he
    · simp at he
theorem frzTs_sound {f : V → H → Option (V × H)} (hf : ∀ v h v' h' F cs, f v h = some (v', h') → Sim F ρ h w → Rel F ρ v cs → Froze F ρ w h' cs v v') :
    ∀ (vs : List V) (h : H) (vs' : List V) (h' : H) (F : Frz) (xs : List Value), frzL f vs h = some (vs', h') → Sim F ρ h w → RelTs F ρ vs xs →
      ∃ F', Ext F ρ F' ρ ∧ Sim F' ρ h' w ∧ RelTs F' ρ vs' xs
  | [], h, vs', h', F, xs, he, s, hr => by
    simp only [frzL, Option.some.injEq, Prod.mk.injEq] at he
    obtain ⟨rfl, rfl⟩ := he
    exact ⟨F, .refl _ _, s, hr⟩
  | v :: vs, h, vs', h', F, xs, he, s, hr => by
    simp only [frzL] at he
    split at he
    · rename_i v1 h1 h2
      split at he
      · rename_i vs1 h3 h4
        cases he
        cases hr with
        | cons hv hr =>
          rename_i c xs
          obtain ⟨⟨F1, e1, s1, r1⟩, z1, t1, g1⟩ := hf _ _ _ _ _ _ h2 s hv
          obtain ⟨F2, e2, s2, r2⟩ := frzTs_sound hf vs h1 vs1 h' F1 _ h4 s1 (hr.mono e1)
          have hp : v.pack c = v1.pack c := by
            cases hq : v.isAgg with
            | true =>
              have hq1 : v1.isAgg = true := by rw [g1, hq]
              cases v <;> simp [V.isAgg] at hq
              cases v1 <;> simp [V.isAgg] at hq1
              rfl
            | false =>
              have hq1 : v1.isAgg = false := by rw [g1, hq]
              have e1 := hv.single hq
              have e2 := r1.single hq1
              have e3 := e1.symm.trans e2
              simpa using e3
          rw [hp]
          exact ⟨F2, e1.trans e2, s2, .cons (r1.mono e2) r2⟩
      · simp at he
    · simp at he
theorem frzV_sound : ∀ (d : Nat) (v : V) (h : H) (v' : V) (h' : H) (F : Frz) (cs : List Value), frzV d v h = some (v', h') → Sim F ρ h w → Rel F ρ v cs → Froze F ρ w h' cs v v'
  | 0, v, h, v', h', F, cs, he, s, hr => by simp [frzV] at he
  | d + 1, v, h, v', h', F, cs, he, s, hr => by
    have same : ∀ {x}, some (v, h) = some (v', h') → x = v → Froze F ρ w h' cs x v' := fun he e => by
      simp only [Option.some.injEq, Prod.mk.injEq] at he
      obtain ⟨rfl, rfl⟩ := he
      subst e
      exact ⟨⟨F, .refl _ _, s, hr⟩, rfl, rfl, rfl⟩
    cases v <;> simp only [frzV] at he
    case sc => exact same he rfl
    case nl => exact same he rfl
    case ptr => exact same he rfl
    case sl p esz i n cap =>
      cases hr with
      | sl hl ha hn hcap =>
        rename_i c l a
        split at he
        · rename_i h0
          cases he
          rw [h0]
          exact ⟨⟨F, .refl _ _, s, .listNil⟩, rfl, rfl, rfl⟩
        · rename_i h0
          split at he
          · rename_i x fz hget
            split at he
            · rename_i vs hlook
              split at he
              · rename_i hc
                obtain ⟨c1, c2, c3, c4⟩ := hc
                split at he
                · rename_i xs h1 hfr
                  cases he
                  rcases ha with ⟨rfl, hroom⟩ | ⟨hz, _⟩
                  · obtain ⟨ds, hlies⟩ := s.lies hl hlook
                    obtain ⟨F1, o, e1, s1, f1, ho⟩ := s.thaw hget hl
                    obtain ⟨obj, hobj, hok⟩ := s.blk _ _ _ hget hl
                    rw [ho] at hobj; cases hobj
                    cases hlies.rel with
                    | agg hrel =>
                      obtain ⟨_, q2⟩ := relL_split hrel i
                      obtain ⟨q3, _⟩ := relL_split q2 n
                      rw [c1] at q3
                      obtain ⟨F2, e2, s2, r2, l2, _, a2⟩ := frzL_sound (fun v h v' h' F cs => frzV_sound d v h v' h' F cs) _ _ _ _ F1 _ hfr s1 (q3.mono e1)
                      have hlen : ((vs.drop i).take n).length = n := by simp; omega
                      have hsz : ∀ v ∈ (vs.drop i).take n, v.size = esz := fun v hv => by have := List.all_eq_true.1 c3 v hv; simpa using this
                      cases hok with
                      | cells hs hf hr' hn' hin =>
                        rename_i cc E fz' cs'
                        have hF2 : F2 l.bb = some (.cells cc E fz') := e2.f _ _ f1
                        have hrl := Rel.list (F := F2) (ρ := ρ) (off := l.sh + p.off + i * esz) (c := c) hF2 r2 (a2 esz hsz) (fun j u hu => by
                          have hj := (List.getElem?_eq_some_iff.1 hu).1
                          have hj2 : j < V.sizeL ((vs.drop i).take n) := by rw [← q3.length]; exact hj
                          rw [List.getElem?_take_of_lt hj2, List.getElem?_drop] at hu
                          have := hlies.rng _ _ hu
                          unfold World.cell? at this
                          rw [ho] at this
                          simp only [Option.isSome_none, Bool.false_eq_true, if_false] at this
                          rw [← this]; congr 1; omega) (by rw [l2, hlen]; exact hn)
                        rw [l2, hlen] at hrl
                        exact ⟨⟨F2, e1.trans e2, s2, hrl⟩, rfl, rfl, rfl⟩
                  · exact absurd hz h0
                · simp at he
              · simp at he
            · simp at he
          · simp at he
    case list => exact same he rfl
    case lp => exact same he rfl
    case map => exact same he rfl
    case fn => exact same he rfl
    case iface t v =>
      simp only [Option.map_eq_some_iff] at he
      obtain ⟨⟨v1, h1⟩, hx, he⟩ := he
      cases he
      cases hr with
      | iface hr =>
        rename_i cs
        obtain ⟨⟨F1, e1, s1, r1⟩, z1, t1, g1⟩ := frzV_sound d v h v1 _ F cs hx s hr
        have hp : v.pack cs = v1.pack cs := by
          cases hq : v.isAgg with
          | true =>
            have hq1 : v1.isAgg = true := by rw [g1, hq]
            cases v <;> simp [V.isAgg] at hq
            cases v1 <;> simp [V.isAgg] at hq1
            rfl
          | false =>
            have hq1 : v1.isAgg = false := by rw [g1, hq]
            have e1 := hr.single hq
            have e2 := r1.single hq1
            have e3 := e1.symm.trans e2
            simpa using e3
        rw [hp]
        exact ⟨⟨F1, e1, s1, .iface r1⟩, rfl, rfl, rfl⟩
    case agg vs =>
      simp only [Option.map_eq_some_iff] at he
      obtain ⟨⟨v1, h1⟩, hx, he⟩ := he
      cases he
      cases hr with
      | agg hr =>
        obtain ⟨F1, e1, s1, r1, _, z1, _⟩ := frzL_sound (fun v h v' h' F cs => frzV_sound d v h v' h' F cs) _ _ _ _ F _ hx s hr
        exact ⟨⟨F1, e1, s1, .agg r1⟩, by simpa [V.size] using z1, rfl, rfl⟩
    case tup vs =>
      simp only [Option.map_eq_some_iff] at he
      obtain ⟨⟨v1, h1⟩, hx, he⟩ := he
      cases he
      cases hr with
      | tup hr =>
        obtain ⟨F1, e1, s1, r1⟩ := frzTs_sound (fun v h v' h' F cs => frzV_sound d v h v' h' F cs) _ _ _ _ F _ hx s hr
        exact ⟨⟨F1, e1, s1, .tup r1⟩, rfl, rfl, rfl⟩
theorem frzL_keep {f : V → H → Option (V × H)} (hf : ∀ v h v' h', f v h = some (v', h') → Keep h h') : ∀ (vs : List V) (h : H) (vs' : List V) (h' : H), frzL f vs h = some (vs', h') → Keep h h'
  | [], h, vs', h', he => by simp only [frzL, Option.some.injEq, Prod.mk.injEq] at he; rw [← he.2]; exact .refl _
  | v :: vs, h, vs', h', he => by
    simp only [frzL] at he
    split at he
    · rename_i v1 h1 h2
      split at he
      · rename_i vs1 h3 h4
        cases he
        exact (hf _ _ _ _ h2).trans (frzL_keep hf vs h1 vs1 _ h4)
      · simp at he
    · simp at he
theorem Keep.setHi {b : Nat} {x : Blk} (hb : h.lo ≤ b) : Keep h (h.set b x) :=
  ⟨rfl, Nat.le_refl _, fun c hc => by rw [H.get_set, if_neg (by omega)]⟩
theorem frzV_keep : ∀ (d : Nat) (v : V) (h : H) (v' : V) (h' : H), frzV d v h = some (v', h') → Keep h h'
  | 0, v, h, v', h', he => by simp [frzV] at he
  | d + 1, v, h, v', h', he => by
    cases v <;> simp only [frzV] at he
    case sl p esz i n cap =>
      split at he
      · cases he; exact .refl _
      · split at he
        · rename_i x fz hget
          split at he
          · split at he
            · rename_i hc
              split at he
              · rename_i xs h1 hfr
                cases he
                refine Keep.trans ?_ (frzL_keep (fun v h v' h' => frzV_keep d v h v' h') _ _ _ _ hfr)
                rcases hc.2.2.2 with hfz | hlo
                · subst hfz
                  exact ⟨rfl, Nat.le_refl _, fun c hc' => by
                    rw [H.get_set]
                    by_cases e : c = p.b
                    · rw [if_pos e, e, hget]
                    · rw [if_neg e]⟩
                · exact Keep.setHi hlo
              · simp at he
            · simp at he
          · simp at he
        · simp at he
    case iface t v =>
      simp only [Option.map_eq_some_iff] at he
      obtain ⟨⟨v1, h1⟩, hx, he⟩ := he
      cases he; exact frzV_keep d v h v1 _ hx
    case agg vs =>
      simp only [Option.map_eq_some_iff] at he
      obtain ⟨⟨v1, h1⟩, hx, he⟩ := he
      cases he; exact frzL_keep (fun v h v' h' => frzV_keep d v h v' h') _ _ _ _ hx
    case tup vs =>
      simp only [Option.map_eq_some_iff] at he
      obtain ⟨⟨v1, h1⟩, hx, he⟩ := he
      cases he; exact frzL_keep (fun v h v' h' => frzV_keep d v h v' h') _ _ _ _ hx
    all_goals (cases he; exact .refl _)
end
end Go.A
