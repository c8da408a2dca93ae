/- The keys of a map, collected in whatever order and sorted: soundness. -/
import Derived.Test.YtgekgcffmmbhbaaGreatA34
set_option linter.unusedVariables false
set_option linter.unusedSimpArgs false
noncomputable section
namespace Go.A
open Go
set_option linter.unusedSectionVars false
variable [Outer]
section
variable {P : Program} {C : Ctx} {F : Frz} {ρ : Ren} {h : H} {w : World}
theorem alloc_old (w : World) (o : Obj) : ∀ n, n < w.heap.size → (w.alloc o).heap[n]? = w.heap[n]? := fun n hn => by show (w.heap.push _)[n]? = _; rw [Array.getElem?_push_lt hn, Array.getElem?_eq_getElem hn]
theorem aSeq_ok (hC : CtxOk P C) (hK : CodesOk C) {call : CallK} (hcall : CallsOk P call) (n : Nat) : NCallsOk P (aSeq C call n) := by
  intro f args h outs he F ρ w xs sm hr
  unfold aSeq at he
  split at he
  · simp at he
  · rename_i fn hfn
    split at he
    · rename_i a r1 bid g ps assign body rest hcode
      split at he
      · rename_i hc
        obtain ⟨hlen, f1, f2⟩ := hc
        have hF := hC.fn _ _ hfn
        obtain ⟨k1, k2⟩ := hK.ok f fn _ hfn hcode
        simp only [regionsAll, codeFits, Bool.and_eq_true] at k1 k2
        have hl := relTs_get hr
        have hsz : (xs.toArray ++ Array.replicate (fn.ntmps - xs.length) undef).size = fn.ntmps := by simp; omega
        split at he
        · rename_i env0 h0 hrun0
          split at he
          · rename_i env1 h1 p hrun1 hps
            split at he
            · rename_i hp
              split at he
              · rename_i gid caps hg
                simp only [Option.bind_eq_some_iff] at he
                obtain ⟨hs, hk, hm⟩ := he
                have hps' : ps = #[p] := by apply Array.ext'; simpa using hps
                subst hps'
                refine callsIn_wide.1 (callsIn_of_wp_marks (n := 5) hF.at_ hcode trivial ?_ rfl)
                refine wpIn_seq (wpIn_wide.2 (wp_mono (run_wp (D := []) hcall hC (drawn_ok hC hcall [] f fn.ntmps) n a _ _ _ _ _ hrun0 k2.1 k1.1 F ρ { tmps := xs.toArray ++ Array.replicate (fn.ntmps - xs.toArray.size) undef, defers := [] } w sm (by simpa using initEnv_rel hr fn.ntmps) (by simpa using hsz) rfl) ?_))
                rintro e a0 w0 ⟨F0, ρ0, rfl, e0, s0, r0, z0, d0⟩
                refine wpIn_seq (wpIn_seq (wpIn_wide.2 (wp_mono (run_wp (D := []) hcall hC (drawn_ok hC hcall [] f fn.ntmps) n r1 _ _ _ _ _ hrun1 k2.2.1.1 k1.2.1.1 F0 ρ0 a0 w0 s0 r0 z0 d0) ?_)))
                rintro e a1 w1 ⟨F1, ρ1, rfl, e1, s1, r1, z1, d1⟩
                refine wpIn_block (wpIn_rangeFunc ?_)
                intro fn' _
                -- the function that is ranged over
                obtain ⟨cs, hgr, hgv⟩ := r1.eval g _ hg
                cases hgr with
                | fn hfirst hcaps =>
                  cases hfirst
                  rename_i ys
                  have hgv' : a1.eval g = .func (.func gid) #[] ys.toArray := hgv
                  -- the record
                  obtain ⟨x1, s2⟩ := s1.freezeNew (w' := w1.alloc (.deferred (some []))) (o := .deferred (some [])) (alloc_old w1 _) (World.alloc_heap_new w1 _)
                  generalize hlp : ({ state := .ready, pending := none, fn := fn', tmps := a1.tmps, params := #[p], assign := assign, body := body, defers := w1.heap.size } : Loop) = lp
                  obtain ⟨x2, s3⟩ := s2.freezeNew (w' := (w1.alloc (.deferred (some []))).alloc (.loop lp)) (o := .loop lp) (alloc_old _ _) (World.alloc_heap_new _ _)
                  have hsz1 : (w1.alloc (.deferred (some []))).heap.size = w1.heap.size + 1 := by simp
                  rw [hsz1] at x2 s3
                  generalize hF3 : (fun n => if n = w1.heap.size + 1 then some (Obj.loop lp) else if n = w1.heap.size then some (Obj.deferred (some [])) else F1 n : Frz) = F3 at x2 s3
                  have hFl : F3 (w1.heap.size + 1) = some (.loop lp) := by rw [← hF3]; exact if_pos rfl
                  have hFD : F3 w1.heap.size = some (.deferred (some [])) := by rw [← hF3]; exact (if_neg (by omega)).trans (if_pos rfl)
                  generalize hl0 : w1.heap.size + 1 = l at x2 s3 hFl hF3
                  have x3 : Ext F1 ρ1 F3 ρ1 := x1.trans x2
                  have hinv : ∀ W : World, (invoke (.fn (.func gid) ys.toArray) #[yv l]).run P W = .ok (.enter gid (#[yv l] ++ ys.toArray)) W := by
                    intro W
                    have hgs : ∃ fk, C.fn.get gid = some fk := by
                      unfold aKeysOf at hk
                      split at hk
                      · simp at hk
                      · rename_i fk hfk; exact ⟨fk, hfk⟩
                    obtain ⟨fk, hfk⟩ := hgs
                    have hq := hC.fn _ _ hfk
                    have hb : ¬ fk.body = none := fun hb0 => by have := hq.body; rw [hb0] at this; cases this
                    have hn : ¬ fk.name = "runtime.NumGoroutine" := fun hn0 => by have := hq.name; rw [hn0] at this; cases this
                    simp [invoke, callFunc, run_program, hq.at_, hn, hb]
                  have hround : RoundOk P (4 - 1) l p lp F3 ρ1 (aRound C call (frzOf C f) p assign body env1) := by
                    intro k h2 h2' F' ρ' w' x hrd hext hsim hkx
                    have := aRound_ok (m := 4 - 1) (sz := fn.ntmps) (r := lp) (l := l) (env := env1) hcall hC (by rw [← hlp]) (by rw [← hlp]) (by rw [← hlp]; exact z1) hp (by rw [← hlp]; exact f1) (by rw [← hlp]; exact f2) (by rw [← hlp]; exact hrd) hsim (hext.f _ _ hFl) (by rw [← hlp]; exact (r1.mono x3).mono hext) hkx
                    exact this
                  have hcallK := aKeysOf_calls (m := 4) hcall hC hK hk (lp := lp) (l := l) (by rw [← hlp]) hround hFl s3 (hcaps.mono x3)
                  have henter := run_enterLoop_outer (P := P) (w := w1) fn' a1.tmps #[p] assign body
                  rw [hlp, hl0] at henter
                  refine ⟨l, [{ target := .collected w1.heap.size, args := #[] }], _, { target := .fn (.func gid) ys.toArray, args := #[yv l] }, (w1.alloc (.deferred (some []))).alloc (.loop lp), gid, #[yv l] ++ ys.toArray, (w1.alloc (.deferred (some []))).alloc (.loop lp), henter, ?_, fun _ _ => trivial, hinv _, (fun hq => by cases hq), ?_⟩
                  · have hcv : a1.eval (.const (yv l)) = yv l := rfl
                    simp [resolve, hgv', hcv, Deferred.ofValue]
                  refine CallsIn.mono hcallK ?_
                  rintro e w2 ⟨h', hin, F2, ρ2, ⟨v, rfl⟩, e2, s4⟩
                  have hl2 := e2.f _ _ hFl
                  have hpend : lp.pending = none := by rw [← hlp]
                  have hend := run_endLoop (P := P) (s4.frz _ _ hl2) (by rw [← hlp]; simp)
                  refine ⟨lp.pending, _, hend, ?_⟩
                  have hgo : ∀ (j : Option Code) (W4 : World) (a' : Act) (Q : Exit → Act → World → Prop), j = none → Q .normal a' W4 → (match j with
                      | none => Q .normal a' W4
                      | some c => c.wpIn Fence.wide 5 P Q a' W4) := fun j W4 a' Q hj hq => by subst hj; exact hq
                  refine hgo _ _ _ _ hpend ?_
                  have s5 := s4.chg (o := .loop { lp with state := .exhausted }) hl2 rfl
                  have wx := chg_wext (ρ := ρ2) (o := .loop { lp with state := .exhausted }) hl2 rfl
                  obtain ⟨out, hout, hend2⟩ := mapO_mem hm h' hin
                  refine wpIn_wide.2 (wp_mono (endOf_wp (D := [{ target := .collected w1.heap.size, args := #[] }]) hC hcall hend2 k2.2.2 k1.2.2 s5 (((r1.mono x3).mono e2).wmono wx) z1 (by show _ ++ a1.defers = _; rw [d1]; rfl)) ?_)
                  rintro e a3 w3 ⟨hex, hdf, vs, env', F4, ρ4, hres, hv, e3, s6, r4⟩
                  have hne : w1.heap.size ≠ l := by omega
                  have hD4 : F4 w1.heap.size = some (.deferred (some [])) := e3.f _ _ (by rw [chgF_ne _ _ hne]; exact e2.f _ _ hFD)
                  have s7 := s6.chg (o := .deferred none) hD4 rfl
                  have wx2 := chg_wext (ρ := ρ4) (o := .deferred none) hD4 rfl
                  obtain ⟨z, q1, q2⟩ := results_sound hC s7 (r4.wmono wx2) hres
                  have xall : Ext F1 ρ1 (chgF F4 w1.heap.size (.deferred none)) ρ4 :=
                    ⟨fun q o hq => by
                      have hlt := (Array.getElem?_eq_some_iff.1 (s1.frz q o hq)).1
                      rw [chgF_ne _ _ (by omega)]
                      refine e3.f _ _ ?_
                      rw [chgF_ne _ _ (by omega)]
                      exact e2.f _ _ (x3.f _ _ hq),
                    fun b l' hb => e3.r _ _ (e2.r _ _ hb), Nat.le_trans e2.n e3.n, fun b hb => by rw [e3.s b (Nat.lt_of_lt_of_le hb e2.n), e2.s b hb]⟩
                  have fin : LeavesInM Fence.wide 5 P fn a3.tmps (fun e w' => ∃ o ∈ outs, ∃ x F' ρ', e = .returned x ∧ Ext F ρ F' ρ' ∧ Sim F' ρ' o.2 w' ∧ RelV F' ρ' o.1 x) a3.defers .returning w3 := by
                    rw [hdf]
                    refine ⟨by simp, .inl ⟨w1.heap.size, _, rfl, run_takeDeferred (s6.frz _ _ hD4), ?_⟩⟩
                    exact ⟨z, q1, out, hout, z, _, ρ4, rfl, (e0.trans e1).trans xall, s7, by rw [hv]; exact q2⟩
                  rcases hex with rfl | rfl
                  · exact fin
                  · exact fin
              · simp at he
            · simp at he
          · simp at he
        · simp at he
      · simp at he
    · simp at he
theorem frzOut_inv {o : V × H} {v : V} (h : frzOut o = some v) : ∃ h', frzV 9 o.1 o.2 = some (v, h') := by
  unfold frzOut at h
  simp only [Option.map_eq_some_iff] at h
  obtain ⟨⟨a, b⟩, h1, h2⟩ := h
  simp only at h2
  subst h2
  exact ⟨b, h1⟩
theorem aSorted_inv {call : CallK} {n f : Nat} {args : List V} {v : V} {h h' : H} (he : aSorted C call n f args h = some (v, h')) :
    h' = h ∧ v.idFree = true ∧ ∃ outs, aSecond C call (aSecond C call (aSeq C call n) n) n f args { h with lo := h.next } = some outs ∧ ∀ o ∈ outs, frzOut o = some v := by
  unfold aSorted at he
  simp only [Option.bind_eq_some_iff] at he
  obtain ⟨outs, hout, he⟩ := he
  split at he
  · simp at he
  · rename_i o r
    simp only [Option.bind_eq_some_iff] at he
    obtain ⟨v0, hv0, he⟩ := he
    split at he
    · rename_i hc
      simp only [Option.some.injEq, Prod.mk.injEq] at he
      obtain ⟨rfl, rfl⟩ := he
      simp only [Bool.and_eq_true, List.all_eq_true] at hc
      refine ⟨rfl, hc.1, _, hout, fun o' ho' => ?_⟩
      rcases List.mem_cons.1 ho' with rfl | ho'
      · exact hv0
      · have := hc.2 o' ho'
        split at this
        · rename_i v' hv'
          rw [hv', eqV_eq this]
        · simp at this
    · simp at he
theorem aSorted_keep {call : CallK} (hcall : CallsKeep call) (n : Nat) : CallsKeep (aSorted C call n) := by
  intro f args h v h' he hl
  obtain ⟨rfl, _⟩ := aSorted_inv he
  exact .refl _
theorem aSorted_ok (hC : CtxOk P C) (hK : CodesOk C) {call : CallK} (hcall : CallsOk P call) (hkeep : CallsKeep call) (n : Nat) : CallsOk P (aSorted C call n) := by
  intro f args h v h' he F ρ w xs sm hr
  obtain ⟨rfl, hid, outs, hout, hall⟩ := aSorted_inv he
  have s1 : Sim F ρ { h' with lo := h'.next } w := ⟨sm.frz, sm.dom, sm.blk, sm.inj, sm.live, sm.nx, sm.io⟩
  refine (aSecond_ok hC hK hcall (aSecond_ok hC hK hcall (aSeq_ok hC hK hcall n) n) n _ _ _ _ hout F ρ w xs s1 hr).mono ?_
  rintro e w' ⟨o, ho, x, F2, ρ2, rfl, e2, s2, r2⟩
  obtain ⟨h3, hfv⟩ := frzOut_inv (hall o ho)
  obtain ⟨F3, e3, s3, r3⟩ := frzRes hfv s2 r2
  have k1 := aSecond_keep (C := C) hkeep (aSecond_keep hkeep (aSeq_keep hkeep n) n) n _ _ _ _ hout (Nat.le_refl _) o ho
  have k2 := frzV_keep 9 _ _ _ _ hfv
  have hget : ∀ b, b < h'.next → h3.get b = h'.get b := fun b hb => by
    rw [k2.get b (by rw [k1.lo]; exact hb), k1.get b hb]; rfl
  have hd := s1.drop s3 (e2.trans e3) hget
  have hd' : Sim F3 ρ h' w' := ⟨hd.frz, hd.dom, hd.blk, hd.inj, hd.live, hd.nx, hd.io⟩
  obtain ⟨cs, hcs, hx⟩ := r3
  exact ⟨x, F3, ρ, rfl, ⟨fun n o hn => (e2.trans e3).f _ _ hn, fun _ _ hh => hh, Nat.le_refl _, fun _ _ => rfl⟩, hd', cs, hcs.idFree hid, hx⟩
end
end Go.A
