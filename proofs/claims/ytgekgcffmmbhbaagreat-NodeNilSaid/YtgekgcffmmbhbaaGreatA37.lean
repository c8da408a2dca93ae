/- What was read ahead of a call is read behind it, where all that lay in memory lies as it lay. -/
import Derived.Test.YtgekgcffmmbhbaaGreatA36
import Derived.ChangeSame
import Derived.ChangeOld
import Derived.OpenShut
set_option linter.unusedVariables false
set_option linter.unusedSimpArgs false
namespace Go.A
open Go Go.ChangeShapes Go.WideShapes
section
variable {H : Type} {enc : TypeId × Value → H} {P : Program} {w w' : World} {base : Nat} {held : Bool}
/-- No element of a slice is without cells, as far as the type goes. -/
def posT (P : Program) : Nat → TypeId → Bool
  | 0, _ => false
  | k + 1, t => match P.underlying t with
    | some (.pointer e) => posT P k e
    | some (.slice e) => decide (0 < P.cellsOf e) && posT P k e
    | some (.struct fs) => fs.toList.all fun f => posT P k f.type
    | some (.array _ e) => posT P k e
    | some (.map _ e) => posT P k e
    | _ => true
theorem trod_spare {sp : Nat → Bool} (hsp : ∀ b, b < w.heap.size → sp b = true) : ∀ (n k : Nat) (t : TypeId) (cs : List Value) (x : DataW H × List MemPlace), posT P k t = true → DataW.trod enc P w base (fun _ => true) true n t cs = some x → DataW.trod enc P w base sp true n t cs = some x := by
  intro n
  induction n with
  | zero => intro k t cs x hp h; simp [DataW.trod] at h
  | succ n ih =>
    intro k t cs x hp h
    cases k with
    | zero => simp [posT] at hp
    | succ k =>
      have hz := DataW.trod_lt (n + 1) t cs x h
      unfold posT at hp
      rw [DataW.trod_step] at h ⊢
      unfold DataW.trodStep at h ⊢
      split at h
      case h_6 e a hu =>
        rw [hu] at hp
        simp only [Option.map_eq_some_iff, Option.bind_eq_some_iff] at h ⊢
        obtain ⟨y, ⟨cs', hc, hy⟩, rfl⟩ := h
        exact ⟨y, ⟨cs', hc, ih k _ _ _ hp hy⟩, rfl⟩
      case h_8 e a len cap hu =>
        rw [hu] at hp
        simp only [Bool.and_eq_true, decide_eq_true_eq] at hp
        obtain ⟨hce, hp⟩ := hp
        simp only at h ⊢
        split at h
        · rename_i hc
          rw [if_pos hc]
          simp only [Option.map_eq_some_iff, Option.bind_eq_some_iff, if_true] at h ⊢
          obtain ⟨elems, he, rest, hrest, rfl⟩ := h
          have one : ∀ (i : Nat) (y : DataW H × List MemPlace), (w.cells? base (a.add (i * P.cellsOf e)) (P.cellsOf e)).bind (DataW.trod enc P w base (fun _ => true) true n e) = some y →
              (w.cells? base (a.add (i * P.cellsOf e)) (P.cellsOf e)).bind (DataW.trod enc P w base sp true n e) = some y := by
            intro i y hv
            simp only [Option.bind_eq_some_iff] at hv ⊢
            obtain ⟨cs', hc', hy'⟩ := hv
            exact ⟨cs', hc', ih k _ _ _ hp hy'⟩
          refine ⟨elems, mapM_carry he (fun i y _ _ hv => one i y hv), rest, ?_, rfl⟩
          by_cases h0 : cap - len = 0
          · rw [h0] at hrest ⊢
            simp only [List.range_zero, List.mapM_nil] at hrest ⊢
            cases hq : sp a.block
            · exact hrest
            · exact hrest
          · have hlen : elems.length = len := by simpa using mapM_some_length he
            have hrl : rest.length = cap - len := by simpa using mapM_some_length hrest
            have hb : a.block < w.heap.size := hz (.cell a.block (a.off + 0)) (by
              simp only [List.mem_append]
              left
              exact MemPlace.mem_row.2 ⟨0, Nat.mul_pos (by omega) hce, rfl⟩)
            rw [if_pos (hsp _ hb)]
            exact mapM_carry hrest (fun j y _ _ hv => one (len + j) y hv)
        · cases h
      case h_9 fs hu =>
        rw [hu] at hp
        split at h
        · rename_i hc
          rw [if_pos hc]
          simp only [Option.map_eq_some_iff] at h ⊢
          obtain ⟨xs, hx, rfl⟩ := h
          exact ⟨xs, mapM_carry hx (fun f y hf _ hv => ih k _ _ _ (List.all_eq_true.1 hp f hf) hv), rfl⟩
        · cases h
      case h_10 m e hu =>
        rw [hu] at hp
        split at h
        · rename_i hc
          rw [if_pos hc]
          simp only [Option.map_eq_some_iff] at h ⊢
          obtain ⟨xs, hx, rfl⟩ := h
          exact ⟨xs, mapM_carry hx (fun f y _ _ hv => ih k _ _ _ hp hv), rfl⟩
        · cases h
      case h_14 kk e b hu =>
        rw [hu] at hp
        split at h
        · rename_i es clock hb
          split at h
          · rename_i hc
            simp only [Option.bind_eq_some_iff] at h
            obtain ⟨entries, he, hd⟩ := h
            simp only [if_pos hc, Option.bind_eq_some_iff]
            refine ⟨entries, mapM_carry he (fun x y _ _ hv => ?_), hd⟩
            simp only [Option.bind_eq_some_iff] at hv ⊢
            obtain ⟨key, hk, hv⟩ := hv
            refine ⟨key, hk, ?_⟩
            split at hv
            · rename_i hf
              rw [if_pos hf]
              simp only [Option.map_eq_some_iff] at hv ⊢
              obtain ⟨q, hq, hy⟩ := hv
              exact ⟨q, ih k _ _ _ hp hq, hy⟩
            · cases hv
          · cases h
        · cases h
      all_goals exact h
theorem same_of_heap (hh : ∀ i, i < w.heap.size → w'.heap[i]? = w.heap[i]?) (p : MemPlace) (hp : p.block < w.heap.size) : w.sameAt w' p := by
  cases p with
  | cell b off => show w'.cell? _ = w.cell? _; unfold World.cell?; rw [hh b hp]
  | map b => exact hh b hp
theorem trod_world (hh : ∀ i, i < w.heap.size → w'.heap[i]? = w.heap[i]?) {sp : Nat → Bool} : ∀ (n : Nat) (t : TypeId) (cs : List Value) (x : DataW H × List MemPlace), DataW.trod enc P w base sp held n t cs = some x → DataW.trod enc P w' base sp held n t cs = some x := by
  intro n
  induction n with
  | zero => intro t cs x h; simp [DataW.trod] at h
  | succ n ih =>
    intro t cs x h
    have hz := DataW.trod_lt (n + 1) t cs x h
    rw [DataW.trod_step] at h ⊢
    exact DataW.trodStep_carry (fun t cs x hx _ => ih t cs x hx) h (fun p hp => same_of_heap hh p (hz p hp))
theorem trodAll_keep (hh : ∀ i, i < w.heap.size → w'.heap[i]? = w.heap[i]?) {sp : Nat → Bool} (hsp : ∀ b, b < w.heap.size → sp b = true) : ∀ {ts : List TypeId} {vs : List Value} {ds : List (DataW H)} {ps : List MemPlace}, (∀ t ∈ ts, posT P 20 t = true) →
    DataW.TrodAll enc P w base (fun _ => true) true ts vs ds ps → DataW.TrodAll enc P w' base sp true ts vs ds ps
  | [], vs, ds, ps, hp, h => by
    obtain ⟨rfl, rfl, rfl⟩ := trodAll_nil h
    exact rfl
  | t :: ts, vs, ds, ps, hp, h => by
    obtain ⟨v, vs1, d, ds1, a, b, rfl, rfl, rfl, ⟨n, h1⟩, h2⟩ := trodAll_cons h
    exact ⟨a, b, ⟨n, trod_world hh n _ _ _ (trod_spare hsp n 20 _ _ _ (hp _ (by simp)) h1)⟩, trodAll_keep hh hsp (fun t ht => hp t (by simp [ht])) h2, rfl⟩
theorem keptBut_of_heap (hio : SameIo w w') (hh : ∀ i, i < w.heap.size → w'.heap[i]? = w.heap[i]?) (may : MemPlace → Prop) : w.keptBut w' may := by
  refine ⟨hio.1, hio.2, fun i hi => ?_⟩
  rw [hh i hi]
  split
  · rename_i c t fr c' t' fr' h1 h2
    rw [h1] at h2; cases h2
    exact ⟨rfl, rfl, rfl, fun _ _ => rfl⟩
  · rename_i es clock es' clock' h1 h2
    rw [h1] at h2; cases h2
    exact .inr ⟨rfl, rfl⟩
  · rfl
/-- A law's end: it has answered true, and nothing that lay there has turned. -/
theorem post_true {f : Func} {s : ChangeSpec} {W W' : World} {args : Array Value} {ds gs : List (DataW H)} {before : List MemPlace} {tb : TypeId} (hP : ∀ t ∈ f.params.toList, posT P 20 t = true) (hW : DataW.Whole enc P f.params.toList s.vars false W args.toList ds gs before) (hv : s.vars = []) (hrt : f.resultTypes = #[tb]) (htb : P.underlying tb = some .bool)
    (hfn : s.fn H ds = { results := [.lit (.bool true)], args := ds }) (hio : SameIo W W') (hh : ∀ i, i < W.heap.size → W'.heap[i]? = W.heap[i]?) : s.post enc P f false true false false W args (.bool true) W' := by
  have hW0 := hW
  obtain ⟨p, q, hA, hV, rfl, hz, hn⟩ := hW
  rw [hv] at hV
  have hg : gs = [] ∧ q = [] := by
    cases gs with
    | nil => exact ⟨rfl, hV⟩
    | cons a b => exact hV.elim
  obtain ⟨rfl, rfl⟩ := hg
  refine ⟨ds, [], p ++ [], [], p, [], hW0, ?_, ?_, ?_, keptBut_of_heap hio hh _, fun hq => by cases hq⟩
  · rw [List.append_nil, hfn, hrt]
    exact ⟨[], [], ⟨1, by show DataW.trod enc P W' _ _ _ 1 tb [.bool true] = _; simp [DataW.trod, htb]⟩, rfl, rfl⟩
  · rw [List.append_nil, hfn]
    exact trodAll_keep hh (fun b hb => by simpa using hb) hP hA
  · rw [hv, List.append_nil, hfn]
    exact rfl
end
end Go.A
