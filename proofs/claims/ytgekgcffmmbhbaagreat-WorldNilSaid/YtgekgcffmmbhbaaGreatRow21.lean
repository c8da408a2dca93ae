/- A nil world does nothing, and places that are none have nothing: WorldNil answers true at every input, and leaves what came in as it was. -/
import Derived.Test.YtgekgcffmmbhbaaGreatRows
import Derived.Test.YtgekgcffmmbhbaaGreatY21
import Derived.Test.YtgekgcffmmbhbaaGreatA37
import Derived.WalkKit
import Derived.ProofKit
import Derived.OpenShut
import Derived.JoinedCond
set_option maxRecDepth 100000
set_option linter.unusedVariables false
noncomputable section
namespace Go.Proofs.YtgekgcffmmbhbaaGreat.worldNil
open Go Go.A Go.ChangeShapes Go.WideShapes Go.ChangeAt Go.RowKit Go.Proofs.YtgekgcffmmbhbaaGreat.T
theorem sixteen {zs : List Int} (h : zs.length = 16) : ∃ c0 c1 c2 c3 c4 c5 c6 c7 c8 c9 ca cb cc cd ce cf, zs = [c0, c1, c2, c3, c4, c5, c6, c7, c8, c9, ca, cb, cc, cd, ce, cf] := by
  match zs, h with
  | [c0, c1, c2, c3, c4, c5, c6, c7, c8, c9, ca, cb, cc, cd, ce, cf], _ => exact ⟨_, _, _, _, _, _, _, _, _, _, _, _, _, _, _, _, rfl⟩
theorem relV_cons {F : Frz} {ρ : Ren} {v : V} {x : Value} {vs : List V} {xs : List Value} (h : RelV F ρ v x) (hs : RelTs F ρ vs xs) : RelTs F ρ (v :: vs) (x :: xs) := by
  obtain ⟨cs, hr, rfl⟩ := h
  exact .cons hr hs
theorem own : ownKnob Go.Proofs.Tryz.prog.godebug = none := by kernel_rfl
theorem cells3 : Go.Proofs.Tryz.prog.cellsOf 3 = 1 := by kernel_rfl
theorem cells5 : Go.Proofs.Tryz.prog.cellsOf 5 = 1 := by kernel_rfl
theorem cells22 : Go.Proofs.Tryz.prog.cellsOf 22 = 1 := by kernel_rfl
theorem cells24 : Go.Proofs.Tryz.prog.cellsOf 24 = 16 := by kernel_rfl
theorem cells49 : Go.Proofs.Tryz.prog.cellsOf 49 = 21 := by kernel_rfl
theorem posParams : ∀ t ∈ Go.Proofs.Tryz.f4.params.toList, posT Go.Proofs.Tryz.prog 20 t = true := by
  rw [Go.Proofs.Tryz.params4]
  have : ([49, 3, 3].all fun t => posT Go.Proofs.Tryz.prog 20 t) = true := by kernel_rfl
  exact fun t ht => List.all_eq_true.1 this t ht
theorem part (cs : List Value) (k a m : Nat) (h : k + a = m) : cs.drop k = (cs.drop k).take a ++ cs.drop m := by
  rw [← h, ← List.drop_drop]; exact (List.take_append_drop a (cs.drop k)).symm
/-- An op, as an abstract value. -/
theorem op_rel {H : Type} {enc : TypeId × Value → H} {W : World} {base : Nat} {v : Value} {d : DataW H} {ps : List MemPlace} (hval : Value.okWide Go.Proofs.Tryz.prog W .any base 49 v) (hd : DataW.Trod enc Go.Proofs.Tryz.prog W 0 (fun _ => true) true 49 v d ps) :
    ∃ o0 o1 o2 o3 c0 c1 c2 c3 c4 c5 c6 c7 c8 c9 ca cb cc cd ce cf t, (t = .nl true ∨ ∃ l, t = .list l) ∧ RelV (allF W) ρ0 (opV o0 o1 o2 o3 c0 c1 c2 c3 c4 c5 c6 c7 c8 c9 ca cb cc cd ce cf t) v := by
  obtain ⟨n, hf⟩ := hd
  obtain ⟨cs, rfl, _⟩ := okWide_struct Go.Proofs.Tryz.underlying49 hval
  obtain ⟨xs, q, rfl, hx, hlen, hxl, heach⟩ := DataW.trod_struct Go.Proofs.Tryz.underlying49 hf
  rw [cells49] at hlen
  have e0 : DataW.trod enc Go.Proofs.Tryz.prog W 0 (fun _ => true) true q 3 ((List.drop 0 (Value.agg cs).cells.toList).take (Go.Proofs.Tryz.prog.cellsOf 3)) = xs[0]? := heach 0 _ rfl
  have e1 : DataW.trod enc Go.Proofs.Tryz.prog W 0 (fun _ => true) true q 3 ((List.drop 1 (Value.agg cs).cells.toList).take (Go.Proofs.Tryz.prog.cellsOf 3)) = xs[1]? := heach 1 _ rfl
  have e2 : DataW.trod enc Go.Proofs.Tryz.prog W 0 (fun _ => true) true q 3 ((List.drop 2 (Value.agg cs).cells.toList).take (Go.Proofs.Tryz.prog.cellsOf 3)) = xs[2]? := heach 2 _ rfl
  have e3 : DataW.trod enc Go.Proofs.Tryz.prog W 0 (fun _ => true) true q 3 ((List.drop 3 (Value.agg cs).cells.toList).take (Go.Proofs.Tryz.prog.cellsOf 3)) = xs[3]? := heach 3 _ rfl
  have e4 : DataW.trod enc Go.Proofs.Tryz.prog W 0 (fun _ => true) true q 24 ((List.drop 4 (Value.agg cs).cells.toList).take (Go.Proofs.Tryz.prog.cellsOf 24)) = xs[4]? := heach 4 _ rfl
  have e5 : DataW.trod enc Go.Proofs.Tryz.prog W 0 (fun _ => true) true q 22 ((List.drop 20 (Value.agg cs).cells.toList).take (Go.Proofs.Tryz.prog.cellsOf 22)) = xs[5]? := heach 5 _ rfl
  have hxl' : xs.length = 6 := hxl
  rw [List.getElem?_eq_getElem (by omega)] at e0 e1 e2 e3 e4 e5
  rw [cells3] at e0 e1 e2 e3
  rw [cells24] at e4
  rw [cells22] at e5
  obtain ⟨o0, _, r0⟩ := int_cell Go.Proofs.Tryz.underlying3 e0 (allF W) ρ0
  obtain ⟨o1, _, r1⟩ := int_cell Go.Proofs.Tryz.underlying3 e1 (allF W) ρ0
  obtain ⟨o2, _, r2⟩ := int_cell Go.Proofs.Tryz.underlying3 e2 (allF W) ρ0
  obtain ⟨o3, _, r3⟩ := int_cell Go.Proofs.Tryz.underlying3 e3 (allF W) ρ0
  obtain ⟨zs, hz, r4⟩ := array_cell Go.Proofs.Tryz.underlying24 Go.Proofs.Tryz.underlying5 cells5 cells24 e4 (allF W) ρ0
  obtain ⟨c0, c1, c2, c3, c4, c5, c6, c7, c8, c9, ca, cb, cc, cd, ce, cf, rfl⟩ := sixteen hz
  have r5 : ∃ t : V, (t = .nl true ∨ ∃ l, t = .list l) ∧ t.isTup = false ∧ Rel (allF W) ρ0 t ((List.drop 20 (Value.agg cs).cells.toList).take 1) := by
    rcases slice_cell Go.Proofs.Tryz.underlying22 Go.Proofs.Tryz.underlying5 cells5 e5 with h | ⟨l, h⟩
    · exact ⟨_, .inl rfl, rfl, h⟩
    · exact ⟨_, .inr ⟨_, rfl⟩, rfl, h⟩
  obtain ⟨t, hform, ht, r5⟩ := r5
  have hsplit : cs.toList = (cs.toList.drop 0).take 1 ++ ((cs.toList.drop 1).take 1 ++ ((cs.toList.drop 2).take 1 ++ ((cs.toList.drop 3).take 1 ++ ((cs.toList.drop 4).take 16 ++ ((cs.toList.drop 20).take 1 ++ []))))) := by
    have hend : cs.toList.drop 21 = [] := List.drop_eq_nil_of_le (by have : cs.toList.length = 21 := hlen; omega)
    rw [← hend, ← part cs.toList 20 1 21 rfl, ← part cs.toList 4 16 20 rfl, ← part cs.toList 3 1 4 rfl, ← part cs.toList 2 1 3 rfl, ← part cs.toList 1 1 2 rfl, ← part cs.toList 0 1 1 rfl]
    rfl
  have hrel : Rel (allF W) ρ0 (opV o0 o1 o2 o3 c0 c1 c2 c3 c4 c5 c6 c7 c8 c9 ca cb cc cd ce cf t) cs.toList := by
    rw [hsplit]
    exact .agg (.cons rfl r0 (.cons rfl r1 (.cons rfl r2 (.cons rfl r3 (.cons rfl r4 (.cons ht r5 .nil))))))
  exact ⟨o0, o1, o2, o3, c0, c1, c2, c3, c4, c5, c6, c7, c8, c9, ca, cb, cc, cd, ce, cf, t, hform, _, hrel, by simp [opV, V.pack]⟩
theorem contract (H : Type) (enc : TypeId × Value → H) (W : World) (base : Nat) (args : Array Value) (ds gs : List (DataW H)) (before : List MemPlace)
    (hval : ∀ (j : Nat) t v, Go.Proofs.Tryz.f4.params[j]? = some t → args[j]? = some v → Value.okWide Go.Proofs.Tryz.prog W .any base t v)
    (hW : DataW.Whole enc Go.Proofs.Tryz.prog Go.Proofs.Tryz.f4.params.toList Rows.worldNilSpec.vars false W args.toList ds gs before) :
    Calls Go.Proofs.Tryz.prog 4 args W fun e W' => ∃ v, e = .returned v ∧ Rows.worldNilSpec.post enc Go.Proofs.Tryz.prog Go.Proofs.Tryz.f4 false true false false W args v W' := by
  have hW' := hW
  obtain ⟨p, q, hA0, hV, rfl, hfz, hnd⟩ := hW
  have hA : DataW.TrodAll enc Go.Proofs.Tryz.prog W 0 (fun _ => true) true Go.Proofs.Tryz.f4.params.toList args.toList ds p := hA0
  rw [Go.Proofs.Tryz.params4] at hA hval
  obtain ⟨v0, vs0, d0, ds0, p0, q0, hargs, rfl, rfl, h0, r0⟩ := trodAll_cons hA
  obtain ⟨v1, vs1, d1, ds1, p1, q1, rfl, rfl, rfl, h1, r1⟩ := trodAll_cons r0
  obtain ⟨v2, vs2, d2, ds2, p2, q2, rfl, rfl, rfl, h2, r2⟩ := trodAll_cons r1
  obtain ⟨rfl, rfl, rfl⟩ := trodAll_nil r2
  obtain rfl : args = #[v0, v1, v2] := by apply Array.ext'; simpa using hargs
  obtain ⟨o0, o1, o2, o3, c0, c1, c2, c3, c4, c5, c6, c7, c8, c9, ca, cb, cc, cd, ce, cf, t, hform, g0⟩ := op_rel (hval 0 49 v0 rfl rfl) h0
  obtain ⟨a, rfl, _, _, g1⟩ := int_rel Go.Proofs.Tryz.underlying3 (hval 1 3 _ rfl rfl) h1 (allF W) ρ0
  obtain ⟨b, rfl, _, _, g2⟩ := int_rel Go.Proofs.Tryz.underlying3 (hval 2 3 _ rfl rfl) h2 (allF W) ρ0
  obtain ⟨h', he⟩ := isYesH_inv (yesAll a b o0 o1 o2 o3 c0 c1 c2 c3 c4 c5 c6 c7 c8 c9 ca cb cc cd ce cf t hform)
  refine (calls_true callW_ok he (relV_cons g0 (relV_cons g1 (relV_cons g2 .nil)))).mono ?_
  rintro e W' ⟨rfl, hio, hh⟩
  exact ⟨_, rfl, post_true (tb := 4) posParams hW' rfl (by kernel_rfl) Go.Proofs.Tryz.underlying4 rfl hio hh⟩
theorem lifted (os : Os) (started : os.Started) (H : Type) (enc : TypeId × Value → H) :
    ReturnsInHanded {} Go.Proofs.Tryz.checked os 4 .any (Rows.worldNilSpec.pre6 enc Go.Proofs.Tryz.prog Go.Proofs.Tryz.f4 Rows.worldNilRow.domain false) (Rows.worldNilSpec.post enc Go.Proofs.Tryz.prog Go.Proofs.Tryz.f4 false true false false) := by
  refine returnsInHanded_of_change (C := Go.Proofs.Tryz.checked) (s := Rows.worldNilSpec) own started (by kernel_rfl) Go.Proofs.Tryz.func4
    (ChangeSpec.witness6 (enc := enc) (C := Go.Proofs.Tryz.checked) (s := Rows.worldNilSpec) false ⟨#[], #[.agg #[.int .i64 0, .int .i64 0, .int .i64 0, .int .i64 0, .int .u8 0, .int .u8 0, .int .u8 0, .int .u8 0, .int .u8 0, .int .u8 0, .int .u8 0, .int .u8 0, .int .u8 0, .int .u8 0, .int .u8 0, .int .u8 0, .int .u8 0, .int .u8 0, .int .u8 0, .int .u8 0, .slice none 0 0], .int .i64 0, .int .i64 0], []⟩ 8 (by kernel_rfl) (by kernel_rfl) (by kernel_rfl) (by kernel_rfl)) ?_
  intro W base args ds gs before hval hW _ _
  exact contract H enc W base args ds gs before hval hW
end Go.Proofs.YtgekgcffmmbhbaaGreat.worldNil
