/- How an argument that is an array of eight words is read. -/
import Derived.Test.YtohkmdnelbajiaaDoorSxC1
set_option linter.unusedVariables false
set_option linter.unusedSimpArgs false
namespace Go.Sx
open Go.RowKit Go.ChangeShapes Go.WideShapes
section
variable {H : Type} {enc : TypeId × Value → H} {P : Program}
theorem list8 {α : Type} {l : List α} (h : l.length = 8) : ∃ a0 a1 a2 a3 a4 a5 a6 a7, l = [a0, a1, a2, a3, a4, a5, a6, a7] := by
  match l, h with
  | [a0, a1, a2, a3, a4, a5, a6, a7], _ => exact ⟨a0, a1, a2, a3, a4, a5, a6, a7, rfl⟩
theorem open_num8 {r : Reach} {b0 base : Nat} {sp : Nat → Bool} {held : Bool} {t e : TypeId} {W : World} {v : Value} {d : DataW H} {ps : List MemPlace} (hu : P.underlying t = some (.array 8 e)) (he : P.underlying e = some (.int .u64)) (hc : P.cellsOf e = 1) (hk : P.cellsOf t = 8)
    (hval : Value.okWide P W r b0 t v) (hd : DataW.Trod enc P W base sp held t v d ps) :
    ∃ n, v = vW n ∧ R8 n ∧ ps = [] ∧ ∀ W' base' sp' held', DataW.Trod enc P W' base' sp' held' t v d [] := by
  simp only [Value.okWide, hu] at hval
  obtain ⟨cs, rfl, hsz, _⟩ := hval
  obtain ⟨a0, a1, a2, a3, a4, a5, a6, a7, hl⟩ := list8 (l := cs.toList) (by rw [Array.length_toList, hsz, hk])
  clear hsz
  obtain rfl : cs = #[a0, a1, a2, a3, a4, a5, a6, a7] := by apply Array.ext'; rw [hl]
  obtain ⟨fuel, hf⟩ := hd
  cases fuel with
  | zero => simp [DataW.trod] at hf
  | succ m =>
    rw [DataW.trod_step] at hf
    unfold DataW.trodStep at hf
    have hr : List.range 8 = [0, 1, 2, 3, 4, 5, 6, 7] := rfl
    simp only [hu, Value.cells, hc, hk, hr, List.mapM_cons, List.mapM_nil, bind, Option.bind_eq_some_iff, pure, Option.map_eq_some_iff] at hf
    simp only [List.toList_toArray, List.length_cons, List.length_nil, List.drop_zero, Nat.zero_mul, Nat.one_mul, Nat.mul_one, List.drop_succ_cons, List.take_succ_cons, List.take_zero, if_true] at hf
    cases m with
    | zero => simp [DataW.trod] at hf
    | succ m =>
    have one : ∀ (a : Value) (x : DataW H × List MemPlace), DataW.trod enc P W base sp held (m + 1) e [a] = some x → ∃ n, a = .int .u64 n ∧ x = (.lit (.int .u64 n), []) ∧ (Lit.int .u64 n).wf = true := by
      intro a x hx
      obtain ⟨n, h1, h2, h3⟩ := DataW.trod_int he hx
      exact ⟨n, by simpa using h1, h2, h3⟩
    cases h0 : DataW.trod enc P W base sp held (m + 1) e [a0] with
    | none => rw [h0] at hf; cases hf
    | some y0 =>
    cases h1 : DataW.trod enc P W base sp held (m + 1) e [a1] with
    | none => rw [h0, h1] at hf; cases hf
    | some y1 =>
    cases h2 : DataW.trod enc P W base sp held (m + 1) e [a2] with
    | none => rw [h0, h1, h2] at hf; cases hf
    | some y2 =>
    cases h3 : DataW.trod enc P W base sp held (m + 1) e [a3] with
    | none => rw [h0, h1, h2, h3] at hf; cases hf
    | some y3 =>
    cases h4 : DataW.trod enc P W base sp held (m + 1) e [a4] with
    | none => rw [h0, h1, h2, h3, h4] at hf; cases hf
    | some y4 =>
    cases h5 : DataW.trod enc P W base sp held (m + 1) e [a5] with
    | none => rw [h0, h1, h2, h3, h4, h5] at hf; cases hf
    | some y5 =>
    cases h6 : DataW.trod enc P W base sp held (m + 1) e [a6] with
    | none => rw [h0, h1, h2, h3, h4, h5, h6] at hf; cases hf
    | some y6 =>
    cases h7 : DataW.trod enc P W base sp held (m + 1) e [a7] with
    | none => rw [h0, h1, h2, h3, h4, h5, h6, h7] at hf; cases hf
    | some y7 =>
    obtain ⟨n0, rfl, rfl, w0⟩ := one _ _ h0
    obtain ⟨n1, rfl, rfl, w1⟩ := one _ _ h1
    obtain ⟨n2, rfl, rfl, w2⟩ := one _ _ h2
    obtain ⟨n3, rfl, rfl, w3⟩ := one _ _ h3
    obtain ⟨n4, rfl, rfl, w4⟩ := one _ _ h4
    obtain ⟨n5, rfl, rfl, w5⟩ := one _ _ h5
    obtain ⟨n6, rfl, rfl, w6⟩ := one _ _ h6
    obtain ⟨n7, rfl, rfl, w7⟩ := one _ _ h7
    rw [h0, h1, h2, h3, h4, h5, h6, h7] at hf
    simp only [Option.bind_some, Option.map_some, Option.some.injEq, Prod.mk.injEq, List.map_cons, List.map_nil, List.flatMap_cons, List.flatMap_nil, List.append_nil] at hf
    obtain ⟨rfl, rfl⟩ := hf
    refine ⟨num (.agg #[.int .u64 n0, .int .u64 n1, .int .u64 n2, .int .u64 n3, .int .u64 n4, .int .u64 n5, .int .u64 n6, .int .u64 n7]), (vW_num8 (wf_W w0) (wf_W w1) (wf_W w2) (wf_W w3) (wf_W w4) (wf_W w5) (wf_W w6) (wf_W w7)).symm, R8_num8 (wf_W w0) (wf_W w1) (wf_W w2) (wf_W w3) (wf_W w4) (wf_W w5) (wf_W w6) (wf_W w7), rfl, fun W' base' sp' held' => ⟨m + 2, ?_⟩⟩
    rw [DataW.trod_step]
    unfold DataW.trodStep
    simp only [hu, Value.cells, hc, hk, hr, List.mapM_cons, List.mapM_nil, bind, pure, List.toList_toArray, List.length_cons, List.length_nil, List.drop_zero, Nat.zero_mul, Nat.one_mul, Nat.mul_one, List.drop_succ_cons, List.take_succ_cons, List.take_zero, if_true]
    simp only [trod_int_mk (enc := enc) (w := W') (base := base') (spare := sp') (held := held') m he w0, trod_int_mk (enc := enc) (w := W') (base := base') (spare := sp') (held := held') m he w1, trod_int_mk (enc := enc) (w := W') (base := base') (spare := sp') (held := held') m he w2, trod_int_mk (enc := enc) (w := W') (base := base') (spare := sp') (held := held') m he w3, trod_int_mk (enc := enc) (w := W') (base := base') (spare := sp') (held := held') m he w4, trod_int_mk (enc := enc) (w := W') (base := base') (spare := sp') (held := held') m he w5, trod_int_mk (enc := enc) (w := W') (base := base') (spare := sp') (held := held') m he w6, trod_int_mk (enc := enc) (w := W') (base := base') (spare := sp') (held := held') m he w7]
    rfl
end
end Go.Sx
