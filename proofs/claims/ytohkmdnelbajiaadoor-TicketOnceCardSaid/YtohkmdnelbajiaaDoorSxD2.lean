/- Arguments that are slices: how they are opened. -/
import Derived.Test.YtohkmdnelbajiaaDoorSxD1
import Derived.Test.YtohkmdnelbajiaaDoorSxC2
set_option linter.unusedVariables false
set_option linter.unusedSimpArgs false
namespace Go.Sx
open Go.RowKit Go.ChangeShapes Go.WideShapes
section
variable {H : Type} {enc : TypeId × Value → H} {P : Program}
theorem cells_get {w : World} {base : Nat} {a : Addr} {n : Nat} {cs : List Value} (h : w.cells? base a n = some cs) : cs.length = n ∧ ∀ j c, cs[j]? = some c → w.cell? (a.add j) = some c := by
  unfold World.cells? at h
  split at h
  · have hl := mapM_some_length h
    simp at hl
    refine ⟨hl, fun j c hj => ?_⟩
    have hlt : j < n := by
      have := (List.getElem?_eq_some_iff.1 hj).1; omega
    have := mapM_some_get h j j (by simp [hlt])
    rw [this]; exact hj
  · cases h
/-- How an element's cells are read. -/
def Opens (P : Program) (t : TypeId) (n : Nat) {X : Type} (val : X → Value) (Ok : X → Prop) : Prop :=
  ∀ (H : Type) (enc : TypeId × Value → H) (W : World) (base : Nat) (sp : Nat → Bool) (held : Bool) (fuel : Nat) (cs : List Value) (y : DataW H × List MemPlace),
    cs.length = n → DataW.trod enc P W base sp held fuel t cs = some y → ∃ x, cs = (val x).cells.toList ∧ Ok x
theorem add_add_spot {a : Addr} (hs : a.spot = none) (i j : Nat) : (a.add i).add j = ⟨a.block, a.off + i + j, none⟩ := by
  obtain ⟨b, o, s⟩ := a
  simp only at hs; subst hs
  unfold Addr.add
  by_cases hi : i = 0 <;> by_cases hj : j = 0 <;> simp [hi, hj]
theorem open_slice {X : Type} {val : X → Value} {Ok : X → Prop} {t e : TypeId} {n : Nat} (hu : P.underlying t = some (.slice e)) (hc : P.cellsOf e = n) (hn : 0 < n) (O : Opens P e n val Ok) {W : World} {sp : Nat → Bool} {held : Bool} {base : Nat} {v : Value} {d : DataW H} {ps : List MemPlace}
    (hd : DataW.Trod enc P W base sp held t v d ps) (h1 : v.cells = #[v]) : ∃ xs : List X, SlX W n val Ok v xs ∧ xs.length ≤ maxLen := by
  obtain ⟨fuel, hf⟩ := hd
  rw [h1] at hf
  rcases DataW.trod_slice hu hf with ⟨hv, _⟩ | ⟨a, len, cap, elems, rest, m, hm, hv, hx, hb, hlc, hcm, hel, hget, _⟩
  · refine ⟨[], ⟨⟨?_, ?_, fun i e h => by simp at h⟩, fun x h => by cases h⟩, by simp⟩
    · simp at hv; subst hv; rfl
    · simp at hv; exact .inl hv
  · simp at hv; subst hv
    rw [hc] at hget
    have key : ∀ i, i < len → ∃ x : X, Ok x ∧ ∀ j c, (val x).cells.toList[j]? = some c → W.cell? ((a.add (i * n)).add j) = some c := by
      intro i hi
      have h := hget i hi
      obtain ⟨y, hy⟩ : ∃ y, elems[i]? = some y := ⟨_, List.getElem?_eq_getElem (by omega)⟩
      rw [hy, Option.bind_eq_some_iff] at h
      obtain ⟨cs, h2, h3⟩ := h
      obtain ⟨hl, hcell⟩ := cells_get h2
      obtain ⟨x, hx, hok⟩ := O _ _ _ _ _ _ _ _ _ hl h3
      exact ⟨x, hok, fun j c hj => hcell j c (by rw [hx]; exact hj)⟩
    have len0 : ∀ i, i < len → ∃ x : X, Ok x ∧ (val x).cells.toList.length = n ∧ ∀ j c, (val x).cells.toList[j]? = some c → W.cell? ((a.add (i * n)).add j) = some c := by
      intro i hi
      have h := hget i hi
      obtain ⟨y, hy⟩ : ∃ y, elems[i]? = some y := ⟨_, List.getElem?_eq_getElem (by omega)⟩
      rw [hy, Option.bind_eq_some_iff] at h
      obtain ⟨cs, h2, h3⟩ := h
      obtain ⟨hl, hcell⟩ := cells_get h2
      obtain ⟨x, hx, hok⟩ := O _ _ _ _ _ _ _ _ _ hl h3
      exact ⟨x, hok, by rw [← hx]; exact hl, fun j c hj => hcell j c (by rw [hx]; exact hj)⟩
    have spot : 0 < len → a.spot = none := by
      intro h0
      obtain ⟨x, _, hl, hcell⟩ := len0 0 h0
      have := hcell 0 _ (List.getElem?_eq_getElem (by omega))
      unfold World.cell? at this
      split at this
      · rename_i cs _ _ _
        cases hs : a.spot with
        | none => rfl
        | some s => simp [Addr.add, hs] at this
      · cases this
    have build : ∀ m, m ≤ len → ∃ xs : List X, xs.length = m ∧ (∀ x ∈ xs, Ok x) ∧ ∀ i x, xs[i]? = some x → (val x).cells.toList.length = n ∧ ∀ j c, (val x).cells.toList[j]? = some c → W.cell? ((a.add (i * n)).add j) = some c := by
      intro m
      induction m with
      | zero => exact fun _ => ⟨([] : List X), rfl, ⟨fun x h => absurd h (by simp), fun i x h => by simp at h⟩⟩
      | succ m ih =>
        intro hm
        obtain ⟨xs, hl, hok, hg⟩ := ih (by omega)
        obtain ⟨x, hx1, hx2, hx3⟩ := len0 m (by omega)
        refine ⟨xs ++ [x], by simp [hl], fun y hy => ?_, fun i y hy => ?_⟩
        · rcases List.mem_append.1 hy with h | h
          · exact hok y h
          · simp at h; subst h; exact hx1
        · rcases Nat.lt_or_ge i m with hi | hi
          · rw [List.getElem?_append_left (by omega)] at hy; exact hg i y hy
          · rw [List.getElem?_append_right (by omega)] at hy
            have hi' : i = m := by
              have := (List.getElem?_eq_some_iff.1 hy).1
              simp at this; omega
            subst hi'
            rw [hl, Nat.sub_self] at hy
            simp at hy; subst hy
            exact ⟨hx2, hx3⟩
    obtain ⟨xs, hl, hok, hg⟩ := build len (Nat.le_refl _)
    refine ⟨xs, ⟨⟨by simp [vlen, hl], .inr ⟨a, len, cap, rfl⟩, fun i e he => ?_⟩, hok⟩, by omega⟩
    rw [List.getElem?_map] at he
    cases hxi : xs[i]? with
    | none => rw [hxi] at he; cases he
    | some x =>
      rw [hxi] at he
      simp at he; subst he
      obtain ⟨g1, g2⟩ := hg i x hxi
      have hs := spot (by have := (List.getElem?_eq_some_iff.1 hxi).1; omega)
      refine ⟨a, len, cap, rfl, hs, g1, fun j c hj => ?_⟩
      have := g2 j c hj
      rw [add_add_spot hs] at this
      exact this
theorem opens_int {t : TypeId} {k : IntKind} (hu : P.underlying t = some (.int k)) : Opens P t 1 (Value.int k) (fun n => (Lit.int k n).wf = true) := by
  intro H enc W base sp held fuel cs y hl h
  obtain ⟨n, rfl, _, hw⟩ := DataW.trod_int hu h
  exact ⟨n, rfl, hw⟩
theorem opens_bool {t : TypeId} (hu : P.underlying t = some .bool) : Opens P t 1 Value.bool (fun _ => True) := by
  intro H enc W base sp held fuel cs y hl h
  obtain ⟨b, rfl, _⟩ := DataW.trod_bool hu h
  exact ⟨b, rfl, trivial⟩
theorem opens_num {t e : TypeId} (hu : P.underlying t = some (.array 4 e)) (he : P.underlying e = some (.int .u64)) (hc : P.cellsOf e = 1) (hk : P.cellsOf t = 4) : Opens P t 4 vI R4 := by
  intro H enc W base sp held fuel cs y hl hf
  obtain ⟨a0, a1, a2, a3, rfl⟩ := list4 hl
  cases fuel with
  | zero => simp [DataW.trod] at hf
  | succ m =>
    rw [DataW.trod_step] at hf
    unfold DataW.trodStep at hf
    have hr : List.range 4 = [0, 1, 2, 3] := rfl
    simp only [hu, hc, hk, hr, List.mapM_cons, List.mapM_nil, bind, Option.bind_eq_some_iff, pure, Option.map_eq_some_iff] at hf
    simp only [List.length_cons, List.length_nil, List.drop_zero, Nat.zero_mul, Nat.one_mul, Nat.mul_one, List.drop_succ_cons, List.take_succ_cons, List.take_zero, if_true] at hf
    have one : ∀ (a : Value) (x : DataW H × List MemPlace), DataW.trod enc P W base sp held m e [a] = some x → ∃ n, a = .int .u64 n ∧ (Lit.int .u64 n).wf = true := by
      intro a x hx
      obtain ⟨n, h1, h2, h3⟩ := DataW.trod_int he hx
      exact ⟨n, by simpa using h1, h3⟩
    cases h0 : DataW.trod enc P W base sp held m e [a0] with
    | none => rw [h0] at hf; cases hf
    | some y0 =>
    cases h1 : DataW.trod enc P W base sp held m e [a1] with
    | none => rw [h0, h1] at hf; cases hf
    | some y1 =>
    cases h2 : DataW.trod enc P W base sp held m e [a2] with
    | none => rw [h0, h1, h2] at hf; cases hf
    | some y2 =>
    cases h3 : DataW.trod enc P W base sp held m e [a3] with
    | none => rw [h0, h1, h2, h3] at hf; cases hf
    | some y3 =>
    obtain ⟨n0, rfl, w0⟩ := one _ _ h0
    obtain ⟨n1, rfl, w1⟩ := one _ _ h1
    obtain ⟨n2, rfl, w2⟩ := one _ _ h2
    obtain ⟨n3, rfl, w3⟩ := one _ _ h3
    refine ⟨num (.agg #[.int .u64 n0, .int .u64 n1, .int .u64 n2, .int .u64 n3]), ?_, R4_num4 (wf_W w0) (wf_W w1) (wf_W w2) (wf_W w3)⟩
    rw [vI_num4 (wf_W w0) (wf_W w1) (wf_W w2) (wf_W w3)]; rfl
end
end Go.Sx
