/- From a contract to a statement: what stays below the heap's end; how arguments that are arrays of words are read. -/
import Derived.Test.YtohkmdnelbajiaaDoorSxB18
import Derived.WideKeyArr2
import Derived.OpenShut
import Derived.RowKitTokens
set_option linter.unusedVariables false
set_option linter.unusedSimpArgs false
namespace Go.Sx
open Go.RowKit Go.ChangeShapes Go.WideShapes
/-- A contract that asks for no slot leaves all that was there. -/
theorem CallT.below0 {P : Program} {f : FuncId} {args : Array Value} {X : Type} {val : X → Value} {us : X → List Slot} {Φ : X → Prop} (h : CallT P f args [] X val us Φ) (w : World) :
    Calls P f args w fun e w' => ∃ x, Φ x ∧ e = .returned (val x) ∧ Below w.heap.size w w' := by
  have ho : Own (ofList []) (fun q => ∀ b o, w.heap[b]? = some o → q b = some o) w := by
    refine ⟨fun _ _ => none, fun b => w.heap[b]?, fun i => ?_, fun b o h => h, fun i b o hb => (by cases hb), fun b o hb => hb, fun i j _ b => .inl rfl, fun i b => .inl rfl⟩
    show Slot.sat .free _
    exact fun _ => rfl
  refine (h.calls _ w ho).mono ?_
  rintro e w' ⟨x, hx, he, ⟨p, q, _, hq, _, hqw, _⟩, hext⟩
  refine ⟨x, hx, he, hext.os, hext.tape, hext.output, hext.size, fun i hi => ?_⟩
  have := hqw i w.heap[i] (hq i _ (by simp [hi]))
  rw [this]; simp [hi]
section
variable {H : Type} {enc : TypeId × Value → H} {P : Program}
theorem post_of_below {f : Func} {s : ChangeSpec} {apart fresh handsOn again : Bool} {W W' : World} {args : Array Value} {v : Value} {ds gs : List (DataW H)} {before pa pv : List MemPlace}
    (hW : DataW.Whole enc P f.params.toList s.vars apart W args.toList ds gs before)
    (hres : ∀ (b : Nat) (sp : Nat → Bool) (hd : Bool), DataW.TrodAll enc P W' b sp hd f.resultTypes.toList (v.resultList f.resultTypes.size) (s.fn H (ds ++ gs)).results [])
    (hargs : ∀ sp : Nat → Bool, (∀ p ∈ before, sp p.block = true) → DataW.TrodAll enc P W' 0 sp true f.params.toList args.toList (s.fn H (ds ++ gs)).args pa)
    (hvars : ∀ sp : Nat → Bool, (∀ p ∈ before, sp p.block = true) → DataW.TrodVars enc P W' sp s.vars (s.fn H (ds ++ gs)).vars pv)
    (hps : before = pa ++ pv) (hb : Below W.heap.size W W')
    (hok : ∀ (j : Nat) (t : TypeId) (r : Value), f.resultTypes[j]? = some t → (v.resultList f.resultTypes.size)[j]? = some r → Value.okWide P W' .any 0 t r) :
    s.post enc P f apart fresh handsOn again W args v W' := by
  have hold : ∀ p ∈ before, (fun b => decide (b < W.heap.size)) p.block = true := fun p hp => by simpa using hW.lt p hp
  have hlt := hW.lt
  refine ⟨ds, gs, before, [], pa, pv, hW, hres _ _ _, hargs _ hold, hvars _ hold, World.keptBut_mono (fun p hp => ⟨hp, ?_⟩) (hb.frame (· ∈ before)), fun _ => ?_⟩
  · rw [hps, List.mem_append] at hp
    exact Or.inr hp
  · obtain ⟨_, _, _, _, _, hz, hn⟩ := hW
    refine ⟨hok, _, _, ([] ++ pa) ++ pv, ⟨[] ++ pa, pv, trodAll_append (hargs _ (fun _ _ => rfl)) (hres _ _ _), hvars _ (fun _ _ => rfl), rfl, ?_, ?_⟩, ?_⟩
    · intro b off hp
      have hp' : (MemPlace.cell b off) ∈ before := by rw [hps]; simpa using hp
      rw [hb.frozen (hlt _ hp')]
      exact hz b off hp'
    · intro ha
      have := hn ha
      rw [hps] at this
      simpa using this
    · intro p hp _
      rw [hps]
      simpa using hp
theorem list4 {α : Type} {l : List α} (h : l.length = 4) : ∃ a b c d, l = [a, b, c, d] := by
  match l, h with
  | [a, b, c, d], _ => exact ⟨a, b, c, d, rfl⟩
theorem wf_W {n : Int} (h : (Lit.int .u64 n).wf = true) : W n := by
  simp [Lit.wf, IntKind.min, IntKind.max, IntKind.signed, IntKind.bits] at h
  unfold W; omega
theorem W_wf {n : Int} (h : W n) : (Lit.int .u64 n).wf = true := by
  unfold W at h
  simp [Lit.wf, IntKind.min, IntKind.max, IntKind.signed, IntKind.bits]; omega
/-- An argument that is an array of four words: a number. It reads alike in every world. -/
theorem open_num4 {r : Reach} {b0 base : Nat} {sp : Nat → Bool} {held : Bool} {t e : TypeId} {W : World} {v : Value} {d : DataW H} {ps : List MemPlace} (hu : P.underlying t = some (.array 4 e)) (he : P.underlying e = some (.int .u64)) (hc : P.cellsOf e = 1) (hk : P.cellsOf t = 4)
    (hval : Value.okWide P W r b0 t v) (hd : DataW.Trod enc P W base sp held t v d ps) :
    ∃ n, v = vI n ∧ R4 n ∧ ps = [] ∧ ∀ W' base' sp' held', DataW.Trod enc P W' base' sp' held' t v d [] := by
  simp only [Value.okWide, hu] at hval
  obtain ⟨cs, rfl, hsz, _⟩ := hval
  obtain ⟨a0, a1, a2, a3, hl⟩ := list4 (l := cs.toList) (by rw [Array.length_toList, hsz, hk])
  clear hsz
  obtain rfl : cs = #[a0, a1, a2, a3] := by apply Array.ext'; rw [hl]
  obtain ⟨fuel, hf⟩ := hd
  cases fuel with
  | zero => simp [DataW.trod] at hf
  | succ m =>
    rw [DataW.trod_step] at hf
    unfold DataW.trodStep at hf
    have hr : List.range 4 = [0, 1, 2, 3] := rfl
    simp only [hu, Value.cells, hc, hk, hr, List.mapM_cons, List.mapM_nil, bind, Option.bind_eq_some_iff, pure, Option.map_eq_some_iff] at hf
    simp only [List.toList_toArray, List.length_cons, List.length_nil, List.drop_zero, Nat.zero_mul, Nat.one_mul, Nat.mul_one, List.drop_succ_cons, List.take_succ_cons, List.take_zero, if_true] at hf
    cases m with
    | zero => simp [DataW.trod] at hf
    | succ m =>
    have one : ∀ (a : Value) (x : DataW H × List MemPlace), DataW.trod enc P W base sp held (m + 1) e [a] = some x → ∃ n, a = .int .u64 n ∧ x = (.lit (.int .u64 n), []) ∧ (Lit.int .u64 n).wf = true := by
      intro a x hx
      obtain ⟨n, h1, h2, h3⟩ := DataW.trod_int he hx
      exact ⟨n, by simpa using h1, h2, h3⟩
    cases h0 : DataW.trod enc P W base sp held (m + 1) e [a0] with
    | none => rw [h0] at hf; cases hf
    | some y0 =>
    cases h1 : DataW.trod enc P W base sp held (m + 1) e [a1] with
    | none => rw [h0, h1] at hf; cases hf
    | some y1 =>
    cases h2 : DataW.trod enc P W base sp held (m + 1) e [a2] with
    | none => rw [h0, h1, h2] at hf; cases hf
    | some y2 =>
    cases h3 : DataW.trod enc P W base sp held (m + 1) e [a3] with
    | none => rw [h0, h1, h2, h3] at hf; cases hf
    | some y3 =>
    obtain ⟨n0, rfl, rfl, w0⟩ := one _ _ h0
    obtain ⟨n1, rfl, rfl, w1⟩ := one _ _ h1
    obtain ⟨n2, rfl, rfl, w2⟩ := one _ _ h2
    obtain ⟨n3, rfl, rfl, w3⟩ := one _ _ h3
    rw [h0, h1, h2, h3] at hf
    simp only [Option.bind_some, Option.map_some, Option.some.injEq, Prod.mk.injEq, List.map_cons, List.map_nil, List.flatMap_cons, List.flatMap_nil, List.append_nil] at hf
    obtain ⟨rfl, rfl⟩ := hf
    refine ⟨num (.agg #[.int .u64 n0, .int .u64 n1, .int .u64 n2, .int .u64 n3]), (vI_num4 (wf_W w0) (wf_W w1) (wf_W w2) (wf_W w3)).symm, R4_num4 (wf_W w0) (wf_W w1) (wf_W w2) (wf_W w3), rfl, fun W' base' sp' held' => ⟨m + 2, ?_⟩⟩
    rw [DataW.trod_step]
    unfold DataW.trodStep
    simp only [hu, Value.cells, hc, hk, hr, List.mapM_cons, List.mapM_nil, bind, pure, List.toList_toArray, List.length_cons, List.length_nil, List.drop_zero, Nat.zero_mul, Nat.one_mul, Nat.mul_one, List.drop_succ_cons, List.take_succ_cons, List.take_zero, if_true]
    simp only [trod_int_mk (enc := enc) (w := W') (base := base') (spare := sp') (held := held') m he w0, trod_int_mk (enc := enc) (w := W') (base := base') (spare := sp') (held := held') m he w1, trod_int_mk (enc := enc) (w := W') (base := base') (spare := sp') (held := held') m he w2, trod_int_mk (enc := enc) (w := W') (base := base') (spare := sp') (held := held') m he w3]
    rfl
end
end Go.Sx
