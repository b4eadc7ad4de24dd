/- From a contract to a statement, where arguments lie in memory. -/
import Derived.Test.YtohkmdnelbajiaaDoorSxD2
import Derived.Carry
set_option linter.unusedVariables false
set_option linter.unusedSimpArgs false
namespace Go.Sx
open Go.RowKit Go.ChangeShapes Go.WideShapes
section
variable {H : Type} {enc : TypeId × Value → H} {P : Program}
theorem slice_cells {t e : TypeId} {W : World} {r : Reach} {b0 : Nat} {v : Value} (hu : P.underlying t = some (.slice e)) (hval : Value.okWide P W r b0 t v) : v.cells = #[v] := by
  cases v <;> simp [Value.okWide, hu] at hval <;> first | rfl | simp [Cell.okWide, Cell.ok, hu] at hval
theorem below_trodAll {W W' : World} (hl : laidOutB P = true) : ∀ {ts : List TypeId} {vs : List Value} {ds : List (DataW H)} {ps : List MemPlace}, (∀ t ∈ ts, P.readableRec t = true ∧ t < P.types.size) →
    DataW.TrodAll enc P W 0 (fun _ => true) true ts vs ds ps → Below W.heap.size W W' → (∀ x ∈ ps, x.block < W.heap.size) → DataW.TrodAll enc P W' 0 (fun b => decide (b < W.heap.size)) true ts vs ds ps
  | [], vs, ds, ps, _, h, _, _ => by
    obtain ⟨rfl, rfl, rfl⟩ := trodAll_nil h
    exact rfl
  | t :: ts, vs, ds, ps, ht, h, hb, hlt => by
    obtain ⟨v, vs', d, ds', p, q, rfl, rfl, rfl, hd, hr⟩ := trodAll_cons h
    obtain ⟨h1, h2⟩ := ht t (List.mem_cons_self ..)
    exact ⟨p, q, Below.trod hl h1 h2 hd hb (fun x hx => hlt x (List.mem_append_left _ hx)), below_trodAll hl (fun t' h' => ht t' (List.mem_cons_of_mem _ h')) hr hb (fun x hx => hlt x (List.mem_append_right _ hx)), rfl⟩
theorem post_of_below2 {f : Func} {s : ChangeSpec} {apart fresh handsOn : Bool} {W W' : World} {args : Array Value} {v : Value} {ds gs : List (DataW H)} {before : List MemPlace} (hl : laidOutB P = true) (ht : ∀ t ∈ f.params.toList, P.readableRec t = true ∧ t < P.types.size)
    (hW : DataW.Whole enc P f.params.toList s.vars apart W args.toList ds gs before)
    (hres : ∀ (b : Nat) (sp : Nat → Bool) (hd : Bool), DataW.TrodAll enc P W' b sp hd f.resultTypes.toList (v.resultList f.resultTypes.size) (s.fn H (ds ++ gs)).results [])
    (hvars : s.vars = []) (hargs : (s.fn H (ds ++ gs)).args = ds) (hvs : (s.fn H (ds ++ gs)).vars = []) (hb : Below W.heap.size W W') :
    s.post enc P f apart fresh handsOn false W args v W' := by
  have hlt := hW.lt
  have hW0 := hW
  obtain ⟨p, q, hA, hV, rfl, hz, hn⟩ := hW0
  rw [hvars] at hV
  obtain ⟨rfl, rfl⟩ := trodVars_none hV
  refine ⟨ds, [], _, [], p, [], hW, hres _ _ _, ?_, ?_, World.keptBut_mono (fun x hx => ⟨hx, ?_⟩) (hb.frame (· ∈ p ++ [])), fun h => by cases h⟩
  · rw [hargs]
    exact below_trodAll hl ht hA hb (fun x hx => hlt x (List.mem_append_left _ hx))
  · rw [hvars, hvs]; exact rfl
  · simp at hx; exact Or.inr (Or.inl hx)
end
end Go.Sx
