/- Structs as arguments, by value. -/
import Derived.Test.YtohkmdnelbajiaaDoorSxD3
set_option linter.unusedVariables false
set_option linter.unusedSimpArgs false
namespace Go.Sx
open Go.RowKit Go.ChangeShapes Go.WideShapes
theorem open_val {H : Type} {enc : TypeId × Value → H} {P : Program} {X : Type} {val : X → Value} {Ok : X → Prop} {t : TypeId} {n : Nat} (O : Opens P t n val Ok) (hk : P.cellsOf t = n) (hagg : ∀ x, ∃ cs, val x = .agg cs) {fs : Array Field} (ht : P.underlying t = some (.struct fs))
    {W : World} {r : Reach} {b0 : Nat} {sp : Nat → Bool} {held : Bool} {base : Nat} {v : Value} {d : DataW H} {ps : List MemPlace} (hv : Value.okWide P W r b0 t v) (hd : DataW.Trod enc P W base sp held t v d ps) : ∃ x, v = val x ∧ Ok x := by
  obtain ⟨cs, rfl, hs⟩ := okWide_struct ht hv
  obtain ⟨fuel, hf⟩ := hd
  have hf' : DataW.trod enc P W base sp held fuel t cs.toList = some (d, ps) := hf
  obtain ⟨x, hx, hok⟩ := O _ _ _ _ _ _ _ _ _ (by simp [hs, hk]) hf'
  refine ⟨x, ?_, hok⟩
  obtain ⟨cs', hc⟩ := hagg x
  rw [hc] at hx ⊢
  have : cs = cs' := Array.toList_inj.1 hx
  rw [this]
end Go.Sx
