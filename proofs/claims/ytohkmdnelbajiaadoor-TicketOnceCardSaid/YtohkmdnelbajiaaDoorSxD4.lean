/- Fields of structs in the caller's memory. -/
import Derived.Test.YtohkmdnelbajiaaDoorSxD3
set_option linter.unusedVariables false
set_option linter.unusedSimpArgs false
namespace Go.Sx
open Go
theorem trod_field {H : Type} {enc : TypeId × Value → H} {P : Program} {w : World} {base : Nat} {sp : Nat → Bool} {held : Bool} {fs : Array Field} {cs : List Value} {xs : List (DataW H × List MemPlace)} {n : Nat} (hlen : xs.length = fs.size)
    (hf : ∀ (i : Nat) (f : Field), fs[i]? = some f → DataW.trod enc P w base sp held n f.type ((cs.drop f.offset).take (P.cellsOf f.type)) = xs[i]?) (i : Nat) {f : Field} (h : fs[i]? = some f) {t off k : Nat} (ht : f.type = t) (ho : f.offset = off) (hk : P.cellsOf t = k) :
    ∃ y, DataW.trod enc P w base sp held n t ((cs.drop off).take k) = some y := by
  have hi : i < fs.size := by
    rcases Nat.lt_or_ge i fs.size with q | q
    · exact q
    · rw [Array.getElem?_eq_none q] at h; cases h
  have g := hf i f h
  rw [ht, ho, hk, List.getElem?_eq_getElem (by omega)] at g
  exact ⟨_, g⟩
end Go.Sx
