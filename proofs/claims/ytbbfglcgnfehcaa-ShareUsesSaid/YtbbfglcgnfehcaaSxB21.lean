/- Plain laws of layer 03: a product by one of its numbers; a quotient times its divisor, and what is left. -/
import Derived.Test.YtbbfglcgnfehcaaSxB20
set_option linter.unusedVariables false
set_option linter.unusedSimpArgs false
namespace Go.Sx
theorem wNar_in {w : Int} (h : R4 w) : wNar w = (w, 0) := if_pos h.2
theorem wMulDiv_back {a b : Int} (ha : R4 a) (hb : ¬ b = 0) : wMulDiv a b b = (a, 0) := by
  unfold wMulDiv
  rw [if_neg hb, Int.mul_ediv_cancel _ hb, wNar_in ha]
theorem wMulDivUp_back {a b : Int} (ha : R4 a) (hb : ¬ b = 0) : wMulDivUp a b b = (a, 0) := by
  unfold wMulDivUp
  rw [if_neg hb, if_pos (Or.inr (Int.mul_emod_left _ _)), Int.mul_ediv_cancel _ hb, wNar_in ha]
theorem div_le_of {a b : Int} (hb : 0 < b) : a / b * b + a % b = a ∧ 0 ≤ a % b ∧ a % b < b := by
  have := Int.mul_ediv_add_emod a b
  rw [Int.mul_comm] at this
  exact ⟨this, Int.emod_nonneg _ (by omega), Int.emod_lt_of_pos _ hb⟩
theorem hMul_back {a b : Int} (ha : R4 a) (hb : 0 < b) : hMul (a / b) b = (a / b * b, 0) := by
  obtain ⟨h1, h2, h3⟩ := div_le_of (a := a) hb
  unfold hMul; rw [if_pos (by have := ha.2; omega)]
theorem hAdd_back {a b : Int} (ha : R4 a) (hb : 0 < b) : hAdd (a / b * b) (a % b) = (a, 0) := by
  obtain ⟨h1, h2, h3⟩ := div_le_of (a := a) hb
  unfold hAdd; rw [h1, if_pos ha.2]
theorem hCmp_back {a b : Int} (hb : 0 < b) : decide (hCmp (a % b) b < 0) = true := by
  obtain ⟨h1, h2, h3⟩ := div_le_of (a := a) hb
  unfold hCmp; rw [if_pos h3]; rfl
theorem rem_R4 {p d : Int} (h : R4 d) (hd : 0 < d) : R4 (p % d) := ⟨Int.emod_nonneg _ (by omega), Int.lt_trans (Int.emod_lt_of_pos _ hd) h.2⟩
end Go.Sx
