/- Plain laws of layer 16: a pool with no more shares than assets stays so. -/
import Derived.Test.YtbbfglcgnfehcaaSxB22
import Derived.Test.YtbbfglcgnfehcaaSxD1
set_option linter.unusedVariables false
set_option linter.unusedSimpArgs false
namespace Go.Sx
theorem share_all {A S : Int} (hA : 0 ≤ A) (hS : 0 ≤ S) : S * (A + 1) / (S + 1) ≤ A := by
  refine Int.lt_add_one_iff.1 (Int.ediv_lt_of_lt_mul (by omega) ?_)
  have e : (A + 1) * (S + 1) = S * (A + 1) + (A + 1) := by rw [Int.mul_add, Int.mul_one, Int.mul_comm]
  omega
/-- What is bought. -/
theorem keep_in {A S n s : Int} (hA : 0 ≤ A) (hS : 0 ≤ S) (hn : 0 ≤ n) (hle : S ≤ A) (hs : s = n * (S + 1) / (A + 1)) :
    0 ≤ s ∧ S + s ≤ A + n ∧ (A + 1) * (S + s + 1) ≤ (A + n + 1) * (S + 1) := by
  have h0 : 0 ≤ s := by rw [hs]; exact quo_nonneg hn hS hA
  have h1 : s * (A + 1) ≤ n * (S + 1) := by rw [hs]; exact Int.ediv_mul_le _ (by omega)
  have h2 : s ≤ n := by
    have : n * (S + 1) ≤ n * (A + 1) := Int.mul_le_mul_of_nonneg_left (by omega) hn
    have := Int.ediv_le_ediv (by omega : 0 < A + 1) this
    rw [Int.mul_ediv_cancel _ (by omega : A + 1 ≠ 0)] at this
    omega
  refine ⟨h0, by omega, ?_⟩
  have e1 : (A + 1) * (S + s + 1) = (A + 1) * (S + 1) + s * (A + 1) := by rw [Int.mul_comm s, ← Int.mul_add]; congr 1; omega
  have e2 : (A + n + 1) * (S + 1) = (A + 1) * (S + 1) + n * (S + 1) := by rw [← Int.add_mul]; congr 1; omega
  omega
/-- What is paid out. -/
theorem keep_out {A S n p : Int} (hA : 0 ≤ A) (hS : 0 ≤ S) (hn : 0 ≤ n) (hle : S ≤ A) (hnS : n ≤ S) (hp : p = n * (A + 1) / (S + 1)) :
    0 ≤ p ∧ S - n ≤ A - p ∧ (A + 1) * (S - n + 1) ≤ (A - p + 1) * (S + 1) := by
  have h0 : 0 ≤ p := by rw [hp]; exact quo_nonneg hn hA hS
  have h1 : p * (S + 1) ≤ n * (A + 1) := by rw [hp]; exact Int.ediv_mul_le _ (by omega)
  refine ⟨h0, ?_, ?_⟩
  · have h2 : n * (A - S) ≤ (S + 1) * (A - S) := Int.mul_le_mul_of_nonneg_right (by omega) (by omega)
    have e1 : n * (A + 1) = n * (A - S) + n * (S + 1) := by rw [← Int.mul_add]; congr 1; omega
    have e2 : (S + 1) * (A - S) = (A - S) * (S + 1) := Int.mul_comm _ _
    have e3 : (A - S + n) * (S + 1) = (A - S) * (S + 1) + n * (S + 1) := Int.add_mul ..
    have h3 : p * (S + 1) ≤ (A - S + n) * (S + 1) := by omega
    have := Int.le_of_mul_le_mul_right h3 (by omega)
    omega
  · have e1 : (A - p + 1) * (S + 1) = (A + 1) * (S + 1) - p * (S + 1) := by rw [← Int.sub_mul]; congr 1; omega
    have e2 : (A + 1) * (S - n + 1) = (A + 1) * (S + 1) - n * (A + 1) := by rw [Int.mul_comm n, ← Int.mul_sub]; congr 1; omega
    omega
theorem wit_one' {n : Int} (h : R4 n) : ∃ x : Row, (fun zx => RowOK zx ∧ nv (dg zx) = n + 1 ∧ Canon (dg zx) ∧ (dg zx).length ≤ 65) x := wit_one h
theorem len_one {l : List Int} {a b : Int} (hd : Dig l) (hc : Canon l) (hn : nv l = (a + 1) * (b + 1)) (ha : R4 a) (hb : R4 b) : l.length ≤ 64 := by
  refine canon_len hd hc ?_
  rw [hn]
  have h1 : (a + 1) * (b + 1) ≤ 115792089237316195423570985008687907853269984665640564039457584007913129639936 * 115792089237316195423570985008687907853269984665640564039457584007913129639936 :=
    Int.mul_le_mul (by have := ha.2; omega) (by have := hb.2; omega) (by have := hb.1; omega) (by decide)
  refine Int.lt_of_le_of_lt h1 ?_
  decide
end Go.Sx
