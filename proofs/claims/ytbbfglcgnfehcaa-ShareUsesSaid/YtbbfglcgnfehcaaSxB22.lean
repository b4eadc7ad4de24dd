/- Plain laws of layer 16 (shares): what is bought, what is paid. -/
import Derived.Test.YtbbfglcgnfehcaaSxB21
set_option linter.unusedVariables false
set_option linter.unusedSimpArgs false
namespace Go.Sx
theorem hAdd_cases {a b : Int} {x : Int × Int} (h : x = hAdd a b) : (x.2 = 0 ∧ x.1 = a + b ∧ a + b < 115792089237316195423570985008687907853269984665640564039457584007913129639936) ∨ (x.2 = 2 ∧ x.1 = 0 ∧ 115792089237316195423570985008687907853269984665640564039457584007913129639936 ≤ a + b) := by
  subst h; unfold hAdd; split
  · exact .inl ⟨rfl, rfl, by assumption⟩
  · exact .inr ⟨rfl, rfl, by omega⟩
theorem hSub_cases {a b : Int} {x : Int × Int} (h : x = hSub a b) : (x.2 = 0 ∧ x.1 = a - b ∧ b ≤ a) ∨ (x.2 = 2 ∧ x.1 = 0 ∧ a < b) := by
  subst h; unfold hSub; split
  · exact .inl ⟨rfl, rfl, by assumption⟩
  · exact .inr ⟨rfl, rfl, by omega⟩
theorem wMulDiv_cases {a b d : Int} {x : Int × Int} (h : x = wMulDiv a b d) (hd : 0 < d) : (x.2 = 0 ∧ x.1 = a * b / d ∧ a * b / d < 115792089237316195423570985008687907853269984665640564039457584007913129639936) ∨ (x.2 = 2 ∧ x.1 = 0 ∧ 115792089237316195423570985008687907853269984665640564039457584007913129639936 ≤ a * b / d) := by
  subst h; unfold wMulDiv wNar
  rw [if_neg (by omega)]; split
  · exact .inl ⟨rfl, rfl, by assumption⟩
  · exact .inr ⟨rfl, rfl, by omega⟩
theorem hCmp_pos {a b : Int} : (0 < hCmp a b) = (b < a) := by
  unfold hCmp; apply propext; constructor
  · intro h; split at h
    · omega
    · split at h <;> omega
  · intro h; rw [if_neg (by omega), if_pos h]; decide
theorem hCmp_neg {a b : Int} : (hCmp a b < 0) = (a < b) := by
  unfold hCmp; apply propext; constructor
  · intro h; split at h
    · assumption
    · split at h <;> omega
  · intro h; rw [if_pos h]; decide
theorem hCmp_le0 {a b : Int} : (hCmp a b ≤ 0) = (a ≤ b) := by
  have h : (hCmp a b ≤ 0) = ¬ (0 < hCmp a b) := by apply propext; omega
  rw [h, hCmp_pos]; apply propext; omega
theorem hCmp_ge0 {a b : Int} : (0 ≤ hCmp a b) = (b ≤ a) := by
  have h : (0 ≤ hCmp a b) = ¬ (hCmp a b < 0) := by apply propext; omega
  rw [h, hCmp_neg]; apply propext; omega
theorem hCmp_split {a b c : Int} (h : c = hCmp a b) : (0 < c ↔ b < a) ∧ (c < 0 ↔ a < b) := by subst h; rw [hCmp_pos, hCmp_neg]; exact ⟨Iff.rfl, Iff.rfl⟩
theorem hCmp_z {a b : Int} : (hCmp a b = 0) = (a = b) := by
  apply propext; constructor
  · intro h
    have h1 : ¬ (0 < hCmp a b) := by omega
    have h2 : ¬ (hCmp a b < 0) := by omega
    rw [hCmp_pos] at h1; rw [hCmp_neg] at h2; omega
  · intro h; exact (hCmp_eq h).symm
/-- Rows of at most 16 digits are the numbers of 256 bits. -/
theorem canon16 {l : List Int} (hd : Dig l) (hc : Canon l) : l.length ≤ 16 ↔ nv l < 115792089237316195423570985008687907853269984665640564039457584007913129639936 := by
  constructor
  · intro h; exact Int.lt_of_lt_of_le (nv_lt hd) (Int.le_trans (P16_mono h) (by decide))
  · intro h; exact canon_len hd hc (by rw [show P16 16 = 115792089237316195423570985008687907853269984665640564039457584007913129639936 from rfl]; exact h)
def sMore (a b : Int) : Int × Int × Int := ((hAdd a 1).1, (hAdd b 1).1, if (hAdd b 1).2 > (hAdd a 1).2 then (hAdd b 1).2 else (hAdd a 1).2)
theorem sMore_R {a b : Int} (ha : R4 a) (hb : R4 b) : R4 (sMore a b).1 ∧ R4 (sMore a b).2.1 := ⟨hAdd_R ha R4_one, hAdd_R hb R4_one⟩
theorem sMore_cases {a b : Int} {x : Int × Int × Int} (h : x = sMore a b) :
    (x.2.2 = 0 ∧ x.1 = a + 1 ∧ x.2.1 = b + 1 ∧ a + 1 < 115792089237316195423570985008687907853269984665640564039457584007913129639936 ∧ b + 1 < 115792089237316195423570985008687907853269984665640564039457584007913129639936) ∨
    (x.2.2 = 2 ∧ (115792089237316195423570985008687907853269984665640564039457584007913129639936 ≤ a + 1 ∨ 115792089237316195423570985008687907853269984665640564039457584007913129639936 ≤ b + 1)) := by
  subst h
  rcases hAdd_cases (a := a) (b := 1) rfl with ⟨h1, h2, h3⟩ | ⟨h1, h2, h3⟩ <;> rcases hAdd_cases (a := b) (b := 1) rfl with ⟨k1, k2, k3⟩ | ⟨k1, k2, k3⟩
  · refine .inl ⟨?_, h2, k2, h3, k3⟩; simp only [sMore, h1, k1]; rfl
  · refine .inr ⟨?_, .inr k3⟩; simp only [sMore, h1, k1]; rfl
  · refine .inr ⟨?_, .inl h3⟩; simp only [sMore, h1, k1]; rfl
  · refine .inr ⟨?_, .inl h3⟩; simp only [sMore, h1, k1]; rfl
def sIn (A S n : Int) : Int × Int :=
  if n = 0 then (0, 3) else
  if 115792089237316195423570985008687907853269984665640564039457584007913129639936 ≤ A + 1 ∨ 115792089237316195423570985008687907853269984665640564039457584007913129639936 ≤ S + 1 then (0, 2) else
  if 115792089237316195423570985008687907853269984665640564039457584007913129639936 ≤ n * (S + 1) / (A + 1) then (0, 2) else
  if n * (S + 1) / (A + 1) = 0 then (0, 3) else
  if 115792089237316195423570985008687907853269984665640564039457584007913129639936 ≤ A + n ∨ 115792089237316195423570985008687907853269984665640564039457584007913129639936 ≤ S + n * (S + 1) / (A + 1) then (0, 2) else
  (n * (S + 1) / (A + 1), 0)
def sOut (A S s : Int) : Int × Int :=
  if s = 0 then (0, 3) else if S < s then (0, 8) else
  if 115792089237316195423570985008687907853269984665640564039457584007913129639936 ≤ A + 1 ∨ 115792089237316195423570985008687907853269984665640564039457584007913129639936 ≤ S + 1 then (0, 2) else
  if 115792089237316195423570985008687907853269984665640564039457584007913129639936 ≤ s * (A + 1) / (S + 1) then (0, 2) else
  if A < s * (A + 1) / (S + 1) then (0, 8) else
  (s * (A + 1) / (S + 1), 0)
theorem quo_nonneg {n p q : Int} (h0 : 0 ≤ n) (h1 : 0 ≤ p) (h2 : 0 ≤ q) : 0 ≤ n * (p + 1) / (q + 1) := Int.ediv_nonneg (Int.mul_nonneg h0 (by omega)) (by omega)
theorem sIn_R {A S n : Int} (hA : R4 A) (hS : R4 S) (hn : R4 n) : R4 (sIn A S n).1 := by
  have := quo_nonneg hn.1 hS.1 hA.1
  unfold sIn R4
  (repeat' split) <;> dsimp only <;> omega
theorem sOut_R {A S n : Int} (hA : R4 A) (hS : R4 S) (hn : R4 n) : R4 (sOut A S n).1 := by
  have := quo_nonneg hn.1 hA.1 hS.1
  unfold sOut R4
  (repeat' split) <;> dsimp only <;> omega
theorem sIn_cases {A S n : Int} {x : Int × Int} (h : x = sIn A S n) :
    (x.2 = 0 ∧ x.1 = n * (S + 1) / (A + 1) ∧ x.1 ≠ 0 ∧ n ≠ 0 ∧ A + n < 115792089237316195423570985008687907853269984665640564039457584007913129639936 ∧ S + x.1 < 115792089237316195423570985008687907853269984665640564039457584007913129639936) ∨ (x.2 ≠ 0 ∧ x.1 = 0) := by
  subst h; unfold sIn
  (repeat' split) <;> first
    | exact .inr ⟨by decide, rfl⟩
    | (refine .inl ⟨rfl, rfl, ?_, ?_, ?_, ?_⟩ <;> (try dsimp only) <;> omega)
theorem sOut_cases {A S n : Int} {x : Int × Int} (h : x = sOut A S n) :
    (x.2 = 0 ∧ x.1 = n * (A + 1) / (S + 1) ∧ n ≤ S ∧ n ≠ 0 ∧ x.1 ≤ A) ∨ (x.2 ≠ 0 ∧ x.1 = 0 ∧ (x.2 = 2 ∨ n = 0 ∨ S < n ∨ A < n * (A + 1) / (S + 1))) := by
  subst h; unfold sOut
  (repeat' split) <;> first
    | (refine .inr ⟨by decide, rfl, ?_⟩; dsimp only; omega)
    | (refine .inl ⟨rfl, rfl, ?_, ?_, ?_⟩ <;> (try dsimp only) <;> omega)
/-- What shares are worth at once is no more than they cost. -/
theorem share_back {A S n s : Int} (hA : 0 ≤ A) (hS : 0 ≤ S) (hn : 0 ≤ n) (hs : s = n * (S + 1) / (A + 1)) : 0 ≤ s ∧ s * (A + n + 1) / (S + s + 1) ≤ n ∧ s * (A + n + 1) / (S + s + 1) ≤ A + n := by
  have h0 : 0 ≤ s := by rw [hs]; exact quo_nonneg hn hS hA
  have h1 : s * (A + 1) ≤ n * (S + 1) := by rw [hs]; exact Int.ediv_mul_le _ (by omega)
  have h2 : s * (A + n + 1) ≤ n * (S + s + 1) := by
    have e1 : s * (A + n + 1) = s * (A + 1) + s * n := by rw [← Int.mul_add]; congr 1; omega
    have e2 : n * (S + s + 1) = n * (S + 1) + s * n := by rw [Int.mul_comm s n, ← Int.mul_add]; congr 1; omega
    omega
  refine ⟨h0, ?_, ?_⟩
  · have := Int.ediv_le_ediv (by omega : 0 < S + s + 1) h2
    rwa [Int.mul_ediv_cancel _ (by omega : S + s + 1 ≠ 0)] at this
  · refine Int.lt_add_one_iff.1 (Int.ediv_lt_of_lt_mul (by omega) ?_)
    have e1 : (A + n + 1) * (S + s + 1) = s * (A + n + 1) + (A + n + 1) * (S + 1) := by rw [Int.mul_comm s, ← Int.mul_add]; congr 1; omega
    have e2 : 0 < (A + n + 1) * (S + 1) := Int.mul_pos (by omega) (by omega)
    omega
theorem R48 {n : Int} (h : R4 n) : R8 n := by unfold R4 at h; unfold R8; omega
theorem wit_one {n : Int} (h : R4 n) : ∃ x : Row, (fun zx => RowOK zx ∧ nv (dg zx) = n + 1 ∧ Canon (dg zx) ∧ (dg zx).length ≤ 65) x := by
  obtain ⟨x, h1, h2, h3⟩ := wit_row (n := n + 1) (by have := h.1; omega)
  exact ⟨x, h1, h2, h3, len41 h1.dig h3 h2 (R48 h)⟩
end Go.Sx
