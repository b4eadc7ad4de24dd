/- Plain laws: limbs moved up. -/
import Derived.Test.YtohkmdnelbajiaaDoorSxB6
set_option linter.unusedVariables false
set_option linter.unusedSimpArgs false
namespace Go.Sx
theorem emod_mul {x p q : Int} (hpq : p * q = 18446744073709551616) : x * p % 18446744073709551616 = (x - q * (x * p / 18446744073709551616)) * p := by
  have e : 18446744073709551616 * (x * p / 18446744073709551616) = q * (x * p / 18446744073709551616) * p := by
    rw [← hpq, Int.mul_right_comm q _ p, Int.mul_comm q p]
  rw [Int.sub_mul, ← e]; omega
theorem up_core {m p q f : Int} (hp : 0 < p) (hq : 0 < q) (hpq : p * q = 18446744073709551616) (f0 : 0 ≤ f) (f1 : f < p) :
    (m * p + f) / 18446744073709551616 % 18446744073709551616 = m / 18446744073709551616 % 18446744073709551616 * p % 18446744073709551616 + m % 18446744073709551616 / q := by
  obtain ⟨h, hh⟩ : ∃ h, h = m / 18446744073709551616 := ⟨_, rfl⟩
  obtain ⟨l, hl⟩ : ∃ l, l = m % 18446744073709551616 := ⟨_, rfl⟩
  obtain ⟨x, hx⟩ : ∃ x, x = h % 18446744073709551616 := ⟨_, rfl⟩
  obtain ⟨l1, hl1⟩ : ∃ l1, l1 = l / q := ⟨_, rfl⟩
  obtain ⟨l0, hl0⟩ : ∃ l0, l0 = l % q := ⟨_, rfl⟩
  rw [← hh, ← hl, ← hx, ← hl1]
  have e1 : l = q * l1 + l0 := by rw [hl1, hl0]; exact (Int.mul_ediv_add_emod l q).symm
  have a0 : 0 ≤ l0 := by rw [hl0]; exact Int.emod_nonneg _ (by omega)
  have a1 : l0 < q := by rw [hl0]; exact Int.emod_lt_of_pos _ hq
  have b0 : 0 ≤ l1 := by rw [hl1]; exact Int.ediv_nonneg (by omega) (by omega)
  have b1 : l1 < p := by rw [hl1, Int.ediv_lt_iff_lt_mul hq, hpq]; omega
  have c0 : 0 ≤ l0 * p := Int.mul_nonneg a0 (by omega)
  have c1 : (l0 + 1) * p ≤ q * p := Int.mul_le_mul_of_nonneg_right (by omega) (by omega)
  rw [Int.add_mul, Int.mul_comm q p, hpq] at c1
  have em : m = 18446744073709551616 * h + l := by omega
  have e2 : m * p + f = 18446744073709551616 * (h * p + l1) + (l0 * p + f) := by
    rw [em, e1, ← hpq]
    simp only [Int.mul_add, Int.mul_comm, Int.mul_left_comm]; omega
  have e3 : (m * p + f) / 18446744073709551616 = h * p + l1 := by rw [e2]; omega
  rw [e3]
  have e4 : h = 18446744073709551616 * (h / 18446744073709551616) + x := by omega
  have e5 : h * p = 18446744073709551616 * (h / 18446744073709551616 * p) + x * p := by
    conv => lhs; rw [e4]
    rw [Int.add_mul, Int.mul_assoc]
  obtain ⟨c, hc⟩ : ∃ c, c = x * p / 18446744073709551616 := ⟨_, rfl⟩
  have e6 : x * p = 18446744073709551616 * c + x * p % 18446744073709551616 := by omega
  have e7 : x * p % 18446744073709551616 = (x - q * c) * p := by
    rw [hc]; exact emod_mul hpq
  have r0 : 0 ≤ x * p % 18446744073709551616 := by omega
  have r1 : x * p % 18446744073709551616 < 18446744073709551616 := by omega
  have e8 : x - q * c < q := by
    rcases Int.lt_or_le (x - q * c) q with h | h
    · exact h
    · have := Int.mul_le_mul_of_nonneg_right h (by omega : 0 ≤ p)
      rw [Int.mul_comm q p, hpq] at this; omega
  have e9 : (x - q * c + 1) * p ≤ q * p := Int.mul_le_mul_of_nonneg_right (by omega) (by omega)
  rw [Int.add_mul, Int.mul_comm q p, hpq] at e9
  rw [e5]; omega
theorem pw2 {s : Int} (h0 : 0 ≤ s) (h1 : s ≤ 63) : (2 : Int) ^ s.toNat * 2 ^ (64 - s).toNat = 18446744073709551616 := by
  rw [← Int.pow_add, show s.toNat + (64 - s).toNat = 64 from by omega]; rfl
theorem up_lim {n s : Int} (h0 : 0 ≤ s) (h1 : s ≤ 63) (i : Nat) :
    lim (n * 2 ^ s.toNat) (i + 1) = lim n (i + 1) * 2 ^ s.toNat % 18446744073709551616 + lim n i / 2 ^ (64 - s).toNat := by
  have hp := pw_pos s.toNat
  have hq := pw_pos (64 - s).toNat
  have hpq := pw2 h0 h1
  generalize (2 : Int) ^ s.toNat = p at *
  generalize (2 : Int) ^ (64 - s).toNat = q at *
  obtain ⟨b, hb⟩ : ∃ b, b = (18446744073709551616 : Int) ^ i := ⟨_, rfl⟩
  have hb0 : 0 < b := by rw [hb]; exact Int.pow_pos (by decide)
  unfold lim
  rw [Int.pow_succ, ← hb]
  obtain ⟨m, hm⟩ : ∃ m, m = n / b := ⟨_, rfl⟩
  have hn : n = b * m + n % b := by rw [hm]; exact (Int.mul_ediv_add_emod n b).symm
  have l0 : 0 ≤ n % b := Int.emod_nonneg _ (by omega)
  have l1 : n % b < b := Int.emod_lt_of_pos _ hb0
  have e1 : n * p / b = m * p + n % b * p / b := by
    conv => lhs; rw [hn]
    rw [Int.add_mul, Int.mul_assoc, Int.add_comm, Int.add_mul_ediv_left _ _ (by omega), Int.add_comm]
  have f0 : 0 ≤ n % b * p / b := Int.ediv_nonneg (Int.mul_nonneg l0 (by omega)) (by omega)
  have f1 : n % b * p / b < p := by
    rw [Int.ediv_lt_iff_lt_mul hb0, Int.mul_comm p b]
    exact (Int.mul_lt_mul_right hp).2 l1
  rw [← Int.ediv_ediv_of_nonneg (by omega : 0 ≤ b), ← Int.ediv_ediv_of_nonneg (by omega : 0 ≤ b), e1, ← hm]
  exact up_core hp hq hpq f0 f1
theorem up_or {x l s : Int} (h0 : 0 ≤ s) (h1 : s ≤ 63) (hx : W x) (hl : W l) :
    IntKind.u64.wrap (((BitVec.ofInt 64 (IntKind.u64.wrap (x * 2 ^ (min (Int.toNat s) 64))) ||| BitVec.ofInt 64 (Int.fdiv l (2 ^ (min (Int.toNat (64 - s)) 64))) : BitVec 64).toNat : Nat) : Int) = x * 2 ^ s.toNat % 18446744073709551616 + l / 2 ^ (64 - s).toNat := by
  have m1 : min (Int.toNat s) 64 = s.toNat := Nat.min_eq_left (by omega)
  have m2 : min (Int.toNat (64 - s)) 64 = (64 - s).toNat := Nat.min_eq_left (by omega)
  rw [m1, m2, wrap_u64 (x * 2 ^ s.toNat)]
  have hp := pw_pos s.toNat
  have hq := pw_pos (64 - s).toNat
  have hpq := pw2 h0 h1
  rw [Int.fdiv_eq_ediv_of_nonneg _ (by omega)]
  have e := emod_mul (x := x) hpq
  have r0 : 0 ≤ x * 2 ^ s.toNat % 18446744073709551616 := Int.emod_nonneg _ (by decide)
  have r1 : x * 2 ^ s.toNat % 18446744073709551616 < 18446744073709551616 := Int.emod_lt_of_pos _ (by decide)
  have b0 : 0 ≤ l / 2 ^ (64 - s).toNat := Int.ediv_nonneg hl.1 (by omega)
  have b1 : l / 2 ^ (64 - s).toNat < 2 ^ s.toNat := by rw [Int.ediv_lt_iff_lt_mul hq, hpq]; exact hl.2
  rw [e] at r0 r1 ⊢
  have hc : 0 ≤ x - 2 ^ (64 - s).toNat * (x * 2 ^ s.toNat / 18446744073709551616) := by
    rcases Int.lt_or_le (x - 2 ^ (64 - s).toNat * (x * 2 ^ s.toNat / 18446744073709551616)) 0 with h | h
    · have := Int.mul_neg_of_neg_of_pos h hp
      omega
    · exact h
  exact bor_add s.toNat (by omega) hc b0 b1 r1
end Go.Sx
