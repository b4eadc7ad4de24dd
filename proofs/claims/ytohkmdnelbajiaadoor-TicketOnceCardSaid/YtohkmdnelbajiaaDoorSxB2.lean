/- Plain laws on numbers of 64 bits: products, and quotients digit by digit. -/
import Derived.Test.YtohkmdnelbajiaaDoorSxB1
set_option linter.unusedVariables false
set_option linter.unusedSimpArgs false
namespace Go.Sx
theorem mul_le_of {a b m n : Int} (ha0 : 0 ≤ a) (ha : a ≤ m) (hb0 : 0 ≤ b) (hb : b ≤ n) : 0 ≤ a * b ∧ a * b ≤ m * n := by
  refine ⟨Int.mul_nonneg ha0 hb0, ?_⟩
  exact Int.mul_le_mul ha hb hb0 (by omega)
theorem quo_u64 {a c : Int} (ha : W a) (hc : 0 < c) : IntKind.u64.wrap (Int.tdiv a c) = a / c := by
  have h1 : 0 ≤ a / c := Int.ediv_nonneg ha.1 (by omega)
  have h2 : a / c ≤ a := Int.ediv_le_self c ha.1
  have h3 := ha.2
  rw [wrap_u64, tdiv_nat ha.1]; omega
theorem wrap_W {a : Int} (h : W a) : IntKind.u64.wrap a = a := by
  obtain ⟨h1, h2⟩ := h
  rw [wrap_u64]; omega
theorem mul_fin {a b : Int} (ha : W a) (hb : W b) : MulR a b
    (IntKind.u64.wrap ((IntKind.u64.wrap ((IntKind.u64.wrap ((IntKind.u64.wrap (Int.tdiv a 4294967296)) * (IntKind.u64.wrap (Int.tdiv b 4294967296)))) + (IntKind.u64.wrap (Int.tdiv (IntKind.u64.wrap ((IntKind.u64.wrap ((IntKind.u64.wrap (Int.tdiv a 4294967296)) * (Int.tmod b 4294967296))) + (IntKind.u64.wrap (Int.tdiv (IntKind.u64.wrap ((Int.tmod a 4294967296) * (Int.tmod b 4294967296))) 4294967296)))) 4294967296)))) + (IntKind.u64.wrap (Int.tdiv (IntKind.u64.wrap ((IntKind.u64.wrap ((Int.tmod a 4294967296) * (IntKind.u64.wrap (Int.tdiv b 4294967296)))) + (Int.tmod (IntKind.u64.wrap ((IntKind.u64.wrap ((IntKind.u64.wrap (Int.tdiv a 4294967296)) * (Int.tmod b 4294967296))) + (IntKind.u64.wrap (Int.tdiv (IntKind.u64.wrap ((Int.tmod a 4294967296) * (Int.tmod b 4294967296))) 4294967296)))) 4294967296))) 4294967296))))
    (IntKind.u64.wrap (a * b)) := by
  rw [quo_u64 ha (by decide), quo_u64 hb (by decide), tmod_nat ha.1, tmod_nat hb.1]
  obtain ⟨a1, ea1⟩ : ∃ x, x = a / 4294967296 := ⟨_, rfl⟩
  obtain ⟨a0, ea0⟩ : ∃ x, x = a % 4294967296 := ⟨_, rfl⟩
  obtain ⟨b1, eb1⟩ : ∃ x, x = b / 4294967296 := ⟨_, rfl⟩
  obtain ⟨b0, eb0⟩ : ∃ x, x = b % 4294967296 := ⟨_, rfl⟩
  rw [← ea1, ← ea0, ← eb1, ← eb0]
  unfold W at ha hb
  have ha' : a = a1 * 4294967296 + a0 := by omega
  have hb' : b = b1 * 4294967296 + b0 := by omega
  have hp := mul_le_of (a := a1) (b := b1) (m := 4294967295) (n := 4294967295) (by omega) (by omega) (by omega) (by omega)
  have hq := mul_le_of (a := a1) (b := b0) (m := 4294967295) (n := 4294967295) (by omega) (by omega) (by omega) (by omega)
  have hr := mul_le_of (a := a0) (b := b1) (m := 4294967295) (n := 4294967295) (by omega) (by omega) (by omega) (by omega)
  have hs := mul_le_of (a := a0) (b := b0) (m := 4294967295) (n := 4294967295) (by omega) (by omega) (by omega) (by omega)
  have hab : a * b = a1 * b1 * 18446744073709551616 + (a1 * b0 + a0 * b1) * 4294967296 + a0 * b0 := by
    rw [ha', hb']
    simp only [Int.add_mul, Int.mul_add]
    have e1 : a1 * 4294967296 * (b1 * 4294967296) = a1 * b1 * 18446744073709551616 := by
      rw [Int.mul_assoc, ← Int.mul_assoc 4294967296 b1, Int.mul_comm 4294967296 b1, Int.mul_assoc b1, ← Int.mul_assoc]; rfl
    have e2 : a1 * 4294967296 * b0 = a1 * b0 * 4294967296 := by rw [Int.mul_assoc, Int.mul_comm 4294967296 b0, ← Int.mul_assoc]
    have e3 : a0 * (b1 * 4294967296) = a0 * b1 * 4294967296 := by rw [← Int.mul_assoc]
    rw [e1, e2, e3]; omega
  generalize a1 * b1 = p at *
  generalize a1 * b0 = q at *
  generalize a0 * b1 = r at *
  generalize a0 * b0 = s at *
  have w1 : IntKind.u64.wrap s = s := wrap_W ⟨by omega, by omega⟩
  have w2 : IntKind.u64.wrap q = q := wrap_W ⟨by omega, by omega⟩
  have w3 : IntKind.u64.wrap r = r := wrap_W ⟨by omega, by omega⟩
  have w4 : IntKind.u64.wrap p = p := wrap_W ⟨by omega, by omega⟩
  rw [w1, w2, w3, w4, quo_u64 (a := s) ⟨by omega, by omega⟩ (by decide)]
  have w5 : IntKind.u64.wrap (q + s / 4294967296) = q + s / 4294967296 := wrap_W ⟨by omega, by omega⟩
  rw [w5, quo_u64 (a := q + s / 4294967296) ⟨by omega, by omega⟩ (by decide), tmod_nat (by omega)]
  have w6 : IntKind.u64.wrap (r + (q + s / 4294967296) % 4294967296) = r + (q + s / 4294967296) % 4294967296 := wrap_W ⟨by omega, by omega⟩
  rw [w6, quo_u64 (a := r + (q + s / 4294967296) % 4294967296) ⟨by omega, by omega⟩ (by decide)]
  have w7 : IntKind.u64.wrap (p + (q + s / 4294967296) / 4294967296) = p + (q + s / 4294967296) / 4294967296 := wrap_W ⟨by omega, by omega⟩
  rw [w7, wrap_W ⟨by omega, by omega⟩, wrap_u64, hab]
  exact ⟨by omega, ⟨by omega, by omega⟩, ⟨by omega, by omega⟩⟩

/-! ### A digit of a quotient -/
structure DigR (hi below y q r : Int) : Prop where
  eq : q * y + r = hi * 4294967296 + below
  r0 : 0 ≤ r
  r1 : r < y
  q0 : 0 ≤ q
  q1 : q < 4294967296
structure DigI (hi below y : Int) : Prop where
  hi0 : 0 ≤ hi
  hi1 : hi < y
  b0 : 0 ≤ below
  b1 : below < 4294967296
  y0 : 9223372036854775808 ≤ y
  y1 : y < 18446744073709551616
structure DigJ (hi below y q l : Int) : Prop where
  eq : q * (y / 4294967296) + l = hi
  l0 : 0 ≤ l
  l1 : l < 4294967296
  q0 : 0 ≤ q
  q1 : q < 18446744073709551616
  up : hi * 4294967296 + below < q * y + y
theorem dig_mul {q y : Int} : q * y = q * (y / 4294967296) * 4294967296 + q * (y % 4294967296) := by
  have h : y = y / 4294967296 * 4294967296 + y % 4294967296 := by omega
  calc q * y = q * (y / 4294967296 * 4294967296 + y % 4294967296) := by rw [← h]
    _ = _ := by rw [Int.mul_add, ← Int.mul_assoc]
theorem dig_start {hi below y : Int} (h : DigI hi below y) : DigJ hi below y (hi / (y / 4294967296)) (hi % (y / 4294967296)) := by
  obtain ⟨h1, h2, h3, h4, h5, h6⟩ := h
  have hy1 : 2147483648 ≤ y / 4294967296 := by omega
  have hy2 : y / 4294967296 < 4294967296 := by omega
  have e : hi / (y / 4294967296) * (y / 4294967296) + hi % (y / 4294967296) = hi := by rw [Int.mul_comm]; exact Int.mul_ediv_add_emod _ _
  have l0 : 0 ≤ hi % (y / 4294967296) := Int.emod_nonneg _ (by omega)
  have l1 : hi % (y / 4294967296) < y / 4294967296 := Int.emod_lt_of_pos _ (by omega)
  have q0 : 0 ≤ hi / (y / 4294967296) := Int.ediv_nonneg h1 (by omega)
  have q1 : hi / (y / 4294967296) ≤ hi := Int.ediv_le_self _ h1
  refine ⟨e, l0, by omega, q0, by omega, ?_⟩
  have hm := dig_mul (q := hi / (y / 4294967296)) (y := y)
  have hn : 0 ≤ hi / (y / 4294967296) * (y % 4294967296) := Int.mul_nonneg q0 (by omega)
  rw [hm]
  generalize hi / (y / 4294967296) * (y / 4294967296) = A at *
  generalize hi / (y / 4294967296) * (y % 4294967296) = B at *
  omega
/-- The test of the guess. -/
theorem dig_test {hi below y q l : Int} (h : DigI hi below y) (j : DigJ hi below y q l) (hq : q < 4294967296) :
    (IntKind.u64.wrap (q * (y % 4294967296)) > IntKind.u64.wrap (IntKind.u64.wrap (l * 4294967296) + below)) ↔ q * (y % 4294967296) > l * 4294967296 + below := by
  obtain ⟨h1, h2, h3, h4, h5, h6⟩ := h
  obtain ⟨j1, j2, j3, j4, j5, j6⟩ := j
  have hB := mul_le_of (a := q) (b := y % 4294967296) (m := 4294967295) (n := 4294967295) j4 (by omega) (by omega) (by omega)
  rw [wrap_W (a := q * (y % 4294967296)) ⟨by omega, by omega⟩, wrap_W (a := l * 4294967296) ⟨by omega, by omega⟩, wrap_W ⟨by omega, by omega⟩]
theorem dig_less {hi below y q l : Int} (h : DigI hi below y) (j : DigJ hi below y q l) (hc : 4294967296 ≤ q ∨ (q < 4294967296 ∧ q * (y % 4294967296) > l * 4294967296 + below)) : hi * 4294967296 + below < q * y := by
  obtain ⟨h1, h2, h3, h4, h5, h6⟩ := h
  obtain ⟨j1, j2, j3, j4, j5, j6⟩ := j
  rcases hc with hc | ⟨_, hc⟩
  · have : 4294967296 * y ≤ q * y := Int.mul_le_mul_of_nonneg_right hc (by omega)
    omega
  · rw [dig_mul (q := q) (y := y)]
    generalize q * (y / 4294967296) = A at *
    generalize q * (y % 4294967296) = B at *
    omega
theorem dig_step {hi below y q l : Int} (h : DigI hi below y) (j : DigJ hi below y q l) (hc : 4294967296 ≤ q ∨ (q < 4294967296 ∧ q * (y % 4294967296) > l * 4294967296 + below))
    (hl : IntKind.u64.wrap (l + y / 4294967296) < 4294967296) : DigJ hi below y (IntKind.u64.wrap (q - 1)) (IntKind.u64.wrap (l + y / 4294967296)) ∧ (IntKind.u64.wrap (q - 1)).toNat < q.toNat := by
  have hlt := dig_less h j hc
  obtain ⟨h1, h2, h3, h4, h5, h6⟩ := h
  obtain ⟨j1, j2, j3, j4, j5, j6⟩ := j
  have q1 : 1 ≤ q := by
    rcases Int.lt_or_le q 1 with h | h
    · have : q = 0 := by omega
      subst this; omega
    · exact h
  rw [wrap_W (a := q - 1) ⟨by omega, by omega⟩]
  rw [wrap_W (a := l + y / 4294967296) ⟨by omega, by omega⟩] at hl ⊢
  refine ⟨⟨?_, by omega, hl, by omega, by omega, ?_⟩, by omega⟩
  · rw [Int.sub_mul]; omega
  · rw [Int.sub_mul]; omega
theorem dig_end {hi below y q : Int} (h : DigI hi below y) (q0 : 0 ≤ q) (q1 : q < 4294967296) (lo : q * y ≤ hi * 4294967296 + below) (up : hi * 4294967296 + below < q * y + y) :
    DigR hi below y q (IntKind.u64.wrap (IntKind.u64.wrap (IntKind.u64.wrap (hi * 4294967296) + below) - IntKind.u64.wrap (q * y))) := by
  obtain ⟨h1, h2, h3, h4, h5, h6⟩ := h
  have e : IntKind.u64.wrap (IntKind.u64.wrap (IntKind.u64.wrap (hi * 4294967296) + below) - IntKind.u64.wrap (q * y)) = hi * 4294967296 + below - q * y := by
    simp only [wrap_u64]
    generalize q * y = Y at *
    omega
  rw [e]
  exact ⟨by omega, by omega, by omega, q0, q1⟩
theorem dig_exit1 {hi below y q l : Int} (h : DigI hi below y) (j : DigJ hi below y q l) (hc : 4294967296 ≤ q ∨ (q < 4294967296 ∧ q * (y % 4294967296) > l * 4294967296 + below))
    (hl : ¬ IntKind.u64.wrap (l + y / 4294967296) < 4294967296) :
    DigR hi below y (IntKind.u64.wrap (q - 1)) (IntKind.u64.wrap (IntKind.u64.wrap (IntKind.u64.wrap (hi * 4294967296) + below) - IntKind.u64.wrap (IntKind.u64.wrap (q - 1) * y))) := by
  have hlt := dig_less h j hc
  have h' := h
  obtain ⟨h1, h2, h3, h4, h5, h6⟩ := h
  obtain ⟨j1, j2, j3, j4, j5, j6⟩ := j
  have q1 : 1 ≤ q := by
    rcases Int.lt_or_le q 1 with h | h
    · have : q = 0 := by omega
      subst this; omega
    · exact h
  rw [wrap_W (a := q - 1) ⟨by omega, by omega⟩]
  rw [wrap_W (a := l + y / 4294967296) ⟨by omega, by omega⟩] at hl
  have hq : q - 1 < 4294967296 := by
    rcases Int.lt_or_le (q - 1) 4294967296 with h | h
    · exact h
    · have : 4294967296 * (y / 4294967296) ≤ (q - 1) * (y / 4294967296) := Int.mul_le_mul_of_nonneg_right h (by omega)
      rw [Int.sub_mul] at this
      omega
  have hB := mul_le_of (a := q - 1) (b := y % 4294967296) (m := 4294967295) (n := 4294967295) (by omega) (by omega) (by omega) (by omega)
  refine dig_end h' (by omega) hq ?_ (by rw [Int.sub_mul]; omega)
  rw [dig_mul (q := q - 1) (y := y), Int.sub_mul q 1 (y / 4294967296)]
  generalize q * (y / 4294967296) = A at *
  generalize (q - 1) * (y % 4294967296) = B at *
  omega
theorem dig_exit2 {hi below y q l : Int} (h : DigI hi below y) (j : DigJ hi below y q l) (hq : q < 4294967296) (hc : ¬ q * (y % 4294967296) > l * 4294967296 + below) :
    DigR hi below y q (IntKind.u64.wrap (IntKind.u64.wrap (IntKind.u64.wrap (hi * 4294967296) + below) - IntKind.u64.wrap (q * y))) := by
  have h' := h
  obtain ⟨h1, h2, h3, h4, h5, h6⟩ := h
  obtain ⟨j1, j2, j3, j4, j5, j6⟩ := j
  refine dig_end h' j4 hq ?_ j6
  rw [dig_mul (q := q) (y := y)]
  generalize q * (y / 4294967296) = A at *
  generalize q * (y % 4294967296) = B at *
  omega
end Go.Sx
namespace Go.Sx
theorem DigI.Wy {hi below y : Int} (h : DigI hi below y) : W y := ⟨by have := h.y0; omega, h.y1⟩
theorem DigI.Wh {hi below y : Int} (h : DigI hi below y) : W hi := ⟨h.hi0, by have := h.hi1; have := h.y1; omega⟩
theorem DigI.y1pos {hi below y : Int} (h : DigI hi below y) : 0 < y / 4294967296 := by have := h.y0; omega
theorem le_of_dec {q : Int} (h : decide (q ≥ 4294967296) = true) : 4294967296 ≤ q := by simpa using h
theorem lt_of_dec {q : Int} (h : decide (q ≥ 4294967296) = false) : q < 4294967296 := by simpa using h
theorem nlt_of_dec {a b : Int} (h : decide (a < b) = false) : ¬ a < b := by simpa using h
theorem of_dec {hi below y q l : Int} (h : DigI hi below y) (j : DigJ hi below y q l) (hq : q < 4294967296)
    (hc : decide (IntKind.u64.wrap (q * (y % 4294967296)) > IntKind.u64.wrap (IntKind.u64.wrap (l * 4294967296) + below)) = true) : q * (y % 4294967296) > l * 4294967296 + below :=
  (dig_test h j hq).1 (of_decide_eq_true hc)
theorem not_of_dec {hi below y q l : Int} (h : DigI hi below y) (j : DigJ hi below y q l) (hq : q < 4294967296)
    (hc : decide (IntKind.u64.wrap (q * (y % 4294967296)) > IntKind.u64.wrap (IntKind.u64.wrap (l * 4294967296) + below)) = false) : ¬ q * (y % 4294967296) > l * 4294967296 + below :=
  fun h' => of_decide_eq_false hc ((dig_test h j hq).2 h')
theorem dig_jump0 {hi below y q l : Int} (h : DigI hi below y) (j : DigJ hi below y q l) (hc : 4294967296 ≤ q ∨ (q < 4294967296 ∧ q * (y % 4294967296) > l * 4294967296 + below))
    (hl : decide (IntKind.u64.wrap (l + y / 4294967296) < 4294967296) = true) : DigJ hi below y (IntKind.u64.wrap (q - 1)) (IntKind.u64.wrap (l + y / 4294967296)) ∧ (IntKind.u64.wrap (q - 1)).toNat < q.toNat :=
  dig_step h j hc (of_decide_eq_true hl)
end Go.Sx
