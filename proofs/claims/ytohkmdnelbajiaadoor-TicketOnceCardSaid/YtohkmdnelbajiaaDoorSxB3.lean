/- Plain laws: the quotient of two limbs by one. -/
import Derived.Test.YtohkmdnelbajiaaDoorSxB2
set_option linter.unusedVariables false
set_option linter.unusedSimpArgs false
namespace Go.Sx
theorem bor_add (k : Nat) (hk : k ≤ 64) {a b : Int} (ha : 0 ≤ a) (hb : 0 ≤ b) (hb' : b < 2 ^ k) (h : a * 2 ^ k < 18446744073709551616) :
    IntKind.u64.wrap (((BitVec.ofInt 64 (a * 2 ^ k) ||| BitVec.ofInt 64 b : BitVec 64).toNat : Nat) : Int) = a * 2 ^ k + b := by
  obtain ⟨a, rfl⟩ := Int.eq_ofNat_of_zero_le ha
  obtain ⟨b, rfl⟩ := Int.eq_ofNat_of_zero_le hb
  have e2 : ((a : Int) * 2 ^ k) = ((a * 2 ^ k : Nat) : Int) := by simp
  rw [e2] at h ⊢
  have hb2 : b < 2 ^ k := by
    have : ((b : Nat) : Int) < ((2 ^ k : Nat) : Int) := by simpa using hb'
    exact Int.ofNat_lt.1 this
  have h2 : a * 2 ^ k < 2 ^ 64 := by omega
  have hle : 2 ^ k ≤ 2 ^ 64 := Nat.pow_le_pow_right (by decide) hk
  have hor : a * 2 ^ k ||| b = a * 2 ^ k + b := by
    have := Nat.shiftLeft_add_eq_or_of_lt hb2 a
    rw [Nat.shiftLeft_eq] at this
    exact this.symm
  have hsum : a * 2 ^ k + b < 2 ^ 64 := by
    rw [← hor]; exact Nat.or_lt_two_pow h2 (by omega)
  simp only [BitVec.toNat_or, BitVec.ofInt_natCast, BitVec.toNat_ofNat]
  rw [Nat.mod_eq_of_lt h2, Nat.mod_eq_of_lt (by omega : b < 2 ^ 64), hor, wrap_u64]
  omega
def nrm (y : Int) : Nat := 64 - blen y.toNat
theorem nrm_spec {y : Int} (h0 : 0 < y) (h1 : y < 18446744073709551616) :
    9223372036854775808 ≤ y * 2 ^ nrm y ∧ y * 2 ^ nrm y < 18446744073709551616 ∧ nrm y ≤ 63 ∧ (2 : Int) ^ nrm y * 2 ^ (64 - nrm y) = 18446744073709551616 ∧ ((nrm y : Nat) : Int) = 64 - (blen y.toNat : Nat) := by
  obtain ⟨n, rfl⟩ := Int.eq_ofNat_of_zero_le (Int.le_of_lt h0)
  have hn : n ≠ 0 := by omega
  have hle := blen_le (x := n) (by omega)
  unfold nrm
  rw [Int.toNat_natCast]
  have hb : blen n = Nat.log2 n + 1 := by unfold blen; rw [if_neg hn]
  have l1 := Nat.log2_self_le hn
  have l2 := Nat.lt_log2_self (n := n)
  obtain ⟨m, hm⟩ : ∃ m, m = Nat.log2 n := ⟨_, rfl⟩
  rw [← hm] at hb l1 l2
  rw [hb] at hle ⊢
  obtain ⟨k, hk⟩ : ∃ k, k = 64 - (m + 1) := ⟨_, rfl⟩
  rw [← hk]
  have e1 : 2 ^ m * 2 ^ k = 9223372036854775808 := by rw [← Nat.pow_add, show m + k = 63 from by omega]
  have e2 : 2 ^ (m + 1) * 2 ^ k = 18446744073709551616 := by rw [← Nat.pow_add, show m + 1 + k = 64 from by omega]
  have a1 : 2 ^ m * 2 ^ k ≤ n * 2 ^ k := Nat.mul_le_mul_right _ l1
  have a2 : n * 2 ^ k < 2 ^ (m + 1) * 2 ^ k := (Nat.mul_lt_mul_right (Nat.two_pow_pos k)).2 l2
  have c : ((n : Int) * 2 ^ k) = ((n * 2 ^ k : Nat) : Int) := by simp
  have e3 : (2 : Int) ^ k * 2 ^ (64 - k) = ((2 ^ k * 2 ^ (64 - k) : Nat) : Int) := by simp
  have e4 : 2 ^ k * 2 ^ (64 - k) = 18446744073709551616 := by rw [← Nat.pow_add, show k + (64 - k) = 64 from by omega]
  rw [c, e3, e4]
  refine ⟨by omega, by omega, by omega, by rfl, by omega⟩

structure DivR (hi lo y q r e : Int) : Prop where
  zero : y = 0 → q = 0 ∧ r = 0 ∧ e = 3
  over : y ≠ 0 → y ≤ hi → q = 0 ∧ r = 0 ∧ e = 2
  ok : hi < y → e = 0 ∧ q * y + r = hi * 18446744073709551616 + lo ∧ 0 ≤ r ∧ r < y ∧ 0 ≤ q ∧ q < 18446744073709551616
structure DivI (hi lo y : Int) : Prop where
  hi : W hi
  lo : W lo
  y : W y
section
variable {hi lo y : Int} (h : DivI hi lo y) (hlt : hi < y)
include h hlt
theorem DivI.ypos : 0 < y := by have := h.hi.1; omega
theorem div_s : IntKind.i64.wrap (64 - ((blen y.toNat : Nat) : Int)) = ((nrm y : Nat) : Int) := by
  obtain ⟨_, _, h3, _, h5⟩ := nrm_spec (DivI.ypos h hlt) h.y.2
  rw [wrap_i64 _ (by omega) (by omega), h5]
theorem div_y : IntKind.u64.wrap (y * 2 ^ min (Int.toNat ((nrm y : Nat) : Int)) 64) = y * 2 ^ nrm y := by
  obtain ⟨h1, h2, h3, _, _⟩ := nrm_spec (DivI.ypos h hlt) h.y.2
  rw [Int.toNat_natCast, Nat.min_eq_left (by omega)]
  exact wrap_W ⟨by omega, h2⟩
omit h hlt in
theorem pw_pos (k : Nat) : (0 : Int) < 2 ^ k := by
  have := Nat.two_pow_pos k
  have e : ((2 ^ k : Nat) : Int) = (2 : Int) ^ k := by simp
  omega
theorem div_hi : IntKind.u64.wrap (hi * 2 ^ min (Int.toNat ((nrm y : Nat) : Int)) 64) = hi * 2 ^ nrm y := by
  obtain ⟨h1, h2, h3, _, _⟩ := nrm_spec (DivI.ypos h hlt) h.y.2
  rw [Int.toNat_natCast, Nat.min_eq_left (by omega)]
  have hp := pw_pos (nrm y)
  have a1 : hi * 2 ^ nrm y ≤ y * 2 ^ nrm y := Int.mul_le_mul_of_nonneg_right (by omega) (by omega)
  exact wrap_W ⟨Int.mul_nonneg h.hi.1 (by omega), by omega⟩
theorem div_t : IntKind.i64.wrap (64 - ((nrm y : Nat) : Int)) = ((64 - nrm y : Nat) : Int) := by
  obtain ⟨_, _, h3, _, _⟩ := nrm_spec (DivI.ypos h hlt) h.y.2
  rw [wrap_i64 _ (by omega) (by omega)]; omega
omit h hlt in
theorem div_lo1 : Int.fdiv lo (2 ^ min (Int.toNat ((64 - nrm y : Nat) : Int)) 64) = lo / 2 ^ (64 - nrm y) := by
  rw [Int.toNat_natCast, Nat.min_eq_left (by omega)]
  exact Int.fdiv_eq_ediv_of_nonneg _ (by have := pw_pos (64 - nrm y); omega)
theorem div_lo1_lt : 0 ≤ lo / 2 ^ (64 - nrm y) ∧ lo / 2 ^ (64 - nrm y) < 2 ^ nrm y := by
  obtain ⟨_, _, h3, h4, _⟩ := nrm_spec (DivI.ypos h hlt) h.y.2
  have hp := pw_pos (64 - nrm y)
  refine ⟨Int.ediv_nonneg h.lo.1 (by omega), ?_⟩
  rw [Int.ediv_lt_iff_lt_mul hp, h4]
  exact h.lo.2
theorem div_or : IntKind.u64.wrap (((BitVec.ofInt 64 (hi * 2 ^ nrm y) ||| BitVec.ofInt 64 (lo / 2 ^ (64 - nrm y)) : BitVec 64).toNat : Nat) : Int) = hi * 2 ^ nrm y + lo / 2 ^ (64 - nrm y) := by
  obtain ⟨h1, h2, h3, h4, _⟩ := nrm_spec (DivI.ypos h hlt) h.y.2
  obtain ⟨l0, l1⟩ := div_lo1_lt h hlt
  have hp := pw_pos (nrm y)
  have a1 : hi * 2 ^ nrm y ≤ y * 2 ^ nrm y := Int.mul_le_mul_of_nonneg_right (by omega) (by omega)
  exact bor_add (nrm y) (by omega) h.hi.1 l0 l1 (by omega)
theorem div_lo : IntKind.u64.wrap (lo * 2 ^ min (Int.toNat ((nrm y : Nat) : Int)) 64) = lo * 2 ^ nrm y % 18446744073709551616 := by
  obtain ⟨_, _, h3, _, _⟩ := nrm_spec (DivI.ypos h hlt) h.y.2
  rw [Int.toNat_natCast, Nat.min_eq_left (by omega), wrap_u64]
omit h hlt in
theorem div_loW : W (lo * 2 ^ nrm y % 18446744073709551616) := ⟨by omega, by omega⟩
theorem div_i1 : DigI (hi * 2 ^ nrm y + lo / 2 ^ (64 - nrm y)) (lo * 2 ^ nrm y % 18446744073709551616 / 4294967296) (y * 2 ^ nrm y) := by
  obtain ⟨h1, h2, h3, h4, _⟩ := nrm_spec (DivI.ypos h hlt) h.y.2
  obtain ⟨l0, l1⟩ := div_lo1_lt h hlt
  have hp := pw_pos (nrm y)
  have a0 : 0 ≤ hi * 2 ^ nrm y := Int.mul_nonneg h.hi.1 (by omega)
  have a1 : (hi + 1) * 2 ^ nrm y ≤ y * 2 ^ nrm y := Int.mul_le_mul_of_nonneg_right (by omega) (by omega)
  rw [Int.add_mul] at a1
  exact ⟨by omega, by omega, by omega, by omega, h1, h2⟩
theorem div_i0 {q r : Int} (d : DigR (hi * 2 ^ nrm y + lo / 2 ^ (64 - nrm y)) (lo * 2 ^ nrm y % 18446744073709551616 / 4294967296) (y * 2 ^ nrm y) q r) :
    DigI r (lo * 2 ^ nrm y % 18446744073709551616 % 4294967296) (y * 2 ^ nrm y) := by
  obtain ⟨h1, h2, h3, h4, _⟩ := nrm_spec (DivI.ypos h hlt) h.y.2
  exact ⟨d.r0, d.r1, by omega, by omega, h1, h2⟩
theorem div_fin {q1 r1 q0 r0 : Int} (d1 : DigR (hi * 2 ^ nrm y + lo / 2 ^ (64 - nrm y)) (lo * 2 ^ nrm y % 18446744073709551616 / 4294967296) (y * 2 ^ nrm y) q1 r1)
    (d0 : DigR r1 (lo * 2 ^ nrm y % 18446744073709551616 % 4294967296) (y * 2 ^ nrm y) q0 r0) :
    DivR hi lo y (IntKind.u64.wrap (IntKind.u64.wrap (q1 * 4294967296) + q0)) (Int.fdiv r0 (2 ^ min (Int.toNat ((nrm y : Nat) : Int)) 64)) 0 := by
  obtain ⟨h1, h2, h3, h4, _⟩ := nrm_spec (DivI.ypos h hlt) h.y.2
  obtain ⟨l0, l1⟩ := div_lo1_lt h hlt
  have hp := pw_pos (nrm y)
  have hp2 := pw_pos (64 - nrm y)
  rw [Int.toNat_natCast, Nat.min_eq_left (by omega), Int.fdiv_eq_ediv_of_nonneg _ (by omega)]
  have b1 := d1.q0; have b2 := d1.q1; have b3 := d0.q0; have b4 := d0.q1
  rw [wrap_W (a := q1 * 4294967296) ⟨by omega, by omega⟩, wrap_W ⟨by omega, by omega⟩]
  have e1 := d1.eq; have e0 := d0.eq; have r0' := d0.r0; have r1' := d0.r1
  clear d1 d0
  generalize (2 : Int) ^ nrm y = p at *
  generalize (2 : Int) ^ (64 - nrm y) = p2 at *
  -- lo * p parts at 2^64
  have hlo : lo * p = lo / p2 * 18446744073709551616 + lo * p % 18446744073709551616 := by
    have h5 : lo * p / 18446744073709551616 = lo / p2 := by
      rw [← h4, Int.mul_comm p p2]
      exact Int.mul_ediv_mul_of_pos_left _ _ hp
    omega
  have hL : lo * p % 18446744073709551616 = lo * p % 18446744073709551616 / 4294967296 * 4294967296 + lo * p % 18446744073709551616 % 4294967296 := by omega
  have key : (q1 * 4294967296 + q0) * (y * p) + r0 = (hi * 18446744073709551616 + lo) * p := by
    rw [Int.add_mul, Int.mul_assoc q1 4294967296, Int.mul_comm 4294967296 (y * p), ← Int.mul_assoc q1, Int.add_mul (hi * 18446744073709551616), Int.mul_assoc hi, Int.mul_comm 18446744073709551616 p, ← Int.mul_assoc hi]
    generalize q1 * (y * p) = A at *
    generalize q0 * (y * p) = C at *
    generalize hi * p = Hp at *
    generalize lo * p = Lp at *
    omega
  have hr : r0 = (hi * 18446744073709551616 + lo - (q1 * 4294967296 + q0) * y) * p := by
    rw [Int.sub_mul, Int.mul_assoc (q1 * 4294967296 + q0)]; omega
  have hr2 : r0 / p = hi * 18446744073709551616 + lo - (q1 * 4294967296 + q0) * y := by
    rw [hr]; exact Int.mul_ediv_cancel _ (by omega)
  have hr3 : 0 ≤ r0 / p := Int.ediv_nonneg r0' (by omega)
  have hr4 : r0 / p < y := by rw [Int.ediv_lt_iff_lt_mul hp]; exact r1'
  refine ⟨fun hz => by have := h.hi.1; omega, fun _ hle => by omega, fun _ => ⟨rfl, ?_, hr3, hr4, by omega, by omega⟩⟩
  omega
end
end Go.Sx
namespace Go.Sx
theorem wit_dig {hi below y : Int} (h : DigI hi below y) : ∃ x : Int × Int, (fun zx => DigR hi below y zx.1 zx.2) x := by
  have hy := h.y0
  have hpos : 0 < y := by omega
  refine ⟨((hi * 4294967296 + below) / y, (hi * 4294967296 + below) % y), ?_, Int.emod_nonneg _ (by omega), Int.emod_lt_of_pos _ hpos, Int.ediv_nonneg (by have := h.hi0; have := h.b0; omega) (by omega), ?_⟩
  · show (hi * 4294967296 + below) / y * y + (hi * 4294967296 + below) % y = _
    rw [Int.mul_comm]; exact Int.mul_ediv_add_emod _ _
  · show (hi * 4294967296 + below) / y < 4294967296
    rw [Int.ediv_lt_iff_lt_mul hpos]
    have := h.hi1; have := h.b1; omega
end Go.Sx
namespace Go.Sx
theorem div_zero {hi lo y : Int} (h : DivI hi lo y) (hy : (y == (0 : Int)) = true) : DivR hi lo y 0 0 3 := by
  have e : y = 0 := by simpa using hy
  have := h.hi.1
  exact ⟨fun _ => ⟨rfl, rfl, rfl⟩, fun h => absurd e h, fun h => by omega⟩
theorem div_over {hi lo y : Int} (h : DivI hi lo y) (hy : (y == (0 : Int)) = false) (hle : decide (hi ≥ y) = true) : DivR hi lo y 0 0 2 := by
  have e0 : y ≠ 0 := by simpa using hy
  have e : y ≤ hi := by simpa using hle
  exact ⟨fun h => absurd h e0, fun _ _ => ⟨rfl, rfl, rfl⟩, fun h => by omega⟩
theorem wit_div {hi lo y : Int} (h : DivI hi lo y) : ∃ x : Int × Int × Int, (fun zx => DivR hi lo y zx.1 zx.2.1 zx.2.2) x := by
  by_cases h0 : y = 0
  · exact ⟨(0, 0, 3), div_zero h (by simp [h0])⟩
  · by_cases h1 : y ≤ hi
    · exact ⟨(0, 0, 2), div_over h (by simp [h0]) (by simp [h1])⟩
    · have hpos : 0 < y := by have := h.hi.1; omega
      refine ⟨((hi * 18446744073709551616 + lo) / y, (hi * 18446744073709551616 + lo) % y, 0), ⟨fun h => absurd h h0, fun _ h => absurd h h1, fun _ => ⟨rfl, ?_, Int.emod_nonneg _ (by omega), Int.emod_lt_of_pos _ hpos, Int.ediv_nonneg (by have := h.hi.1; have := h.lo.1; omega) (by omega), ?_⟩⟩⟩
      · show (hi * 18446744073709551616 + lo) / y * y + (hi * 18446744073709551616 + lo) % y = _
        rw [Int.mul_comm]; exact Int.mul_ediv_add_emod _ _
      · show (hi * 18446744073709551616 + lo) / y < 18446744073709551616
        rw [Int.ediv_lt_iff_lt_mul hpos]
        have := h.lo.2
        omega
end Go.Sx
