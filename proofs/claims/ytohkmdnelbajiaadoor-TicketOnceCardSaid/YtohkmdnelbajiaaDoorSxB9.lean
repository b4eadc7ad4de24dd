/- Plain laws of a step of the long division, for each length of the divisor; printed by c_wide2.py. -/
import Derived.Test.YtohkmdnelbajiaaDoorSxB8
set_option linter.unusedVariables false
set_option linter.unusedSimpArgs false
namespace Go.Sx
theorem dist1 (g v0 : Int) : g * (v0) = g * v0 := by
  rfl
theorem addk1 {v0 y0 y1 d0 d1 c0 c1 : Int} (a0 : AddR d0 v0 0 y0 c0) (ak : AddR d1 0 c0 y1 c1) : y0 + 18446744073709551616 * y1 + c1 * 340282366920938463463374607431768211456 = d0 + 18446744073709551616 * d1 + (v0) := by
  have e0 := a0.eq
  have ek := ak.eq
  rw [cin0] at e0
  rw [cin_of a0.o0 a0.o1] at ek
  omega
theorem guess_ok1 {u0 u1 v0 q r e : Int} (h : DivR u1 u0 v0 q r e) (he : (e != 0) = false) (hv : 0 < v0) (wu0 : W u0) (wu1 : W u1) (wv0 : W v0) : GuessR (u0 + 18446744073709551616 * u1) (v0) q := by
  have he : e = 0 := by simpa using he
  have hlt : u1 < v0 := by
    rcases Int.lt_or_le u1 v0 with h' | h'
    · exact h'
    · have := h.over (by omega) h'; omega
  obtain ⟨_, h1, h2, h3, h4, h5⟩ := h.ok hlt
  refine guess_div (p := 1) (l := 0) h1 h3 ⟨h4, h5⟩ (by decide) ?_ ?_ ?_ <;> unfold W at * <;> omega
theorem wit_step1 {U V : Int} (h0 : 0 ≤ U) (h1 : U < V * 18446744073709551616) (hV : 0 < V) (hP : V < 18446744073709551616) : ∃ x : Int × Int × Int, (fun zx => StepR U V zx.1 (zx.2.1 + 18446744073709551616 * zx.2.2) ∧ W zx.2.1 ∧ W zx.2.2) x := by
  have s := wit_q h0 h1 hV
  refine ⟨(U / V, lim (U % V) 0, lim (U % V) 1), ?_, W_lim _ _, W_lim _ _⟩
  dsimp only
  have e : lim (U % V) 0 + 18446744073709551616 * lim (U % V) 1 = U % V := by
    have := s.r0; have := s.r1
    unfold lim; omega
  rw [e]; exact s
theorem dist2 (g v0 v1 : Int) : g * (v0 + 18446744073709551616 * v1) = g * v0 + 18446744073709551616 * (g * v1) := by
  rw [Int.mul_add, Int.mul_left_comm g]
theorem addk2 {v0 v1 y0 y1 y2 d0 d1 d2 c0 c1 c2 : Int} (a0 : AddR d0 v0 0 y0 c0) (a1 : AddR d1 v1 c0 y1 c1) (ak : AddR d2 0 c1 y2 c2) : y0 + 18446744073709551616 * y1 + 340282366920938463463374607431768211456 * y2 + c2 * 6277101735386680763835789423207666416102355444464034512896 = d0 + 18446744073709551616 * d1 + 340282366920938463463374607431768211456 * d2 + (v0 + 18446744073709551616 * v1) := by
  have e0 := a0.eq
  have e1 := a1.eq
  have ek := ak.eq
  rw [cin0] at e0
  rw [cin_of a0.o0 a0.o1] at e1
  rw [cin_of a1.o0 a1.o1] at ek
  omega
theorem guess_ok2 {u0 u1 u2 v0 v1 q r e : Int} (h : DivR u2 u1 v1 q r e) (he : (e != 0) = false) (hv : 0 < v1) (wu0 : W u0) (wu1 : W u1) (wu2 : W u2) (wv0 : W v0) (wv1 : W v1) : GuessR (u0 + 18446744073709551616 * u1 + 340282366920938463463374607431768211456 * u2) (v0 + 18446744073709551616 * v1) q := by
  have he : e = 0 := by simpa using he
  have hlt : u2 < v1 := by
    rcases Int.lt_or_le u2 v1 with h' | h'
    · exact h'
    · have := h.over (by omega) h'; omega
  obtain ⟨_, h1, h2, h3, h4, h5⟩ := h.ok hlt
  refine guess_div (p := 18446744073709551616) (l := v0) h1 h3 ⟨h4, h5⟩ (by decide) ?_ ?_ ?_ <;> unfold W at * <;> omega
theorem wit_step2 {U V : Int} (h0 : 0 ≤ U) (h1 : U < V * 18446744073709551616) (hV : 0 < V) (hP : V < 340282366920938463463374607431768211456) : ∃ x : Int × Int × Int × Int, (fun zx => StepR U V zx.1 (zx.2.1 + 18446744073709551616 * zx.2.2.1 + 340282366920938463463374607431768211456 * zx.2.2.2) ∧ W zx.2.1 ∧ W zx.2.2.1 ∧ W zx.2.2.2) x := by
  have s := wit_q h0 h1 hV
  refine ⟨(U / V, lim (U % V) 0, lim (U % V) 1, lim (U % V) 2), ?_, W_lim _ _, W_lim _ _, W_lim _ _⟩
  dsimp only
  have e : lim (U % V) 0 + 18446744073709551616 * lim (U % V) 1 + 340282366920938463463374607431768211456 * lim (U % V) 2 = U % V := by
    have := s.r0; have := s.r1
    unfold lim; omega
  rw [e]; exact s
theorem dist3 (g v0 v1 v2 : Int) : g * (v0 + 18446744073709551616 * v1 + 340282366920938463463374607431768211456 * v2) = g * v0 + 18446744073709551616 * (g * v1) + 340282366920938463463374607431768211456 * (g * v2) := by
  rw [Int.mul_add, Int.mul_add, Int.mul_left_comm g, Int.mul_left_comm g]
theorem addk3 {v0 v1 v2 y0 y1 y2 y3 d0 d1 d2 d3 c0 c1 c2 c3 : Int} (a0 : AddR d0 v0 0 y0 c0) (a1 : AddR d1 v1 c0 y1 c1) (a2 : AddR d2 v2 c1 y2 c2) (ak : AddR d3 0 c2 y3 c3) : y0 + 18446744073709551616 * y1 + 340282366920938463463374607431768211456 * y2 + 6277101735386680763835789423207666416102355444464034512896 * y3 + c3 * 115792089237316195423570985008687907853269984665640564039457584007913129639936 = d0 + 18446744073709551616 * d1 + 340282366920938463463374607431768211456 * d2 + 6277101735386680763835789423207666416102355444464034512896 * d3 + (v0 + 18446744073709551616 * v1 + 340282366920938463463374607431768211456 * v2) := by
  have e0 := a0.eq
  have e1 := a1.eq
  have e2 := a2.eq
  have ek := ak.eq
  rw [cin0] at e0
  rw [cin_of a0.o0 a0.o1] at e1
  rw [cin_of a1.o0 a1.o1] at e2
  rw [cin_of a2.o0 a2.o1] at ek
  omega
theorem guess_ok3 {u0 u1 u2 u3 v0 v1 v2 q r e : Int} (h : DivR u3 u2 v2 q r e) (he : (e != 0) = false) (hv : 0 < v2) (wu0 : W u0) (wu1 : W u1) (wu2 : W u2) (wu3 : W u3) (wv0 : W v0) (wv1 : W v1) (wv2 : W v2) : GuessR (u0 + 18446744073709551616 * u1 + 340282366920938463463374607431768211456 * u2 + 6277101735386680763835789423207666416102355444464034512896 * u3) (v0 + 18446744073709551616 * v1 + 340282366920938463463374607431768211456 * v2) q := by
  have he : e = 0 := by simpa using he
  have hlt : u3 < v2 := by
    rcases Int.lt_or_le u3 v2 with h' | h'
    · exact h'
    · have := h.over (by omega) h'; omega
  obtain ⟨_, h1, h2, h3, h4, h5⟩ := h.ok hlt
  refine guess_div (p := 340282366920938463463374607431768211456) (l := v0 + 18446744073709551616 * v1) h1 h3 ⟨h4, h5⟩ (by decide) ?_ ?_ ?_ <;> unfold W at * <;> omega
theorem wit_step3 {U V : Int} (h0 : 0 ≤ U) (h1 : U < V * 18446744073709551616) (hV : 0 < V) (hP : V < 6277101735386680763835789423207666416102355444464034512896) : ∃ x : Int × Int × Int × Int × Int, (fun zx => StepR U V zx.1 (zx.2.1 + 18446744073709551616 * zx.2.2.1 + 340282366920938463463374607431768211456 * zx.2.2.2.1 + 6277101735386680763835789423207666416102355444464034512896 * zx.2.2.2.2) ∧ W zx.2.1 ∧ W zx.2.2.1 ∧ W zx.2.2.2.1 ∧ W zx.2.2.2.2) x := by
  have s := wit_q h0 h1 hV
  refine ⟨(U / V, lim (U % V) 0, lim (U % V) 1, lim (U % V) 2, lim (U % V) 3), ?_, W_lim _ _, W_lim _ _, W_lim _ _, W_lim _ _⟩
  dsimp only
  have e : lim (U % V) 0 + 18446744073709551616 * lim (U % V) 1 + 340282366920938463463374607431768211456 * lim (U % V) 2 + 6277101735386680763835789423207666416102355444464034512896 * lim (U % V) 3 = U % V := by
    have := s.r0; have := s.r1
    unfold lim; omega
  rw [e]; exact s
theorem dist4 (g v0 v1 v2 v3 : Int) : g * (v0 + 18446744073709551616 * v1 + 340282366920938463463374607431768211456 * v2 + 6277101735386680763835789423207666416102355444464034512896 * v3) = g * v0 + 18446744073709551616 * (g * v1) + 340282366920938463463374607431768211456 * (g * v2) + 6277101735386680763835789423207666416102355444464034512896 * (g * v3) := by
  rw [Int.mul_add, Int.mul_add, Int.mul_add, Int.mul_left_comm g, Int.mul_left_comm g, Int.mul_left_comm g]
theorem addk4 {v0 v1 v2 v3 y0 y1 y2 y3 y4 d0 d1 d2 d3 d4 c0 c1 c2 c3 c4 : Int} (a0 : AddR d0 v0 0 y0 c0) (a1 : AddR d1 v1 c0 y1 c1) (a2 : AddR d2 v2 c1 y2 c2) (a3 : AddR d3 v3 c2 y3 c3) (ak : AddR d4 0 c3 y4 c4) : y0 + 18446744073709551616 * y1 + 340282366920938463463374607431768211456 * y2 + 6277101735386680763835789423207666416102355444464034512896 * y3 + 115792089237316195423570985008687907853269984665640564039457584007913129639936 * y4 + c4 * 2135987035920910082395021706169552114602704522356652769947041607822219725780640550022962086936576 = d0 + 18446744073709551616 * d1 + 340282366920938463463374607431768211456 * d2 + 6277101735386680763835789423207666416102355444464034512896 * d3 + 115792089237316195423570985008687907853269984665640564039457584007913129639936 * d4 + (v0 + 18446744073709551616 * v1 + 340282366920938463463374607431768211456 * v2 + 6277101735386680763835789423207666416102355444464034512896 * v3) := by
  have e0 := a0.eq
  have e1 := a1.eq
  have e2 := a2.eq
  have e3 := a3.eq
  have ek := ak.eq
  rw [cin0] at e0
  rw [cin_of a0.o0 a0.o1] at e1
  rw [cin_of a1.o0 a1.o1] at e2
  rw [cin_of a2.o0 a2.o1] at e3
  rw [cin_of a3.o0 a3.o1] at ek
  omega
theorem guess_ok4 {u0 u1 u2 u3 u4 v0 v1 v2 v3 q r e : Int} (h : DivR u4 u3 v3 q r e) (he : (e != 0) = false) (hv : 0 < v3) (wu0 : W u0) (wu1 : W u1) (wu2 : W u2) (wu3 : W u3) (wu4 : W u4) (wv0 : W v0) (wv1 : W v1) (wv2 : W v2) (wv3 : W v3) : GuessR (u0 + 18446744073709551616 * u1 + 340282366920938463463374607431768211456 * u2 + 6277101735386680763835789423207666416102355444464034512896 * u3 + 115792089237316195423570985008687907853269984665640564039457584007913129639936 * u4) (v0 + 18446744073709551616 * v1 + 340282366920938463463374607431768211456 * v2 + 6277101735386680763835789423207666416102355444464034512896 * v3) q := by
  have he : e = 0 := by simpa using he
  have hlt : u4 < v3 := by
    rcases Int.lt_or_le u4 v3 with h' | h'
    · exact h'
    · have := h.over (by omega) h'; omega
  obtain ⟨_, h1, h2, h3, h4, h5⟩ := h.ok hlt
  refine guess_div (p := 6277101735386680763835789423207666416102355444464034512896) (l := v0 + 18446744073709551616 * v1 + 340282366920938463463374607431768211456 * v2) h1 h3 ⟨h4, h5⟩ (by decide) ?_ ?_ ?_ <;> unfold W at * <;> omega
theorem wit_step4 {U V : Int} (h0 : 0 ≤ U) (h1 : U < V * 18446744073709551616) (hV : 0 < V) (hP : V < 115792089237316195423570985008687907853269984665640564039457584007913129639936) : ∃ x : Int × Int × Int × Int × Int × Int, (fun zx => StepR U V zx.1 (zx.2.1 + 18446744073709551616 * zx.2.2.1 + 340282366920938463463374607431768211456 * zx.2.2.2.1 + 6277101735386680763835789423207666416102355444464034512896 * zx.2.2.2.2.1 + 115792089237316195423570985008687907853269984665640564039457584007913129639936 * zx.2.2.2.2.2) ∧ W zx.2.1 ∧ W zx.2.2.1 ∧ W zx.2.2.2.1 ∧ W zx.2.2.2.2.1 ∧ W zx.2.2.2.2.2) x := by
  have s := wit_q h0 h1 hV
  refine ⟨(U / V, lim (U % V) 0, lim (U % V) 1, lim (U % V) 2, lim (U % V) 3, lim (U % V) 4), ?_, W_lim _ _, W_lim _ _, W_lim _ _, W_lim _ _, W_lim _ _⟩
  dsimp only
  have e : lim (U % V) 0 + 18446744073709551616 * lim (U % V) 1 + 340282366920938463463374607431768211456 * lim (U % V) 2 + 6277101735386680763835789423207666416102355444464034512896 * lim (U % V) 3 + 115792089237316195423570985008687907853269984665640564039457584007913129639936 * lim (U % V) 4 = U % V := by
    have := s.r0; have := s.r1
    unfold lim; omega
  rw [e]; exact s
theorem sub_step {g v h l o s c u br d br' : Int} (m : MulR g v h l) (a : AddR l o 0 s c) (b : SubR u s br d br') (b0 : 0 ≤ br) (b1 : br ≤ 1) : d - br' * 18446744073709551616 - (h + c) * 18446744073709551616 = u - g * v - o - br := by
  have e := m.eq; have e1 := a.eq; have e2 := b.eq
  rw [cin0] at e1; rw [cin_of b0 b1] at e2; omega
theorem up_limb {c s : Int} (h0 : 0 ≤ s) (h1 : s ≤ 63) : c * 2 ^ s.toNat = c * 2 ^ s.toNat % 18446744073709551616 + 18446744073709551616 * (c / 2 ^ (64 - s).toNat) := by
  have hp := pw_pos s.toNat
  have e : c * 2 ^ s.toNat / 18446744073709551616 = c / 2 ^ (64 - s).toNat := by
    rw [← pw2 h0 h1, Int.mul_comm (2 ^ s.toNat)]; exact Int.mul_ediv_mul_of_pos_left _ _ hp
  rw [← e]; exact (Int.emod_add_mul_ediv _ _).symm
theorem up_W {c l s : Int} (h0 : 0 ≤ s) (h1 : s ≤ 63) (hl : W l) : W (c * 2 ^ s.toNat % 18446744073709551616 + l / 2 ^ (64 - s).toNat) := by
  have hp := pw_pos s.toNat
  have hq := pw_pos (64 - s).toNat
  have hpq := pw2 h0 h1
  have e := emod_mul (x := c) hpq
  have r0 : 0 ≤ c * 2 ^ s.toNat % 18446744073709551616 := Int.emod_nonneg _ (by decide)
  have r1 : c * 2 ^ s.toNat % 18446744073709551616 < 18446744073709551616 := Int.emod_lt_of_pos _ (by decide)
  have b0 : 0 ≤ l / 2 ^ (64 - s).toNat := Int.ediv_nonneg hl.1 (by omega)
  have b1 : l / 2 ^ (64 - s).toNat < 2 ^ s.toNat := by rw [Int.ediv_lt_iff_lt_mul hq, hpq]; exact hl.2
  generalize c - 2 ^ (64 - s).toNat * (c * 2 ^ s.toNat / 18446744073709551616) = z at e
  have hz : z + 1 ≤ 2 ^ (64 - s).toNat := by
    rcases Int.lt_or_le z (2 ^ (64 - s).toNat) with h | h
    · exact h
    · have := Int.mul_le_mul_of_nonneg_right h (by omega : 0 ≤ (2 : Int) ^ s.toNat)
      rw [Int.mul_comm (2 ^ (64 - s).toNat), hpq] at this; omega
  have := Int.mul_le_mul_of_nonneg_right hz (by omega : 0 ≤ (2 : Int) ^ s.toNat)
  rw [Int.mul_comm (2 ^ (64 - s).toNat), hpq, Int.add_mul] at this
  exact ⟨by omega, by omega⟩
end Go.Sx
