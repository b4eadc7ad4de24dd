/- Plain laws: numbers of four limbs (sum, difference, row, product, order). -/
import Derived.Test.YtohkmdnelbajiaaDoorSxB4
set_option linter.unusedVariables false
set_option linter.unusedSimpArgs false
namespace Go.Sx
def hRow (a y : Int) : Int × Int := ((a * y) % 115792089237316195423570985008687907853269984665640564039457584007913129639936, (a * y) / 115792089237316195423570985008687907853269984665640564039457584007913129639936)
def hCmp (a b : Int) : Int := if a < b then -1 else if b < a then 1 else 0
theorem hRow_R (a y : Int) : R4 (hRow a y).1 := by unfold hRow R4; dsimp only; omega
theorem vI_of {x : Int} (h : W x) : vI x = .agg #[.int .u64 x, .int .u64 0, .int .u64 0, .int .u64 0] := by
  unfold W at h; unfold vI; rw [lim0, lim1, lim2, lim3]
  have e0 : x % 18446744073709551616 = x := by omega
  have e1 : x / 18446744073709551616 % 18446744073709551616 = 0 := by omega
  have e2 : x / 340282366920938463463374607431768211456 % 18446744073709551616 = 0 := by omega
  have e3 : x / 6277101735386680763835789423207666416102355444464034512896 % 18446744073709551616 = 0 := by omega
  rw [e0, e1, e2, e3]
theorem fin2 {f : Int × Int} {v : Value} {n e : Int} (h : f = (n, e)) (r : R4 n) (hv : vI n = v) : ∃ zx : Int × Int, (R4 zx.1 ∧ zx = f) ∧ Value.tuple #[v, .int .i64 e] = .tuple #[vI zx.1, .int .i64 zx.2] ∧ True :=
  ⟨(n, e), ⟨r, h.symm⟩, by rw [hv], trivial⟩
theorem fin2r {f : Int × Int} {v : Value} {n e : Int} (h : f = (n, e)) (r : R4 n) (hv : vI n = v) : ∃ zx : Int × Int, (R4 zx.1 ∧ zx = f) ∧ Value.tuple #[v, .int .u64 e] = .tuple #[vI zx.1, .int .u64 zx.2] ∧ True :=
  ⟨(n, e), ⟨r, h.symm⟩, by rw [hv], trivial⟩
section
variable {a b s0 o0 s1 o1 s2 o2 s3 o3 : Int}
theorem add_sum (h0 : AddR (lim a 0) (lim b 0) 0 s0 o0) (h1 : AddR (lim a 1) (lim b 1) o0 s1 o1) (h2 : AddR (lim a 2) (lim b 2) o1 s2 o2) (h3 : AddR (lim a 3) (lim b 3) o2 s3 o3) :
    num (.agg #[.int .u64 s0, .int .u64 s1, .int .u64 s2, .int .u64 s3]) + o3 * 115792089237316195423570985008687907853269984665640564039457584007913129639936 = num (vI a) + num (vI b) ∧ 0 ≤ o3 ∧ o3 ≤ 1 := by
  rw [num4', lims a, lims b]
  have e0 := h0.eq; have e1 := h1.eq; have e2 := h2.eq; have e3 := h3.eq
  rw [cin_of h0.o0 h0.o1] at e1; rw [cin_of h1.o0 h1.o1] at e2; rw [cin_of h2.o0 h2.o1] at e3; rw [cin0] at e0
  exact ⟨by omega, h3.o0, h3.o1⟩
theorem sub_sum (h0 : SubR (lim a 0) (lim b 0) 0 s0 o0) (h1 : SubR (lim a 1) (lim b 1) o0 s1 o1) (h2 : SubR (lim a 2) (lim b 2) o1 s2 o2) (h3 : SubR (lim a 3) (lim b 3) o2 s3 o3) :
    num (.agg #[.int .u64 s0, .int .u64 s1, .int .u64 s2, .int .u64 s3]) - o3 * 115792089237316195423570985008687907853269984665640564039457584007913129639936 = num (vI a) - num (vI b) ∧ 0 ≤ o3 ∧ o3 ≤ 1 := by
  rw [num4', lims a, lims b]
  have e0 := h0.eq; have e1 := h1.eq; have e2 := h2.eq; have e3 := h3.eq
  rw [cin_of h0.o0 h0.o1] at e1; rw [cin_of h1.o0 h1.o1] at e2; rw [cin_of h2.o0 h2.o1] at e3; rw [cin0] at e0
  exact ⟨by omega, h3.o0, h3.o1⟩
theorem chain_add_ov (h0 : AddR (lim a 0) (lim b 0) 0 s0 o0) (h1 : AddR (lim a 1) (lim b 1) o0 s1 o1) (h2 : AddR (lim a 2) (lim b 2) o1 s2 o2) (h3 : AddR (lim a 3) (lim b 3) o2 s3 o3) (hc : (o3 != 0) = true) :
    hAdd (num (vI a)) (num (vI b)) = (0, 2) := by
  have h := add_sum h0 h1 h2 h3
  have r := R4_num4 h0.s h1.s h2.s h3.s
  have hc : o3 ≠ 0 := by simpa using hc
  unfold hAdd; unfold R4 at r; rw [if_neg (by omega)]
theorem chain_add_ok (h0 : AddR (lim a 0) (lim b 0) 0 s0 o0) (h1 : AddR (lim a 1) (lim b 1) o0 s1 o1) (h2 : AddR (lim a 2) (lim b 2) o1 s2 o2) (h3 : AddR (lim a 3) (lim b 3) o2 s3 o3) (hc : (o3 != 0) = false) :
    hAdd (num (vI a)) (num (vI b)) = (num (.agg #[.int .u64 s0, .int .u64 s1, .int .u64 s2, .int .u64 s3]), 0) := by
  have h := add_sum h0 h1 h2 h3
  have r := R4_num4 h0.s h1.s h2.s h3.s
  have hc : o3 = 0 := by simpa using hc
  unfold hAdd; unfold R4 at r; rw [if_pos (by omega)]; rw [← h.1, hc]; simp
theorem chain_sub_ov (h0 : SubR (lim a 0) (lim b 0) 0 s0 o0) (h1 : SubR (lim a 1) (lim b 1) o0 s1 o1) (h2 : SubR (lim a 2) (lim b 2) o1 s2 o2) (h3 : SubR (lim a 3) (lim b 3) o2 s3 o3) (hc : (o3 != 0) = true) :
    hSub (num (vI a)) (num (vI b)) = (0, 2) := by
  have h := sub_sum h0 h1 h2 h3
  have r := R4_num4 h0.s h1.s h2.s h3.s
  have hc : o3 ≠ 0 := by simpa using hc
  unfold hSub; unfold R4 at r; rw [if_neg (by omega)]
theorem chain_sub_ok (h0 : SubR (lim a 0) (lim b 0) 0 s0 o0) (h1 : SubR (lim a 1) (lim b 1) o0 s1 o1) (h2 : SubR (lim a 2) (lim b 2) o1 s2 o2) (h3 : SubR (lim a 3) (lim b 3) o2 s3 o3) (hc : (o3 != 0) = false) :
    hSub (num (vI a)) (num (vI b)) = (num (.agg #[.int .u64 s0, .int .u64 s1, .int .u64 s2, .int .u64 s3]), 0) := by
  have h := sub_sum h0 h1 h2 h3
  have r := R4_num4 h0.s h1.s h2.s h3.s
  have hc : o3 = 0 := by simpa using hc
  unfold hSub; unfold R4 at r; rw [if_pos (by omega)]; rw [← h.1, hc]; simp
end
theorem row_w {x y h l s o t : Int} (m : MulR x y h l) (hx : W x) (hy : W y) (a : AddR l t 0 s o) : W (h + o) := by
  have e := m.eq
  have h1 : x * y ≤ 18446744073709551615 * 18446744073709551615 := Int.mul_le_mul (by have := hx.2; omega) (by have := hy.2; omega) hy.1 (by decide)
  have := m.l.1; have := m.h.1; have := a.o0; have := a.o1
  unfold W; omega
theorem row_fin {a y h0 l0 s0 c0 h1 l1 s1 c1 h2 l2 s2 c2 h3 l3 s3 c3 : Int} (m0 : MulR (lim a 0) y h0 l0) (a0 : AddR l0 0 0 s0 c0) (m1 : MulR (lim a 1) y h1 l1) (a1 : AddR l1 (h0 + c0) 0 s1 c1)
    (m2 : MulR (lim a 2) y h2 l2) (a2 : AddR l2 (h1 + c1) 0 s2 c2) (m3 : MulR (lim a 3) y h3 l3) (a3 : AddR l3 (h2 + c2) 0 s3 c3) :
    hRow (num (vI a)) y = (num (.agg #[.int .u64 s0, .int .u64 s1, .int .u64 s2, .int .u64 s3]), h3 + c3) := by
  have r := R4_num4 a0.s a1.s a2.s a3.s
  have e0 := a0.eq; have e1 := a1.eq; have e2 := a2.eq; have e3 := a3.eq
  have f0 := m0.eq; have f1 := m1.eq; have f2 := m2.eq; have f3 := m3.eq
  rw [cin0] at e0 e1 e2 e3
  have e : num (vI a) * y = num (.agg #[.int .u64 s0, .int .u64 s1, .int .u64 s2, .int .u64 s3]) + (h3 + c3) * 115792089237316195423570985008687907853269984665640564039457584007913129639936 := by
    rw [num4', lims a, Int.add_mul, Int.add_mul, Int.add_mul, Int.mul_assoc, Int.mul_assoc, Int.mul_assoc, ← f0, ← f1, ← f2, ← f3]; omega
  unfold hRow; rw [e]; unfold R4 at r
  exact Prod.ext (by dsimp only; omega) (by dsimp only; omega)
theorem cmp_fin {a b r : Int} (h : (lim a 3 < lim b 3 ∧ r = -1) ∨ (lim b 3 < lim a 3 ∧ r = 1) ∨ (lim a 3 = lim b 3 ∧ ((lim a 2 < lim b 2 ∧ r = -1) ∨ (lim b 2 < lim a 2 ∧ r = 1) ∨ (lim a 2 = lim b 2 ∧ ((lim a 1 < lim b 1 ∧ r = -1) ∨ (lim b 1 < lim a 1 ∧ r = 1) ∨
    (lim a 1 = lim b 1 ∧ ((lim a 0 < lim b 0 ∧ r = -1) ∨ (lim b 0 < lim a 0 ∧ r = 1) ∨ (lim a 0 = lim b 0 ∧ r = 0)))))))) : r = hCmp (num (vI a)) (num (vI b)) := by
  rw [lims a, lims b]
  have := W_lim a 0; have := W_lim a 1; have := W_lim a 2; have := W_lim a 3; have := W_lim b 0; have := W_lim b 1; have := W_lim b 2; have := W_lim b 3
  unfold W at *; unfold hCmp
  generalize lim a 0 = a0 at *; generalize lim a 1 = a1 at *; generalize lim a 2 = a2 at *; generalize lim a 3 = a3 at *
  generalize lim b 0 = b0 at *; generalize lim b 1 = b1 at *; generalize lim b 2 = b2 at *; generalize lim b 3 = b3 at *
  split
  · omega
  · split <;> omega
end Go.Sx
namespace Go.Sx
section
variable {a b o w z : Int} {x y : Int × Int}
theorem nz_false {n : Int} (h : (n != 0) = false) : n = 0 := by simpa using h
theorem nz_true {n : Int} (h : (n != 0) = true) : n ≠ 0 := by simpa using h
theorem mul_shift (ho : R4 o) (h : (lim o 3 != 0) = false) : num (.agg #[.int .u64 0, .int .u64 (lim o 0), .int .u64 (lim o 1), .int .u64 (lim o 2)]) = o * 18446744073709551616 := by
  have h := nz_false h
  rw [num4']
  have e := lims o
  rw [num_vI ho] at e; omega
theorem hRow_eq (hx : x = hRow a w) (ha : R4 a) (hw : W w) : a * w = x.1 + x.2 * 115792089237316195423570985008687907853269984665640564039457584007913129639936 ∧ R4 x.1 ∧ 0 ≤ x.2 := by
  have := Int.mul_nonneg ha.1 hw.1
  subst hx; unfold hRow R4; dsimp only; omega
theorem mul_step (ha : R4 a) (hw : W w) (ho : R4 o) (hx : x = hRow a w) (hx2 : (x.2 != 0) = false) (hy : y = hAdd z x.1) (hz : z = o * 18446744073709551616) (hy2 : (y.2 != 0) = false) :
    y.1 = o * 18446744073709551616 + a * w := by
  have h := hRow_eq hx ha hw
  have := nz_false hx2; have hy2 := nz_false hy2
  subst hy; unfold hAdd at hy2 ⊢
  split at hy2
  · rename_i hc; rw [if_pos hc]; dsimp only; omega
  · cases hy2
theorem mul_over1 (ha : R4 a) (hw : W w) (ho : R4 o) (h : (lim o 3 != 0) = true) : 115792089237316195423570985008687907853269984665640564039457584007913129639936 ≤ o * 18446744073709551616 + a * w := by
  have := nz_true h
  have := Int.mul_nonneg ha.1 hw.1
  have := W_lim o 3
  rw [lim3] at *; unfold R4 W at *; omega
theorem mul_over2 (ha : R4 a) (hw : W w) (ho : R4 o) (hx : x = hRow a w) (h : (x.2 != 0) = true) : 115792089237316195423570985008687907853269984665640564039457584007913129639936 ≤ o * 18446744073709551616 + a * w := by
  have h := nz_true h
  have := hRow_eq hx ha hw
  unfold R4 at *; omega
theorem mul_over3 (ha : R4 a) (hw : W w) (ho : R4 o) (hx : x = hRow a w) (hx2 : (x.2 != 0) = false) (hy : y = hAdd z x.1) (hz : z = o * 18446744073709551616) (h : (y.2 != 0) = true) : 115792089237316195423570985008687907853269984665640564039457584007913129639936 ≤ o * 18446744073709551616 + a * w := by
  have h := nz_true h
  have h2 := nz_false hx2
  have := hRow_eq hx ha hw
  subst hy; unfold hAdd at h
  split at h
  · exact absurd rfl h
  · omega
theorem mul_lims (hb : R4 b) : a * b = a * lim b 0 + 18446744073709551616 * (a * lim b 1) + 340282366920938463463374607431768211456 * (a * lim b 2) + 6277101735386680763835789423207666416102355444464034512896 * (a * lim b 3) := by
  have e := lims b
  rw [num_vI hb] at e
  conv => lhs; rw [e]
  rw [Int.mul_add, Int.mul_add, Int.mul_add, Int.mul_left_comm a, Int.mul_left_comm a, Int.mul_left_comm a]
theorem mul_big (hb : R4 b) (ha : R4 a) (h : 115792089237316195423570985008687907853269984665640564039457584007913129639936 ≤ a * lim b 0 + 18446744073709551616 * (a * lim b 1) + 340282366920938463463374607431768211456 * (a * lim b 2) + 6277101735386680763835789423207666416102355444464034512896 * (a * lim b 3)) :
    hMul (num (vI a)) (num (vI b)) = (0, 2) := by
  rw [num_vI ha, num_vI hb]; unfold hMul; rw [mul_lims hb, if_neg (by omega)]
theorem mul_small (hb : R4 b) (ha : R4 a) (ho : R4 o) (h : o = a * lim b 0 + 18446744073709551616 * (a * lim b 1) + 340282366920938463463374607431768211456 * (a * lim b 2) + 6277101735386680763835789423207666416102355444464034512896 * (a * lim b 3)) :
    hMul (num (vI a)) (num (vI b)) = (o, 0) := by
  rw [num_vI ha, num_vI hb]; unfold hMul; rw [mul_lims hb, ← h, if_pos ho.2]
end
end Go.Sx
