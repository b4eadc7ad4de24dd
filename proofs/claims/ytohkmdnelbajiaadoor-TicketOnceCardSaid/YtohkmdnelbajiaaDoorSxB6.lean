/- Plain laws: numbers of eight limbs; the whole product. -/
import Derived.Test.YtohkmdnelbajiaaDoorSxB5
set_option linter.unusedVariables false
set_option linter.unusedSimpArgs false
namespace Go.Sx
theorem lim4 (n : Int) : lim n 4 = n / 115792089237316195423570985008687907853269984665640564039457584007913129639936 % 18446744073709551616 := by simp [lim]
theorem lim5 (n : Int) : lim n 5 = n / 2135987035920910082395021706169552114602704522356652769947041607822219725780640550022962086936576 % 18446744073709551616 := by simp [lim]
theorem lim6 (n : Int) : lim n 6 = n / 39402006196394479212279040100143613805079739270465446667948293404245721771497210611414266254884915640806627990306816 % 18446744073709551616 := by simp [lim]
theorem lim7 (n : Int) : lim n 7 = n / 726838724295606890549323807888004534353641360687318060281490199180639288113397923326191050713763565560762521606266177933534601628614656 % 18446744073709551616 := by simp [lim]
theorem num8 (a b c d e f g h : Int) : num (.agg #[.int .u64 a, .int .u64 b, .int .u64 c, .int .u64 d, .int .u64 e, .int .u64 f, .int .u64 g, .int .u64 h]) = a + 18446744073709551616 * (b + 18446744073709551616 * (c + 18446744073709551616 * (d + 18446744073709551616 * (e + 18446744073709551616 * (f + 18446744073709551616 * (g + 18446744073709551616 * (h + 18446744073709551616 * 0))))))) := rfl
theorem num_vW' (n : Int) : num (vW n) = n % 13407807929942597099574024998205846127479365820592393377723561443721764030073546976801874298166903427690031858186486050853753882811946569946433649006084096 := by
  show num (.agg _) = _
  rw [num8, lim0, lim1, lim2, lim3, lim4, lim5, lim6, lim7]; omega
theorem num_vW {n : Int} (h : R8 n) : num (vW n) = n := by rw [num_vW']; unfold R8 at h; omega
theorem R8_num (n : Int) : R8 (num (vW n)) := by rw [num_vW']; unfold R8; omega
theorem vW_num8 {a b c d e f g h : Int} (ha : W a) (hb : W b) (hc : W c) (hd : W d) (he : W e) (hf : W f) (hg : W g) (hh : W h) :
    vW (num (.agg #[.int .u64 a, .int .u64 b, .int .u64 c, .int .u64 d, .int .u64 e, .int .u64 f, .int .u64 g, .int .u64 h])) = .agg #[.int .u64 a, .int .u64 b, .int .u64 c, .int .u64 d, .int .u64 e, .int .u64 f, .int .u64 g, .int .u64 h] := by
  unfold W at *
  have e : ∀ n, n = num (.agg #[.int .u64 a, .int .u64 b, .int .u64 c, .int .u64 d, .int .u64 e, .int .u64 f, .int .u64 g, .int .u64 h]) → lim n 0 = a ∧ lim n 1 = b ∧ lim n 2 = c ∧ lim n 3 = d ∧ lim n 4 = e ∧ lim n 5 = f ∧ lim n 6 = g ∧ lim n 7 = h := by
    intro n hn; rw [num8] at hn; rw [lim0, lim1, lim2, lim3, lim4, lim5, lim6, lim7]
    refine ⟨?_, ?_, ?_, ?_, ?_, ?_, ?_, ?_⟩ <;> omega
  obtain ⟨e0, e1, e2, e3, e4, e5, e6, e7⟩ := e _ rfl
  unfold vW; rw [e0, e1, e2, e3, e4, e5, e6, e7]
theorem R8_num8 {a b c d e f g h : Int} (ha : W a) (hb : W b) (hc : W c) (hd : W d) (he : W e) (hf : W f) (hg : W g) (hh : W h) :
    R8 (num (.agg #[.int .u64 a, .int .u64 b, .int .u64 c, .int .u64 d, .int .u64 e, .int .u64 f, .int .u64 g, .int .u64 h])) := by
  rw [num8]; unfold W at *; unfold R8; omega
theorem vW_zero : vW 0 = .agg #[.int .u64 0, .int .u64 0, .int .u64 0, .int .u64 0, .int .u64 0, .int .u64 0, .int .u64 0, .int .u64 0] := by
  unfold vW; rw [lim0, lim1, lim2, lim3, lim4, lim5, lim6, lim7]; rfl
theorem num_mul {a y : Int} : num (vI a) * y = lim a 0 * y + 18446744073709551616 * (lim a 1 * y) + 340282366920938463463374607431768211456 * (lim a 2 * y) + 6277101735386680763835789423207666416102355444464034512896 * (lim a 3 * y) := by
  rw [lims a, Int.add_mul, Int.add_mul, Int.add_mul, Int.mul_assoc, Int.mul_assoc, Int.mul_assoc]
structure MAddR (old new : Int) (a y : Int) (s0 s1 s2 s3 s4 : Int) : Prop where
  eq : new = old + a * y
  w0 : W s0
  w1 : W s1
  w2 : W s2
  w3 : W s3
  w4 : W s4
theorem madd_step {x y h l o s c t u d : Int} (m : MulR x y h l) (hx : W x) (hy : W y) (a : AddR l o 0 s c) (ho : W o) (b : AddR t s 0 u d) (ht : W t) :
    W (h + c) ∧ W (h + c + d) ∧ u + (h + c + d) * 18446744073709551616 = t + x * y + o := by
  have e := m.eq
  have h1 : x * y ≤ 18446744073709551615 * 18446744073709551615 := Int.mul_le_mul (by have := hx.2; omega) (by have := hy.2; omega) hy.1 (by decide)
  have := m.l; have := m.h; have := a.o0; have := a.o1; have := b.o0; have := b.o1; have := a.s; have := b.s
  have e1 := a.eq; have e2 := b.eq
  rw [cin0] at e1 e2
  unfold W at *; omega
theorem madd_fin {a y t0 t1 t2 t3 u0 u1 u2 u3 o0 o1 o2 o3 : Int} (h0 : u0 + o0 * 18446744073709551616 = t0 + lim a 0 * y + 0) (h1 : u1 + o1 * 18446744073709551616 = t1 + lim a 1 * y + o0)
    (h2 : u2 + o2 * 18446744073709551616 = t2 + lim a 2 * y + o1) (h3 : u3 + o3 * 18446744073709551616 = t3 + lim a 3 * y + o2) (w0 : W u0) (w1 : W u1) (w2 : W u2) (w3 : W u3) (w4 : W o3) :
    MAddR (t0 + 18446744073709551616 * t1 + 340282366920938463463374607431768211456 * t2 + 6277101735386680763835789423207666416102355444464034512896 * t3) (u0 + 18446744073709551616 * u1 + 340282366920938463463374607431768211456 * u2 + 6277101735386680763835789423207666416102355444464034512896 * u3 + 115792089237316195423570985008687907853269984665640564039457584007913129639936 * (0 + o3)) (num (vI a)) y u0 u1 u2 u3 (0 + o3) :=
  ⟨by rw [num_mul]; omega, w0, w1, w2, w3, by rw [Int.zero_add]; exact w4⟩
theorem wit_madd {a y t0 t1 t2 t3 : Int} (hy : W y) (h0 : W t0) (h1 : W t1) (h2 : W t2) (h3 : W t3) : ∃ x : Int × Int × Int × Int × Int,
    (fun zx => MAddR (t0 + 18446744073709551616 * t1 + 340282366920938463463374607431768211456 * t2 + 6277101735386680763835789423207666416102355444464034512896 * t3) (zx.1 + 18446744073709551616 * zx.2.1 + 340282366920938463463374607431768211456 * zx.2.2.1 + 6277101735386680763835789423207666416102355444464034512896 * zx.2.2.2.1 + 115792089237316195423570985008687907853269984665640564039457584007913129639936 * zx.2.2.2.2) (num (vI a)) y zx.1 zx.2.1 zx.2.2.1 zx.2.2.2.1 zx.2.2.2.2) x := by
  have hr := R4_num a
  have b0 := Int.mul_nonneg hr.1 hy.1
  have b1 : num (vI a) * y ≤ 115792089237316195423570985008687907853269984665640564039457584007913129639935 * 18446744073709551615 := Int.mul_le_mul (by have := hr.2; omega) (by have := hy.2; omega) hy.1 (by decide)
  obtain ⟨n, hn⟩ : ∃ n, n = t0 + 18446744073709551616 * t1 + 340282366920938463463374607431768211456 * t2 + 6277101735386680763835789423207666416102355444464034512896 * t3 + num (vI a) * y := ⟨_, rfl⟩
  refine ⟨(lim n 0, lim n 1, lim n 2, lim n 3, lim n 4), ?_, W_lim _ _, W_lim _ _, W_lim _ _, W_lim _ _, W_lim _ _⟩
  dsimp only
  rw [lim0, lim1, lim2, lim3, lim4]; unfold W at *
  generalize num (vI a) * y = p at *
  omega
theorem prod_fin {a b : Int} {t00 t01 t02 t03 t04 t10 t11 t12 t13 t14 t20 t21 t22 t23 t24 t30 t31 t32 t33 t34 : Int}
    (h0 : MAddR (0 + 18446744073709551616 * 0 + 340282366920938463463374607431768211456 * 0 + 6277101735386680763835789423207666416102355444464034512896 * 0) (t00 + 18446744073709551616 * t01 + 340282366920938463463374607431768211456 * t02 + 6277101735386680763835789423207666416102355444464034512896 * t03 + 115792089237316195423570985008687907853269984665640564039457584007913129639936 * t04) a (lim b 0) t00 t01 t02 t03 t04)
    (h1 : MAddR (t01 + 18446744073709551616 * t02 + 340282366920938463463374607431768211456 * t03 + 6277101735386680763835789423207666416102355444464034512896 * t04) (t10 + 18446744073709551616 * t11 + 340282366920938463463374607431768211456 * t12 + 6277101735386680763835789423207666416102355444464034512896 * t13 + 115792089237316195423570985008687907853269984665640564039457584007913129639936 * t14) a (lim b 1) t10 t11 t12 t13 t14)
    (h2 : MAddR (t11 + 18446744073709551616 * t12 + 340282366920938463463374607431768211456 * t13 + 6277101735386680763835789423207666416102355444464034512896 * t14) (t20 + 18446744073709551616 * t21 + 340282366920938463463374607431768211456 * t22 + 6277101735386680763835789423207666416102355444464034512896 * t23 + 115792089237316195423570985008687907853269984665640564039457584007913129639936 * t24) a (lim b 2) t20 t21 t22 t23 t24)
    (h3 : MAddR (t21 + 18446744073709551616 * t22 + 340282366920938463463374607431768211456 * t23 + 6277101735386680763835789423207666416102355444464034512896 * t24) (t30 + 18446744073709551616 * t31 + 340282366920938463463374607431768211456 * t32 + 6277101735386680763835789423207666416102355444464034512896 * t33 + 115792089237316195423570985008687907853269984665640564039457584007913129639936 * t34) a (lim b 3) t30 t31 t32 t33 t34)
    (hb : R4 b) : num (.agg #[.int .u64 t00, .int .u64 t10, .int .u64 t20, .int .u64 t30, .int .u64 t31, .int .u64 t32, .int .u64 t33, .int .u64 t34]) = a * b := by
  rw [num8, mul_lims hb]
  have e0 := h0.eq; have e1 := h1.eq; have e2 := h2.eq; have e3 := h3.eq
  omega
theorem prod_R {a b : Int} (ha : R4 a) (hb : R4 b) : R8 (a * b) := by
  have h0 := Int.mul_nonneg ha.1 hb.1
  have h1 : a * b ≤ 115792089237316195423570985008687907853269984665640564039457584007913129639935 * 115792089237316195423570985008687907853269984665640564039457584007913129639935 := Int.mul_le_mul (by have := ha.2; omega) (by have := hb.2; omega) hb.1 (by decide)
  exact ⟨h0, by omega⟩
end Go.Sx
