/- A part of the prover's own frame for walking code (see the claim's other texts). -/
import Derived.Test.YtmikgnjocfcekaaF2
import Derived.Tactics
import Derived.Tactics2
import Derived.Laws.StructEq
import Derived.ArgAppend
import Derived.Laws.MakeOwn
import Derived.Laws.Slices
set_option linter.unusedVariables false
set_option linter.unusedSimpArgs false
namespace Go.Sx
/-! ### Projections -/
def ci : Value → Int | .int _ n => n | _ => 0
def cb : Value → Bool | .bool b => b | _ => false
def cell (v : Value) (i : Nat) : Value := match v with | .agg cs => cs.getD i undef | .tuple cs => cs.getD i undef | _ => undef
def vblk : Value → Nat | .slice (some a) _ _ => a.block | .pointer (some a) => a.block | .map (some b) => b | _ => 0
def voff : Value → Nat | .slice (some a) _ _ => a.off | .pointer (some a) => a.off | _ => 0
def vlen : Value → Nat | .slice _ n _ => n | _ => 0
def vcap : Value → Nat | .slice _ _ n => n | _ => 0
def varg (vs : List Value) (i : Nat) : Value := vs.getD i undef
def sarg (hs : List Slot) (i : Nat) : Slot := hs.getD i .free
def sblk : Slot → Nat | .blk b _ => b | _ => 0
def scell (s : Slot) (i : Nat) : Value := match s with | .blk _ (.cells cs _ _) => cs.getD i undef | _ => undef
def scells : Slot → Array Value | .blk _ (.cells cs _ _) => cs | _ => #[]
/-! ### Numbers -/
def lim (n : Int) (i : Nat) : Int := n / (18446744073709551616 ^ i) % 18446744073709551616
def vI (n : Int) : Value := .agg #[.int .u64 (lim n 0), .int .u64 (lim n 1), .int .u64 (lim n 2), .int .u64 (lim n 3)]
def vW (n : Int) : Value := .agg #[.int .u64 (lim n 0), .int .u64 (lim n 1), .int .u64 (lim n 2), .int .u64 (lim n 3), .int .u64 (lim n 4), .int .u64 (lim n 5), .int .u64 (lim n 6), .int .u64 (lim n 7)]
def numL : List Value → Int | .int _ a :: l => a + 18446744073709551616 * numL l | _ => 0
def num (v : Value) : Int := match v with | .agg cs => numL cs.toList | _ => 0
def R4 (n : Int) : Prop := 0 ≤ n ∧ n < 115792089237316195423570985008687907853269984665640564039457584007913129639936
def R8 (n : Int) : Prop := 0 ≤ n ∧ n < 13407807929942597099574024998205846127479365820592393377723561443721764030073546976801874298166903427690031858186486050853753882811946569946433649006084096
theorem lim0 (n : Int) : lim n 0 = n % 18446744073709551616 := by simp [lim]
theorem lim1 (n : Int) : lim n 1 = n / 18446744073709551616 % 18446744073709551616 := by simp [lim]
theorem lim2 (n : Int) : lim n 2 = n / 340282366920938463463374607431768211456 % 18446744073709551616 := by simp [lim]
theorem lim3 (n : Int) : lim n 3 = n / 6277101735386680763835789423207666416102355444464034512896 % 18446744073709551616 := by simp [lim]
theorem W_lim (n : Int) (i : Nat) : W (lim n i) := by unfold lim W; omega
theorem num4 (a b c d : Int) : num (.agg #[.int .u64 a, .int .u64 b, .int .u64 c, .int .u64 d]) = a + 18446744073709551616 * (b + 18446744073709551616 * (c + 18446744073709551616 * (d + 18446744073709551616 * 0))) := rfl
theorem num4' (a b c d : Int) : num (.agg #[.int .u64 a, .int .u64 b, .int .u64 c, .int .u64 d]) = a + 18446744073709551616 * b + 340282366920938463463374607431768211456 * c + 6277101735386680763835789423207666416102355444464034512896 * d := by rw [num4]; omega
theorem num_vI' (n : Int) : num (vI n) = n % 115792089237316195423570985008687907853269984665640564039457584007913129639936 := by
  show num (.agg _) = _
  rw [num4, lim0, lim1, lim2, lim3]; omega
theorem num_vI {n : Int} (h : R4 n) : num (vI n) = n := by rw [num_vI']; unfold R4 at h; omega
theorem R4_num (n : Int) : R4 (num (vI n)) := by rw [num_vI']; unfold R4; omega
theorem vI_num4 {a b c d : Int} (ha : W a) (hb : W b) (hc : W c) (hd : W d) : vI (num (.agg #[.int .u64 a, .int .u64 b, .int .u64 c, .int .u64 d])) = .agg #[.int .u64 a, .int .u64 b, .int .u64 c, .int .u64 d] := by
  unfold W at *
  have e0 : lim (num (.agg #[.int .u64 a, .int .u64 b, .int .u64 c, .int .u64 d])) 0 = a := by rw [num4, lim0]; omega
  have e1 : lim (num (.agg #[.int .u64 a, .int .u64 b, .int .u64 c, .int .u64 d])) 1 = b := by rw [num4, lim1]; omega
  have e2 : lim (num (.agg #[.int .u64 a, .int .u64 b, .int .u64 c, .int .u64 d])) 2 = c := by rw [num4, lim2]; omega
  have e3 : lim (num (.agg #[.int .u64 a, .int .u64 b, .int .u64 c, .int .u64 d])) 3 = d := by rw [num4, lim3]; omega
  unfold vI
  rw [e0, e1, e2, e3]
theorem R4_num4 {a b c d : Int} (ha : W a) (hb : W b) (hc : W c) (hd : W d) : R4 (num (.agg #[.int .u64 a, .int .u64 b, .int .u64 c, .int .u64 d])) := by
  rw [num4]; unfold W at *; unfold R4; omega
theorem vI_zero : vI 0 = .agg #[.int .u64 0, .int .u64 0, .int .u64 0, .int .u64 0] := by unfold vI; rw [lim0, lim1, lim2, lim3]; rfl
/-! ### huge -/
def hAdd (a b : Int) : Int × Int := if a + b < 115792089237316195423570985008687907853269984665640564039457584007913129639936 then (a + b, 0) else (0, 2)
def hSub (a b : Int) : Int × Int := if b ≤ a then (a - b, 0) else (0, 2)
def hMul (a b : Int) : Int × Int := if a * b < 115792089237316195423570985008687907853269984665640564039457584007913129639936 then (a * b, 0) else (0, 2)
theorem R4_zero : R4 0 := by unfold R4; decide
theorem R4_one : R4 1 := by unfold R4; decide
theorem R4.of {n : Int} (h0 : 0 ≤ n) (h1 : n < 115792089237316195423570985008687907853269984665640564039457584007913129639936) : R4 n := ⟨h0, h1⟩
theorem hAdd_R {a b : Int} (ha : R4 a) (hb : R4 b) : R4 (hAdd a b).1 := by
  unfold hAdd R4 at *; split <;> dsimp only <;> omega
theorem hSub_R {a b : Int} (ha : R4 a) (hb : R4 b) : R4 (hSub a b).1 := by
  unfold hSub R4 at *; split <;> dsimp only <;> omega
theorem hMul_R {a b : Int} (ha : R4 a) (hb : R4 b) : R4 (hMul a b).1 := by
  unfold hMul R4 at *; have := Int.mul_nonneg ha.1 hb.1; split <;> dsimp only <;> omega
theorem lims (n : Int) : num (vI n) = lim n 0 + 18446744073709551616 * lim n 1 + 340282366920938463463374607431768211456 * lim n 2 + 6277101735386680763835789423207666416102355444464034512896 * lim n 3 := num4' ..
theorem cin0 : cin 0 = 0 := rfl
end Go.Sx

namespace Go.Sx
def hRow (a y : Int) : Int × Int := ((a * y) % 115792089237316195423570985008687907853269984665640564039457584007913129639936, (a * y) / 115792089237316195423570985008687907853269984665640564039457584007913129639936)
def hCmp (a b : Int) : Int := if a < b then -1 else if b < a then 1 else 0
theorem hRow_R (a y : Int) : R4 (hRow a y).1 := by unfold hRow R4; dsimp only; omega
theorem vI_of {x : Int} (h : W x) : vI x = .agg #[.int .u64 x, .int .u64 0, .int .u64 0, .int .u64 0] := by
  unfold W at h; unfold vI; rw [lim0, lim1, lim2, lim3]
  have e0 : x % 18446744073709551616 = x := by omega
  have e1 : x / 18446744073709551616 % 18446744073709551616 = 0 := by omega
  have e2 : x / 340282366920938463463374607431768211456 % 18446744073709551616 = 0 := by omega
  have e3 : x / 6277101735386680763835789423207666416102355444464034512896 % 18446744073709551616 = 0 := by omega
  rw [e0, e1, e2, e3]
theorem fin2 {f : Int × Int} {v : Value} {n e : Int} (h : f = (n, e)) (r : R4 n) (hv : vI n = v) : ∃ zx : Int × Int, (R4 zx.1 ∧ zx = f) ∧ Value.tuple #[v, .int .i64 e] = .tuple #[vI zx.1, .int .i64 zx.2] ∧ True :=
  ⟨(n, e), ⟨r, h.symm⟩, by rw [hv], trivial⟩
theorem fin2r {f : Int × Int} {v : Value} {n e : Int} (h : f = (n, e)) (r : R4 n) (hv : vI n = v) : ∃ zx : Int × Int, (R4 zx.1 ∧ zx = f) ∧ Value.tuple #[v, .int .u64 e] = .tuple #[vI zx.1, .int .u64 zx.2] ∧ True :=
  ⟨(n, e), ⟨r, h.symm⟩, by rw [hv], trivial⟩
section
variable {a b s0 o0 s1 o1 s2 o2 s3 o3 : Int}
theorem add_sum (h0 : AddR (lim a 0) (lim b 0) 0 s0 o0) (h1 : AddR (lim a 1) (lim b 1) o0 s1 o1) (h2 : AddR (lim a 2) (lim b 2) o1 s2 o2) (h3 : AddR (lim a 3) (lim b 3) o2 s3 o3) :
    num (.agg #[.int .u64 s0, .int .u64 s1, .int .u64 s2, .int .u64 s3]) + o3 * 115792089237316195423570985008687907853269984665640564039457584007913129639936 = num (vI a) + num (vI b) ∧ 0 ≤ o3 ∧ o3 ≤ 1 := by
  rw [num4', lims a, lims b]
  have e0 := h0.eq; have e1 := h1.eq; have e2 := h2.eq; have e3 := h3.eq
  rw [cin_of h0.o0 h0.o1] at e1; rw [cin_of h1.o0 h1.o1] at e2; rw [cin_of h2.o0 h2.o1] at e3; rw [cin0] at e0
  exact ⟨by omega, h3.o0, h3.o1⟩
theorem sub_sum (h0 : SubR (lim a 0) (lim b 0) 0 s0 o0) (h1 : SubR (lim a 1) (lim b 1) o0 s1 o1) (h2 : SubR (lim a 2) (lim b 2) o1 s2 o2) (h3 : SubR (lim a 3) (lim b 3) o2 s3 o3) :
    num (.agg #[.int .u64 s0, .int .u64 s1, .int .u64 s2, .int .u64 s3]) - o3 * 115792089237316195423570985008687907853269984665640564039457584007913129639936 = num (vI a) - num (vI b) ∧ 0 ≤ o3 ∧ o3 ≤ 1 := by
  rw [num4', lims a, lims b]
  have e0 := h0.eq; have e1 := h1.eq; have e2 := h2.eq; have e3 := h3.eq
  rw [cin_of h0.o0 h0.o1] at e1; rw [cin_of h1.o0 h1.o1] at e2; rw [cin_of h2.o0 h2.o1] at e3; rw [cin0] at e0
  exact ⟨by omega, h3.o0, h3.o1⟩
theorem chain_add_ov (h0 : AddR (lim a 0) (lim b 0) 0 s0 o0) (h1 : AddR (lim a 1) (lim b 1) o0 s1 o1) (h2 : AddR (lim a 2) (lim b 2) o1 s2 o2) (h3 : AddR (lim a 3) (lim b 3) o2 s3 o3) (hc : (o3 != 0) = true) :
    hAdd (num (vI a)) (num (vI b)) = (0, 2) := by
  have h := add_sum h0 h1 h2 h3
  have r := R4_num4 h0.s h1.s h2.s h3.s
  have hc : o3 ≠ 0 := by simpa using hc
  unfold hAdd; unfold R4 at r; rw [if_neg (by omega)]
theorem chain_add_ok (h0 : AddR (lim a 0) (lim b 0) 0 s0 o0) (h1 : AddR (lim a 1) (lim b 1) o0 s1 o1) (h2 : AddR (lim a 2) (lim b 2) o1 s2 o2) (h3 : AddR (lim a 3) (lim b 3) o2 s3 o3) (hc : (o3 != 0) = false) :
    hAdd (num (vI a)) (num (vI b)) = (num (.agg #[.int .u64 s0, .int .u64 s1, .int .u64 s2, .int .u64 s3]), 0) := by
  have h := add_sum h0 h1 h2 h3
  have r := R4_num4 h0.s h1.s h2.s h3.s
  have hc : o3 = 0 := by simpa using hc
  unfold hAdd; unfold R4 at r; rw [if_pos (by omega)]; rw [← h.1, hc]; simp
theorem chain_sub_ov (h0 : SubR (lim a 0) (lim b 0) 0 s0 o0) (h1 : SubR (lim a 1) (lim b 1) o0 s1 o1) (h2 : SubR (lim a 2) (lim b 2) o1 s2 o2) (h3 : SubR (lim a 3) (lim b 3) o2 s3 o3) (hc : (o3 != 0) = true) :
    hSub (num (vI a)) (num (vI b)) = (0, 2) := by
  have h := sub_sum h0 h1 h2 h3
  have r := R4_num4 h0.s h1.s h2.s h3.s
  have hc : o3 ≠ 0 := by simpa using hc
  unfold hSub; unfold R4 at r; rw [if_neg (by omega)]
theorem chain_sub_ok (h0 : SubR (lim a 0) (lim b 0) 0 s0 o0) (h1 : SubR (lim a 1) (lim b 1) o0 s1 o1) (h2 : SubR (lim a 2) (lim b 2) o1 s2 o2) (h3 : SubR (lim a 3) (lim b 3) o2 s3 o3) (hc : (o3 != 0) = false) :
    hSub (num (vI a)) (num (vI b)) = (num (.agg #[.int .u64 s0, .int .u64 s1, .int .u64 s2, .int .u64 s3]), 0) := by
  have h := sub_sum h0 h1 h2 h3
  have r := R4_num4 h0.s h1.s h2.s h3.s
  have hc : o3 = 0 := by simpa using hc
  unfold hSub; unfold R4 at r; rw [if_pos (by omega)]; rw [← h.1, hc]; simp
end
theorem row_w {x y h l s o t : Int} (m : MulR x y h l) (hx : W x) (hy : W y) (a : AddR l t 0 s o) : W (h + o) := by
  have e := m.eq
  have h1 : x * y ≤ 18446744073709551615 * 18446744073709551615 := Int.mul_le_mul (by have := hx.2; omega) (by have := hy.2; omega) hy.1 (by decide)
  have := m.l.1; have := m.h.1; have := a.o0; have := a.o1
  unfold W; omega
theorem row_fin {a y h0 l0 s0 c0 h1 l1 s1 c1 h2 l2 s2 c2 h3 l3 s3 c3 : Int} (m0 : MulR (lim a 0) y h0 l0) (a0 : AddR l0 0 0 s0 c0) (m1 : MulR (lim a 1) y h1 l1) (a1 : AddR l1 (h0 + c0) 0 s1 c1)
    (m2 : MulR (lim a 2) y h2 l2) (a2 : AddR l2 (h1 + c1) 0 s2 c2) (m3 : MulR (lim a 3) y h3 l3) (a3 : AddR l3 (h2 + c2) 0 s3 c3) :
    hRow (num (vI a)) y = (num (.agg #[.int .u64 s0, .int .u64 s1, .int .u64 s2, .int .u64 s3]), h3 + c3) := by
  have r := R4_num4 a0.s a1.s a2.s a3.s
  have e0 := a0.eq; have e1 := a1.eq; have e2 := a2.eq; have e3 := a3.eq
  have f0 := m0.eq; have f1 := m1.eq; have f2 := m2.eq; have f3 := m3.eq
  rw [cin0] at e0 e1 e2 e3
  have e : num (vI a) * y = num (.agg #[.int .u64 s0, .int .u64 s1, .int .u64 s2, .int .u64 s3]) + (h3 + c3) * 115792089237316195423570985008687907853269984665640564039457584007913129639936 := by
    rw [num4', lims a, Int.add_mul, Int.add_mul, Int.add_mul, Int.mul_assoc, Int.mul_assoc, Int.mul_assoc, ← f0, ← f1, ← f2, ← f3]; omega
  unfold hRow; rw [e]; unfold R4 at r
  exact Prod.ext (by dsimp only; omega) (by dsimp only; omega)
theorem cmp_fin {a b r : Int} (h : (lim a 3 < lim b 3 ∧ r = -1) ∨ (lim b 3 < lim a 3 ∧ r = 1) ∨ (lim a 3 = lim b 3 ∧ ((lim a 2 < lim b 2 ∧ r = -1) ∨ (lim b 2 < lim a 2 ∧ r = 1) ∨ (lim a 2 = lim b 2 ∧ ((lim a 1 < lim b 1 ∧ r = -1) ∨ (lim b 1 < lim a 1 ∧ r = 1) ∨
    (lim a 1 = lim b 1 ∧ ((lim a 0 < lim b 0 ∧ r = -1) ∨ (lim b 0 < lim a 0 ∧ r = 1) ∨ (lim a 0 = lim b 0 ∧ r = 0)))))))) : r = hCmp (num (vI a)) (num (vI b)) := by
  rw [lims a, lims b]
  have := W_lim a 0; have := W_lim a 1; have := W_lim a 2; have := W_lim a 3; have := W_lim b 0; have := W_lim b 1; have := W_lim b 2; have := W_lim b 3
  unfold W at *; unfold hCmp
  generalize lim a 0 = a0 at *; generalize lim a 1 = a1 at *; generalize lim a 2 = a2 at *; generalize lim a 3 = a3 at *
  generalize lim b 0 = b0 at *; generalize lim b 1 = b1 at *; generalize lim b 2 = b2 at *; generalize lim b 3 = b3 at *
  split
  · omega
  · split <;> omega
end Go.Sx
namespace Go.Sx
section
variable {a b o w z : Int} {x y : Int × Int}
theorem nz_false {n : Int} (h : (n != 0) = false) : n = 0 := by simpa using h
theorem nz_true {n : Int} (h : (n != 0) = true) : n ≠ 0 := by simpa using h
theorem mul_shift (ho : R4 o) (h : (lim o 3 != 0) = false) : num (.agg #[.int .u64 0, .int .u64 (lim o 0), .int .u64 (lim o 1), .int .u64 (lim o 2)]) = o * 18446744073709551616 := by
  have h := nz_false h
  rw [num4']
  have e := lims o
  rw [num_vI ho] at e; omega
theorem hRow_eq (hx : x = hRow a w) (ha : R4 a) (hw : W w) : a * w = x.1 + x.2 * 115792089237316195423570985008687907853269984665640564039457584007913129639936 ∧ R4 x.1 ∧ 0 ≤ x.2 := by
  have := Int.mul_nonneg ha.1 hw.1
  subst hx; unfold hRow R4; dsimp only; omega
theorem mul_step (ha : R4 a) (hw : W w) (ho : R4 o) (hx : x = hRow a w) (hx2 : (x.2 != 0) = false) (hy : y = hAdd z x.1) (hz : z = o * 18446744073709551616) (hy2 : (y.2 != 0) = false) :
    y.1 = o * 18446744073709551616 + a * w := by
  have h := hRow_eq hx ha hw
  have := nz_false hx2; have hy2 := nz_false hy2
  subst hy; unfold hAdd at hy2 ⊢
  split at hy2
  · rename_i hc; rw [if_pos hc]; dsimp only; omega
  · cases hy2
theorem mul_over1 (ha : R4 a) (hw : W w) (ho : R4 o) (h : (lim o 3 != 0) = true) : 115792089237316195423570985008687907853269984665640564039457584007913129639936 ≤ o * 18446744073709551616 + a * w := by
  have := nz_true h
  have := Int.mul_nonneg ha.1 hw.1
  have := W_lim o 3
  rw [lim3] at *; unfold R4 W at *; omega
theorem mul_over2 (ha : R4 a) (hw : W w) (ho : R4 o) (hx : x = hRow a w) (h : (x.2 != 0) = true) : 115792089237316195423570985008687907853269984665640564039457584007913129639936 ≤ o * 18446744073709551616 + a * w := by
  have h := nz_true h
  have := hRow_eq hx ha hw
  unfold R4 at *; omega
theorem mul_over3 (ha : R4 a) (hw : W w) (ho : R4 o) (hx : x = hRow a w) (hx2 : (x.2 != 0) = false) (hy : y = hAdd z x.1) (hz : z = o * 18446744073709551616) (h : (y.2 != 0) = true) : 115792089237316195423570985008687907853269984665640564039457584007913129639936 ≤ o * 18446744073709551616 + a * w := by
  have h := nz_true h
  have h2 := nz_false hx2
  have := hRow_eq hx ha hw
  subst hy; unfold hAdd at h
  split at h
  · exact absurd rfl h
  · omega
theorem mul_lims (hb : R4 b) : a * b = a * lim b 0 + 18446744073709551616 * (a * lim b 1) + 340282366920938463463374607431768211456 * (a * lim b 2) + 6277101735386680763835789423207666416102355444464034512896 * (a * lim b 3) := by
  have e := lims b
  rw [num_vI hb] at e
  conv => lhs; rw [e]
  rw [Int.mul_add, Int.mul_add, Int.mul_add, Int.mul_left_comm a, Int.mul_left_comm a, Int.mul_left_comm a]
theorem mul_big (hb : R4 b) (ha : R4 a) (h : 115792089237316195423570985008687907853269984665640564039457584007913129639936 ≤ a * lim b 0 + 18446744073709551616 * (a * lim b 1) + 340282366920938463463374607431768211456 * (a * lim b 2) + 6277101735386680763835789423207666416102355444464034512896 * (a * lim b 3)) :
    hMul (num (vI a)) (num (vI b)) = (0, 2) := by
  rw [num_vI ha, num_vI hb]; unfold hMul; rw [mul_lims hb, if_neg (by omega)]
theorem mul_small (hb : R4 b) (ha : R4 a) (ho : R4 o) (h : o = a * lim b 0 + 18446744073709551616 * (a * lim b 1) + 340282366920938463463374607431768211456 * (a * lim b 2) + 6277101735386680763835789423207666416102355444464034512896 * (a * lim b 3)) :
    hMul (num (vI a)) (num (vI b)) = (o, 0) := by
  rw [num_vI ha, num_vI hb]; unfold hMul; rw [mul_lims hb, ← h, if_pos ho.2]
end
end Go.Sx

namespace Go.Sx
theorem lim4 (n : Int) : lim n 4 = n / 115792089237316195423570985008687907853269984665640564039457584007913129639936 % 18446744073709551616 := by simp [lim]
theorem lim5 (n : Int) : lim n 5 = n / 2135987035920910082395021706169552114602704522356652769947041607822219725780640550022962086936576 % 18446744073709551616 := by simp [lim]
theorem lim6 (n : Int) : lim n 6 = n / 39402006196394479212279040100143613805079739270465446667948293404245721771497210611414266254884915640806627990306816 % 18446744073709551616 := by simp [lim]
theorem lim7 (n : Int) : lim n 7 = n / 726838724295606890549323807888004534353641360687318060281490199180639288113397923326191050713763565560762521606266177933534601628614656 % 18446744073709551616 := by simp [lim]
theorem num8 (a b c d e f g h : Int) : num (.agg #[.int .u64 a, .int .u64 b, .int .u64 c, .int .u64 d, .int .u64 e, .int .u64 f, .int .u64 g, .int .u64 h]) = a + 18446744073709551616 * (b + 18446744073709551616 * (c + 18446744073709551616 * (d + 18446744073709551616 * (e + 18446744073709551616 * (f + 18446744073709551616 * (g + 18446744073709551616 * (h + 18446744073709551616 * 0))))))) := rfl
theorem num_vW' (n : Int) : num (vW n) = n % 13407807929942597099574024998205846127479365820592393377723561443721764030073546976801874298166903427690031858186486050853753882811946569946433649006084096 := by
  show num (.agg _) = _
  rw [num8, lim0, lim1, lim2, lim3, lim4, lim5, lim6, lim7]; omega
theorem num_vW {n : Int} (h : R8 n) : num (vW n) = n := by rw [num_vW']; unfold R8 at h; omega
theorem R8_num (n : Int) : R8 (num (vW n)) := by rw [num_vW']; unfold R8; omega
theorem vW_num8 {a b c d e f g h : Int} (ha : W a) (hb : W b) (hc : W c) (hd : W d) (he : W e) (hf : W f) (hg : W g) (hh : W h) :
    vW (num (.agg #[.int .u64 a, .int .u64 b, .int .u64 c, .int .u64 d, .int .u64 e, .int .u64 f, .int .u64 g, .int .u64 h])) = .agg #[.int .u64 a, .int .u64 b, .int .u64 c, .int .u64 d, .int .u64 e, .int .u64 f, .int .u64 g, .int .u64 h] := by
  unfold W at *
  have e : ∀ n, n = num (.agg #[.int .u64 a, .int .u64 b, .int .u64 c, .int .u64 d, .int .u64 e, .int .u64 f, .int .u64 g, .int .u64 h]) → lim n 0 = a ∧ lim n 1 = b ∧ lim n 2 = c ∧ lim n 3 = d ∧ lim n 4 = e ∧ lim n 5 = f ∧ lim n 6 = g ∧ lim n 7 = h := by
    intro n hn; rw [num8] at hn; rw [lim0, lim1, lim2, lim3, lim4, lim5, lim6, lim7]
    refine ⟨?_, ?_, ?_, ?_, ?_, ?_, ?_, ?_⟩ <;> omega
  obtain ⟨e0, e1, e2, e3, e4, e5, e6, e7⟩ := e _ rfl
  unfold vW; rw [e0, e1, e2, e3, e4, e5, e6, e7]
theorem R8_num8 {a b c d e f g h : Int} (ha : W a) (hb : W b) (hc : W c) (hd : W d) (he : W e) (hf : W f) (hg : W g) (hh : W h) :
    R8 (num (.agg #[.int .u64 a, .int .u64 b, .int .u64 c, .int .u64 d, .int .u64 e, .int .u64 f, .int .u64 g, .int .u64 h])) := by
  rw [num8]; unfold W at *; unfold R8; omega
theorem vW_zero : vW 0 = .agg #[.int .u64 0, .int .u64 0, .int .u64 0, .int .u64 0, .int .u64 0, .int .u64 0, .int .u64 0, .int .u64 0] := by
  unfold vW; rw [lim0, lim1, lim2, lim3, lim4, lim5, lim6, lim7]; rfl
theorem num_mul {a y : Int} : num (vI a) * y = lim a 0 * y + 18446744073709551616 * (lim a 1 * y) + 340282366920938463463374607431768211456 * (lim a 2 * y) + 6277101735386680763835789423207666416102355444464034512896 * (lim a 3 * y) := by
  rw [lims a, Int.add_mul, Int.add_mul, Int.add_mul, Int.mul_assoc, Int.mul_assoc, Int.mul_assoc]
structure MAddR (old new : Int) (a y : Int) (s0 s1 s2 s3 s4 : Int) : Prop where
  eq : new = old + a * y
  w0 : W s0
  w1 : W s1
  w2 : W s2
  w3 : W s3
  w4 : W s4
theorem madd_step {x y h l o s c t u d : Int} (m : MulR x y h l) (hx : W x) (hy : W y) (a : AddR l o 0 s c) (ho : W o) (b : AddR t s 0 u d) (ht : W t) :
    W (h + c) ∧ W (h + c + d) ∧ u + (h + c + d) * 18446744073709551616 = t + x * y + o := by
  have e := m.eq
  have h1 : x * y ≤ 18446744073709551615 * 18446744073709551615 := Int.mul_le_mul (by have := hx.2; omega) (by have := hy.2; omega) hy.1 (by decide)
  have := m.l; have := m.h; have := a.o0; have := a.o1; have := b.o0; have := b.o1; have := a.s; have := b.s
  have e1 := a.eq; have e2 := b.eq
  rw [cin0] at e1 e2
  unfold W at *; omega
theorem madd_fin {a y t0 t1 t2 t3 u0 u1 u2 u3 o0 o1 o2 o3 : Int} (h0 : u0 + o0 * 18446744073709551616 = t0 + lim a 0 * y + 0) (h1 : u1 + o1 * 18446744073709551616 = t1 + lim a 1 * y + o0)
    (h2 : u2 + o2 * 18446744073709551616 = t2 + lim a 2 * y + o1) (h3 : u3 + o3 * 18446744073709551616 = t3 + lim a 3 * y + o2) (w0 : W u0) (w1 : W u1) (w2 : W u2) (w3 : W u3) (w4 : W o3) :
    MAddR (t0 + 18446744073709551616 * t1 + 340282366920938463463374607431768211456 * t2 + 6277101735386680763835789423207666416102355444464034512896 * t3) (u0 + 18446744073709551616 * u1 + 340282366920938463463374607431768211456 * u2 + 6277101735386680763835789423207666416102355444464034512896 * u3 + 115792089237316195423570985008687907853269984665640564039457584007913129639936 * (0 + o3)) (num (vI a)) y u0 u1 u2 u3 (0 + o3) :=
  ⟨by rw [num_mul]; omega, w0, w1, w2, w3, by rw [Int.zero_add]; exact w4⟩
theorem wit_madd {a y t0 t1 t2 t3 : Int} (hy : W y) (h0 : W t0) (h1 : W t1) (h2 : W t2) (h3 : W t3) : ∃ x : Int × Int × Int × Int × Int,
    (fun zx => MAddR (t0 + 18446744073709551616 * t1 + 340282366920938463463374607431768211456 * t2 + 6277101735386680763835789423207666416102355444464034512896 * t3) (zx.1 + 18446744073709551616 * zx.2.1 + 340282366920938463463374607431768211456 * zx.2.2.1 + 6277101735386680763835789423207666416102355444464034512896 * zx.2.2.2.1 + 115792089237316195423570985008687907853269984665640564039457584007913129639936 * zx.2.2.2.2) (num (vI a)) y zx.1 zx.2.1 zx.2.2.1 zx.2.2.2.1 zx.2.2.2.2) x := by
  have hr := R4_num a
  have b0 := Int.mul_nonneg hr.1 hy.1
  have b1 : num (vI a) * y ≤ 115792089237316195423570985008687907853269984665640564039457584007913129639935 * 18446744073709551615 := Int.mul_le_mul (by have := hr.2; omega) (by have := hy.2; omega) hy.1 (by decide)
  obtain ⟨n, hn⟩ : ∃ n, n = t0 + 18446744073709551616 * t1 + 340282366920938463463374607431768211456 * t2 + 6277101735386680763835789423207666416102355444464034512896 * t3 + num (vI a) * y := ⟨_, rfl⟩
  refine ⟨(lim n 0, lim n 1, lim n 2, lim n 3, lim n 4), ?_, W_lim _ _, W_lim _ _, W_lim _ _, W_lim _ _, W_lim _ _⟩
  dsimp only
  rw [lim0, lim1, lim2, lim3, lim4]; unfold W at *
  generalize num (vI a) * y = p at *
  omega
theorem prod_fin {a b : Int} {t00 t01 t02 t03 t04 t10 t11 t12 t13 t14 t20 t21 t22 t23 t24 t30 t31 t32 t33 t34 : Int}
    (h0 : MAddR (0 + 18446744073709551616 * 0 + 340282366920938463463374607431768211456 * 0 + 6277101735386680763835789423207666416102355444464034512896 * 0) (t00 + 18446744073709551616 * t01 + 340282366920938463463374607431768211456 * t02 + 6277101735386680763835789423207666416102355444464034512896 * t03 + 115792089237316195423570985008687907853269984665640564039457584007913129639936 * t04) a (lim b 0) t00 t01 t02 t03 t04)
    (h1 : MAddR (t01 + 18446744073709551616 * t02 + 340282366920938463463374607431768211456 * t03 + 6277101735386680763835789423207666416102355444464034512896 * t04) (t10 + 18446744073709551616 * t11 + 340282366920938463463374607431768211456 * t12 + 6277101735386680763835789423207666416102355444464034512896 * t13 + 115792089237316195423570985008687907853269984665640564039457584007913129639936 * t14) a (lim b 1) t10 t11 t12 t13 t14)
    (h2 : MAddR (t11 + 18446744073709551616 * t12 + 340282366920938463463374607431768211456 * t13 + 6277101735386680763835789423207666416102355444464034512896 * t14) (t20 + 18446744073709551616 * t21 + 340282366920938463463374607431768211456 * t22 + 6277101735386680763835789423207666416102355444464034512896 * t23 + 115792089237316195423570985008687907853269984665640564039457584007913129639936 * t24) a (lim b 2) t20 t21 t22 t23 t24)
    (h3 : MAddR (t21 + 18446744073709551616 * t22 + 340282366920938463463374607431768211456 * t23 + 6277101735386680763835789423207666416102355444464034512896 * t24) (t30 + 18446744073709551616 * t31 + 340282366920938463463374607431768211456 * t32 + 6277101735386680763835789423207666416102355444464034512896 * t33 + 115792089237316195423570985008687907853269984665640564039457584007913129639936 * t34) a (lim b 3) t30 t31 t32 t33 t34)
    (hb : R4 b) : num (.agg #[.int .u64 t00, .int .u64 t10, .int .u64 t20, .int .u64 t30, .int .u64 t31, .int .u64 t32, .int .u64 t33, .int .u64 t34]) = a * b := by
  rw [num8, mul_lims hb]
  have e0 := h0.eq; have e1 := h1.eq; have e2 := h2.eq; have e3 := h3.eq
  omega
theorem prod_R {a b : Int} (ha : R4 a) (hb : R4 b) : R8 (a * b) := by
  have h0 := Int.mul_nonneg ha.1 hb.1
  have h1 : a * b ≤ 115792089237316195423570985008687907853269984665640564039457584007913129639935 * 115792089237316195423570985008687907853269984665640564039457584007913129639935 := Int.mul_le_mul (by have := ha.2; omega) (by have := hb.2; omega) hb.1 (by decide)
  exact ⟨h0, by omega⟩
end Go.Sx

namespace Go.Sx
theorem emod_mul {x p q : Int} (hpq : p * q = 18446744073709551616) : x * p % 18446744073709551616 = (x - q * (x * p / 18446744073709551616)) * p := by
  have e : 18446744073709551616 * (x * p / 18446744073709551616) = q * (x * p / 18446744073709551616) * p := by
    rw [← hpq, Int.mul_right_comm q _ p, Int.mul_comm q p]
  rw [Int.sub_mul, ← e]; omega
theorem up_core {m p q f : Int} (hp : 0 < p) (hq : 0 < q) (hpq : p * q = 18446744073709551616) (f0 : 0 ≤ f) (f1 : f < p) :
    (m * p + f) / 18446744073709551616 % 18446744073709551616 = m / 18446744073709551616 % 18446744073709551616 * p % 18446744073709551616 + m % 18446744073709551616 / q := by
  obtain ⟨h, hh⟩ : ∃ h, h = m / 18446744073709551616 := ⟨_, rfl⟩
  obtain ⟨l, hl⟩ : ∃ l, l = m % 18446744073709551616 := ⟨_, rfl⟩
  obtain ⟨x, hx⟩ : ∃ x, x = h % 18446744073709551616 := ⟨_, rfl⟩
  obtain ⟨l1, hl1⟩ : ∃ l1, l1 = l / q := ⟨_, rfl⟩
  obtain ⟨l0, hl0⟩ : ∃ l0, l0 = l % q := ⟨_, rfl⟩
  rw [← hh, ← hl, ← hx, ← hl1]
  have e1 : l = q * l1 + l0 := by rw [hl1, hl0]; exact (Int.mul_ediv_add_emod l q).symm
  have a0 : 0 ≤ l0 := by rw [hl0]; exact Int.emod_nonneg _ (by omega)
  have a1 : l0 < q := by rw [hl0]; exact Int.emod_lt_of_pos _ hq
  have b0 : 0 ≤ l1 := by rw [hl1]; exact Int.ediv_nonneg (by omega) (by omega)
  have b1 : l1 < p := by rw [hl1, Int.ediv_lt_iff_lt_mul hq, hpq]; omega
  have c0 : 0 ≤ l0 * p := Int.mul_nonneg a0 (by omega)
  have c1 : (l0 + 1) * p ≤ q * p := Int.mul_le_mul_of_nonneg_right (by omega) (by omega)
  rw [Int.add_mul, Int.mul_comm q p, hpq] at c1
  have em : m = 18446744073709551616 * h + l := by omega
  have e2 : m * p + f = 18446744073709551616 * (h * p + l1) + (l0 * p + f) := by
    rw [em, e1, ← hpq]
    simp only [Int.mul_add, Int.mul_comm, Int.mul_left_comm]; omega
  have e3 : (m * p + f) / 18446744073709551616 = h * p + l1 := by rw [e2]; omega
  rw [e3]
  have e4 : h = 18446744073709551616 * (h / 18446744073709551616) + x := by omega
  have e5 : h * p = 18446744073709551616 * (h / 18446744073709551616 * p) + x * p := by
    conv => lhs; rw [e4]
    rw [Int.add_mul, Int.mul_assoc]
  obtain ⟨c, hc⟩ : ∃ c, c = x * p / 18446744073709551616 := ⟨_, rfl⟩
  have e6 : x * p = 18446744073709551616 * c + x * p % 18446744073709551616 := by omega
  have e7 : x * p % 18446744073709551616 = (x - q * c) * p := by
    rw [hc]; exact emod_mul hpq
  have r0 : 0 ≤ x * p % 18446744073709551616 := by omega
  have r1 : x * p % 18446744073709551616 < 18446744073709551616 := by omega
  have e8 : x - q * c < q := by
    rcases Int.lt_or_le (x - q * c) q with h | h
    · exact h
    · have := Int.mul_le_mul_of_nonneg_right h (by omega : 0 ≤ p)
      rw [Int.mul_comm q p, hpq] at this; omega
  have e9 : (x - q * c + 1) * p ≤ q * p := Int.mul_le_mul_of_nonneg_right (by omega) (by omega)
  rw [Int.add_mul, Int.mul_comm q p, hpq] at e9
  rw [e5]; omega
theorem pw2 {s : Int} (h0 : 0 ≤ s) (h1 : s ≤ 63) : (2 : Int) ^ s.toNat * 2 ^ (64 - s).toNat = 18446744073709551616 := by
  rw [← Int.pow_add, show s.toNat + (64 - s).toNat = 64 from by omega]; rfl
theorem up_lim {n s : Int} (h0 : 0 ≤ s) (h1 : s ≤ 63) (i : Nat) :
    lim (n * 2 ^ s.toNat) (i + 1) = lim n (i + 1) * 2 ^ s.toNat % 18446744073709551616 + lim n i / 2 ^ (64 - s).toNat := by
  have hp := pw_pos s.toNat
  have hq := pw_pos (64 - s).toNat
  have hpq := pw2 h0 h1
  generalize (2 : Int) ^ s.toNat = p at *
  generalize (2 : Int) ^ (64 - s).toNat = q at *
  obtain ⟨b, hb⟩ : ∃ b, b = (18446744073709551616 : Int) ^ i := ⟨_, rfl⟩
  have hb0 : 0 < b := by rw [hb]; exact Int.pow_pos (by decide)
  unfold lim
  rw [Int.pow_succ, ← hb]
  obtain ⟨m, hm⟩ : ∃ m, m = n / b := ⟨_, rfl⟩
  have hn : n = b * m + n % b := by rw [hm]; exact (Int.mul_ediv_add_emod n b).symm
  have l0 : 0 ≤ n % b := Int.emod_nonneg _ (by omega)
  have l1 : n % b < b := Int.emod_lt_of_pos _ hb0
  have e1 : n * p / b = m * p + n % b * p / b := by
    conv => lhs; rw [hn]
    rw [Int.add_mul, Int.mul_assoc, Int.add_comm, Int.add_mul_ediv_left _ _ (by omega), Int.add_comm]
  have f0 : 0 ≤ n % b * p / b := Int.ediv_nonneg (Int.mul_nonneg l0 (by omega)) (by omega)
  have f1 : n % b * p / b < p := by
    rw [Int.ediv_lt_iff_lt_mul hb0, Int.mul_comm p b]
    exact (Int.mul_lt_mul_right hp).2 l1
  rw [← Int.ediv_ediv_of_nonneg (by omega : 0 ≤ b), ← Int.ediv_ediv_of_nonneg (by omega : 0 ≤ b), e1, ← hm]
  exact up_core hp hq hpq f0 f1
theorem up_or {x l s : Int} (h0 : 0 ≤ s) (h1 : s ≤ 63) (hx : W x) (hl : W l) :
    IntKind.u64.wrap (((BitVec.ofInt 64 (IntKind.u64.wrap (x * 2 ^ (min (Int.toNat s) 64))) ||| BitVec.ofInt 64 (Int.fdiv l (2 ^ (min (Int.toNat (64 - s)) 64))) : BitVec 64).toNat : Nat) : Int) = x * 2 ^ s.toNat % 18446744073709551616 + l / 2 ^ (64 - s).toNat := by
  have m1 : min (Int.toNat s) 64 = s.toNat := Nat.min_eq_left (by omega)
  have m2 : min (Int.toNat (64 - s)) 64 = (64 - s).toNat := Nat.min_eq_left (by omega)
  rw [m1, m2, wrap_u64 (x * 2 ^ s.toNat)]
  have hp := pw_pos s.toNat
  have hq := pw_pos (64 - s).toNat
  have hpq := pw2 h0 h1
  rw [Int.fdiv_eq_ediv_of_nonneg _ (by omega)]
  have e := emod_mul (x := x) hpq
  have r0 : 0 ≤ x * 2 ^ s.toNat % 18446744073709551616 := Int.emod_nonneg _ (by decide)
  have r1 : x * 2 ^ s.toNat % 18446744073709551616 < 18446744073709551616 := Int.emod_lt_of_pos _ (by decide)
  have b0 : 0 ≤ l / 2 ^ (64 - s).toNat := Int.ediv_nonneg hl.1 (by omega)
  have b1 : l / 2 ^ (64 - s).toNat < 2 ^ s.toNat := by rw [Int.ediv_lt_iff_lt_mul hq, hpq]; exact hl.2
  rw [e] at r0 r1 ⊢
  have hc : 0 ≤ x - 2 ^ (64 - s).toNat * (x * 2 ^ s.toNat / 18446744073709551616) := by
    rcases Int.lt_or_le (x - 2 ^ (64 - s).toNat * (x * 2 ^ s.toNat / 18446744073709551616)) 0 with h | h
    · have := Int.mul_neg_of_neg_of_pos h hp
      omega
    · exact h
  exact bor_add s.toNat (by omega) hc b0 b1 r1
end Go.Sx

namespace Go.Sx
def setw (c : Array Value) (j : Nat) : List Value → Array Value
  | [] => c
  | v :: vs => setw (c.setIfInBounds j v) (j + 1) vs
theorem setw_size (vs : List Value) : ∀ (c : Array Value) (j : Nat), (setw c j vs).size = c.size := by
  induction vs with
  | nil => intro c j; rfl
  | cons v vs ih => intro c j; rw [setw, ih, Array.size_setIfInBounds]
theorem gs {c : Array Value} {m n : Nat} {x v : Value} (h : c[m]? = some x) (hne : n ≠ m) : (c.setIfInBounds n v)[m]? = some x := by
  rw [Array.getElem?_setIfInBounds_ne hne]; exact h
theorem setw_get_lt (vs : List Value) : ∀ (c : Array Value) (j i : Nat), i < j → (setw c j vs)[i]? = c[i]? := by
  induction vs with
  | nil => intro c j i _; rfl
  | cons v vs ih => intro c j i h; rw [setw, ih _ _ _ (by omega), Array.getElem?_setIfInBounds_ne (by omega)]
theorem setw_get (vs : List Value) : ∀ (c : Array Value) (j i : Nat) (x : Value), j + vs.length ≤ c.size → vs[i]? = some x → (setw c j vs)[j + i]? = some x := by
  induction vs with
  | nil => intro c j i x _ h; simp at h
  | cons v vs ih =>
    intro c j i x hs h
    rw [List.length_cons] at hs
    rw [setw]
    cases i with
    | zero =>
      rw [setw_get_lt _ _ _ _ (by omega)]
      simp at h; subst h
      rw [Nat.add_zero, Array.getElem?_setIfInBounds_self_of_lt (by omega)]
    | succ i =>
      rw [show j + (i + 1) = (j + 1) + i from by omega]
      exact ih _ _ _ _ (by rw [Array.size_setIfInBounds]; omega) (by simpa using h)
theorem setw_comm (vs : List Value) : ∀ (c : Array Value) (j i : Nat) (x : Value), i < j → setw (c.setIfInBounds i x) j vs = (setw c j vs).setIfInBounds i x := by
  induction vs with
  | nil => intro c j i x _; rfl
  | cons v vs ih =>
    intro c j i x h
    rw [setw, setw, ← ih _ _ _ _ (by omega), Array.setIfInBounds_comm _ _ (by omega)]
theorem setw_setw (vs : List Value) : ∀ (ws : List Value) (c : Array Value) (j : Nat), ws.length = vs.length → setw (setw c j ws) j vs = setw c j vs := by
  induction vs with
  | nil => intro ws c j h; cases ws with
    | nil => rfl
    | cons => simp at h
  | cons v vs ih =>
    intro ws c j h
    cases ws with
    | nil => simp at h
    | cons u us =>
      rw [setw, setw, setw, ← setw_comm us _ _ j v (by omega), Array.setIfInBounds_setIfInBounds]
      exact ih _ _ _ (by simpa using h)
theorem frz0 (n : Nat) : frz (0, 0) n = false := by simp [frz]
structure StepR (U V q R : Int) : Prop where
  eq : q * V + R = U
  r0 : 0 ≤ R
  r1 : R < V
  wq : W q
theorem wit_q {U V : Int} (h0 : 0 ≤ U) (h1 : U < V * 18446744073709551616) (hV : 0 < V) : StepR U V (U / V) (U % V) := by
  refine ⟨by rw [Int.mul_comm]; exact Int.mul_ediv_add_emod _ _, Int.emod_nonneg _ (by omega), Int.emod_lt_of_pos _ hV, Int.ediv_nonneg h0 (by omega), ?_⟩
  rw [Int.ediv_lt_iff_lt_mul hV, Int.mul_comm]; exact h1
/-- What a guess must be: the rest is less than the divisor. -/
structure GuessR (U V g : Int) : Prop where
  w : W g
  lt : U - g * V < V
theorem guess_max {U V : Int} (h : U < V * 18446744073709551616) : GuessR U V 18446744073709551615 :=
  ⟨⟨by decide, by decide⟩, by omega⟩
/-- A guess by the two highest limbs. p: the power of the divisor's highest limb. -/
theorem guess_div {U V hi lo v q r p l : Int} (h : q * v + r = hi * 18446744073709551616 + lo) (r1 : r < v) (wq : W q) (hp : 0 < p) (hU : U < (hi * 18446744073709551616 + lo + 1) * p) (hV : V = v * p + l) (l0 : 0 ≤ l) : GuessR U V q := by
  refine ⟨wq, ?_⟩
  have a : (hi * 18446744073709551616 + lo + 1) * p ≤ (q + 1) * v * p := by
    apply Int.mul_le_mul_of_nonneg_right _ (by omega)
    rw [Int.add_mul]; omega
  have b : 0 ≤ (q + 1) * l := Int.mul_nonneg (by have := wq.1; omega) l0
  have c : (q + 1) * V = (q + 1) * v * p + (q + 1) * l := by rw [hV, Int.mul_add, Int.mul_assoc]
  rw [Int.add_mul q 1 V] at c
  omega
structure LoopR (U V P g c D : Int) : Prop where
  w : W g
  c0 : 0 ≤ c
  c1 : c ≤ 1
  eq : g * V + (D - c * P) = U
  lt : D - c * P < V
theorem loop_dec {U V P g c D c' D' k : Int} (h : LoopR U V P g c D) (hc : (c == (0 : Int)) = false) (hU : 0 ≤ U) (hD : D < P) (hk : D' + k * P = D + V) (hD' : 0 ≤ D') (hD1 : D' < P) (k0 : 0 ≤ k) (k1 : k ≤ 1)
    (hV : 0 < V) (hc' : c' = IntKind.u64.wrap (c - k)) : LoopR U V P (IntKind.u64.wrap (g - 1)) c' D' ∧ (IntKind.u64.wrap (g - 1)).toNat < g.toNat := by
  obtain ⟨w, c0, c1, eq, lt⟩ := h
  have c2 : c = 1 := by
    have : c ≠ 0 := by simpa using hc
    omega
  subst c2
  have g1 : 1 ≤ g := by
    rcases Int.lt_or_le g 1 with h | h
    · have : g = 0 := by have := w.1; omega
      subst this; omega
    · exact h
  have := w.2
  rw [wrap_W (a := 1 - k) ⟨by omega, by omega⟩] at hc'
  rw [wrap_W (a := g - 1) ⟨by omega, by omega⟩]
  subst hc'
  have e : (1 - k) * P = P - k * P := by rw [Int.sub_mul, Int.one_mul]
  refine ⟨⟨⟨by omega, by omega⟩, by omega, by omega, ?_, ?_⟩, by omega⟩
  · rw [e, Int.sub_mul g 1 V]; omega
  · rw [e]; omega
theorem loop_ret {U V P g c D : Int} (h : LoopR U V P g c D) (hc : (c == (0 : Int)) = true) (hD : 0 ≤ D) : StepR U V g D := by
  have : c = 0 := by simpa using hc
  subst this
  have h1 := h.eq; have h2 := h.lt
  rw [Int.zero_mul] at h1 h2
  exact ⟨by omega, hD, by omega, h.w⟩
end Go.Sx

namespace Go.Sx
theorem dist1 (g v0 : Int) : g * (v0) = g * v0 := by
  rfl
theorem addk1 {v0 y0 y1 d0 d1 c0 c1 : Int} (a0 : AddR d0 v0 0 y0 c0) (ak : AddR d1 0 c0 y1 c1) : y0 + 18446744073709551616 * y1 + c1 * 340282366920938463463374607431768211456 = d0 + 18446744073709551616 * d1 + (v0) := by
  have e0 := a0.eq
  have ek := ak.eq
  rw [cin0] at e0
  rw [cin_of a0.o0 a0.o1] at ek
  omega
theorem guess_ok1 {u0 u1 v0 q r e : Int} (h : DivR u1 u0 v0 q r e) (he : (e != 0) = false) (hv : 0 < v0) (wu0 : W u0) (wu1 : W u1) (wv0 : W v0) : GuessR (u0 + 18446744073709551616 * u1) (v0) q := by
  have he : e = 0 := by simpa using he
  have hlt : u1 < v0 := by
    rcases Int.lt_or_le u1 v0 with h' | h'
    · exact h'
    · have := h.over (by omega) h'; omega
  obtain ⟨_, h1, h2, h3, h4, h5⟩ := h.ok hlt
  refine guess_div (p := 1) (l := 0) h1 h3 ⟨h4, h5⟩ (by decide) ?_ ?_ ?_ <;> unfold W at * <;> omega
theorem wit_step1 {U V : Int} (h0 : 0 ≤ U) (h1 : U < V * 18446744073709551616) (hV : 0 < V) (hP : V < 18446744073709551616) : ∃ x : Int × Int × Int, (fun zx => StepR U V zx.1 (zx.2.1 + 18446744073709551616 * zx.2.2) ∧ W zx.2.1 ∧ W zx.2.2) x := by
  have s := wit_q h0 h1 hV
  refine ⟨(U / V, lim (U % V) 0, lim (U % V) 1), ?_, W_lim _ _, W_lim _ _⟩
  dsimp only
  have e : lim (U % V) 0 + 18446744073709551616 * lim (U % V) 1 = U % V := by
    have := s.r0; have := s.r1
    unfold lim; omega
  rw [e]; exact s
theorem dist2 (g v0 v1 : Int) : g * (v0 + 18446744073709551616 * v1) = g * v0 + 18446744073709551616 * (g * v1) := by
  rw [Int.mul_add, Int.mul_left_comm g]
theorem addk2 {v0 v1 y0 y1 y2 d0 d1 d2 c0 c1 c2 : Int} (a0 : AddR d0 v0 0 y0 c0) (a1 : AddR d1 v1 c0 y1 c1) (ak : AddR d2 0 c1 y2 c2) : y0 + 18446744073709551616 * y1 + 340282366920938463463374607431768211456 * y2 + c2 * 6277101735386680763835789423207666416102355444464034512896 = d0 + 18446744073709551616 * d1 + 340282366920938463463374607431768211456 * d2 + (v0 + 18446744073709551616 * v1) := by
  have e0 := a0.eq
  have e1 := a1.eq
  have ek := ak.eq
  rw [cin0] at e0
  rw [cin_of a0.o0 a0.o1] at e1
  rw [cin_of a1.o0 a1.o1] at ek
  omega
theorem guess_ok2 {u0 u1 u2 v0 v1 q r e : Int} (h : DivR u2 u1 v1 q r e) (he : (e != 0) = false) (hv : 0 < v1) (wu0 : W u0) (wu1 : W u1) (wu2 : W u2) (wv0 : W v0) (wv1 : W v1) : GuessR (u0 + 18446744073709551616 * u1 + 340282366920938463463374607431768211456 * u2) (v0 + 18446744073709551616 * v1) q := by
  have he : e = 0 := by simpa using he
  have hlt : u2 < v1 := by
    rcases Int.lt_or_le u2 v1 with h' | h'
    · exact h'
    · have := h.over (by omega) h'; omega
  obtain ⟨_, h1, h2, h3, h4, h5⟩ := h.ok hlt
  refine guess_div (p := 18446744073709551616) (l := v0) h1 h3 ⟨h4, h5⟩ (by decide) ?_ ?_ ?_ <;> unfold W at * <;> omega
theorem wit_step2 {U V : Int} (h0 : 0 ≤ U) (h1 : U < V * 18446744073709551616) (hV : 0 < V) (hP : V < 340282366920938463463374607431768211456) : ∃ x : Int × Int × Int × Int, (fun zx => StepR U V zx.1 (zx.2.1 + 18446744073709551616 * zx.2.2.1 + 340282366920938463463374607431768211456 * zx.2.2.2) ∧ W zx.2.1 ∧ W zx.2.2.1 ∧ W zx.2.2.2) x := by
  have s := wit_q h0 h1 hV
  refine ⟨(U / V, lim (U % V) 0, lim (U % V) 1, lim (U % V) 2), ?_, W_lim _ _, W_lim _ _, W_lim _ _⟩
  dsimp only
  have e : lim (U % V) 0 + 18446744073709551616 * lim (U % V) 1 + 340282366920938463463374607431768211456 * lim (U % V) 2 = U % V := by
    have := s.r0; have := s.r1
    unfold lim; omega
  rw [e]; exact s
theorem dist3 (g v0 v1 v2 : Int) : g * (v0 + 18446744073709551616 * v1 + 340282366920938463463374607431768211456 * v2) = g * v0 + 18446744073709551616 * (g * v1) + 340282366920938463463374607431768211456 * (g * v2) := by
  rw [Int.mul_add, Int.mul_add, Int.mul_left_comm g, Int.mul_left_comm g]
theorem addk3 {v0 v1 v2 y0 y1 y2 y3 d0 d1 d2 d3 c0 c1 c2 c3 : Int} (a0 : AddR d0 v0 0 y0 c0) (a1 : AddR d1 v1 c0 y1 c1) (a2 : AddR d2 v2 c1 y2 c2) (ak : AddR d3 0 c2 y3 c3) : y0 + 18446744073709551616 * y1 + 340282366920938463463374607431768211456 * y2 + 6277101735386680763835789423207666416102355444464034512896 * y3 + c3 * 115792089237316195423570985008687907853269984665640564039457584007913129639936 = d0 + 18446744073709551616 * d1 + 340282366920938463463374607431768211456 * d2 + 6277101735386680763835789423207666416102355444464034512896 * d3 + (v0 + 18446744073709551616 * v1 + 340282366920938463463374607431768211456 * v2) := by
  have e0 := a0.eq
  have e1 := a1.eq
  have e2 := a2.eq
  have ek := ak.eq
  rw [cin0] at e0
  rw [cin_of a0.o0 a0.o1] at e1
  rw [cin_of a1.o0 a1.o1] at e2
  rw [cin_of a2.o0 a2.o1] at ek
  omega
theorem guess_ok3 {u0 u1 u2 u3 v0 v1 v2 q r e : Int} (h : DivR u3 u2 v2 q r e) (he : (e != 0) = false) (hv : 0 < v2) (wu0 : W u0) (wu1 : W u1) (wu2 : W u2) (wu3 : W u3) (wv0 : W v0) (wv1 : W v1) (wv2 : W v2) : GuessR (u0 + 18446744073709551616 * u1 + 340282366920938463463374607431768211456 * u2 + 6277101735386680763835789423207666416102355444464034512896 * u3) (v0 + 18446744073709551616 * v1 + 340282366920938463463374607431768211456 * v2) q := by
  have he : e = 0 := by simpa using he
  have hlt : u3 < v2 := by
    rcases Int.lt_or_le u3 v2 with h' | h'
    · exact h'
    · have := h.over (by omega) h'; omega
  obtain ⟨_, h1, h2, h3, h4, h5⟩ := h.ok hlt
  refine guess_div (p := 340282366920938463463374607431768211456) (l := v0 + 18446744073709551616 * v1) h1 h3 ⟨h4, h5⟩ (by decide) ?_ ?_ ?_ <;> unfold W at * <;> omega
theorem wit_step3 {U V : Int} (h0 : 0 ≤ U) (h1 : U < V * 18446744073709551616) (hV : 0 < V) (hP : V < 6277101735386680763835789423207666416102355444464034512896) : ∃ x : Int × Int × Int × Int × Int, (fun zx => StepR U V zx.1 (zx.2.1 + 18446744073709551616 * zx.2.2.1 + 340282366920938463463374607431768211456 * zx.2.2.2.1 + 6277101735386680763835789423207666416102355444464034512896 * zx.2.2.2.2) ∧ W zx.2.1 ∧ W zx.2.2.1 ∧ W zx.2.2.2.1 ∧ W zx.2.2.2.2) x := by
  have s := wit_q h0 h1 hV
  refine ⟨(U / V, lim (U % V) 0, lim (U % V) 1, lim (U % V) 2, lim (U % V) 3), ?_, W_lim _ _, W_lim _ _, W_lim _ _, W_lim _ _⟩
  dsimp only
  have e : lim (U % V) 0 + 18446744073709551616 * lim (U % V) 1 + 340282366920938463463374607431768211456 * lim (U % V) 2 + 6277101735386680763835789423207666416102355444464034512896 * lim (U % V) 3 = U % V := by
    have := s.r0; have := s.r1
    unfold lim; omega
  rw [e]; exact s
theorem dist4 (g v0 v1 v2 v3 : Int) : g * (v0 + 18446744073709551616 * v1 + 340282366920938463463374607431768211456 * v2 + 6277101735386680763835789423207666416102355444464034512896 * v3) = g * v0 + 18446744073709551616 * (g * v1) + 340282366920938463463374607431768211456 * (g * v2) + 6277101735386680763835789423207666416102355444464034512896 * (g * v3) := by
  rw [Int.mul_add, Int.mul_add, Int.mul_add, Int.mul_left_comm g, Int.mul_left_comm g, Int.mul_left_comm g]
theorem addk4 {v0 v1 v2 v3 y0 y1 y2 y3 y4 d0 d1 d2 d3 d4 c0 c1 c2 c3 c4 : Int} (a0 : AddR d0 v0 0 y0 c0) (a1 : AddR d1 v1 c0 y1 c1) (a2 : AddR d2 v2 c1 y2 c2) (a3 : AddR d3 v3 c2 y3 c3) (ak : AddR d4 0 c3 y4 c4) : y0 + 18446744073709551616 * y1 + 340282366920938463463374607431768211456 * y2 + 6277101735386680763835789423207666416102355444464034512896 * y3 + 115792089237316195423570985008687907853269984665640564039457584007913129639936 * y4 + c4 * 2135987035920910082395021706169552114602704522356652769947041607822219725780640550022962086936576 = d0 + 18446744073709551616 * d1 + 340282366920938463463374607431768211456 * d2 + 6277101735386680763835789423207666416102355444464034512896 * d3 + 115792089237316195423570985008687907853269984665640564039457584007913129639936 * d4 + (v0 + 18446744073709551616 * v1 + 340282366920938463463374607431768211456 * v2 + 6277101735386680763835789423207666416102355444464034512896 * v3) := by
  have e0 := a0.eq
  have e1 := a1.eq
  have e2 := a2.eq
  have e3 := a3.eq
  have ek := ak.eq
  rw [cin0] at e0
  rw [cin_of a0.o0 a0.o1] at e1
  rw [cin_of a1.o0 a1.o1] at e2
  rw [cin_of a2.o0 a2.o1] at e3
  rw [cin_of a3.o0 a3.o1] at ek
  omega
theorem guess_ok4 {u0 u1 u2 u3 u4 v0 v1 v2 v3 q r e : Int} (h : DivR u4 u3 v3 q r e) (he : (e != 0) = false) (hv : 0 < v3) (wu0 : W u0) (wu1 : W u1) (wu2 : W u2) (wu3 : W u3) (wu4 : W u4) (wv0 : W v0) (wv1 : W v1) (wv2 : W v2) (wv3 : W v3) : GuessR (u0 + 18446744073709551616 * u1 + 340282366920938463463374607431768211456 * u2 + 6277101735386680763835789423207666416102355444464034512896 * u3 + 115792089237316195423570985008687907853269984665640564039457584007913129639936 * u4) (v0 + 18446744073709551616 * v1 + 340282366920938463463374607431768211456 * v2 + 6277101735386680763835789423207666416102355444464034512896 * v3) q := by
  have he : e = 0 := by simpa using he
  have hlt : u4 < v3 := by
    rcases Int.lt_or_le u4 v3 with h' | h'
    · exact h'
    · have := h.over (by omega) h'; omega
  obtain ⟨_, h1, h2, h3, h4, h5⟩ := h.ok hlt
  refine guess_div (p := 6277101735386680763835789423207666416102355444464034512896) (l := v0 + 18446744073709551616 * v1 + 340282366920938463463374607431768211456 * v2) h1 h3 ⟨h4, h5⟩ (by decide) ?_ ?_ ?_ <;> unfold W at * <;> omega
theorem wit_step4 {U V : Int} (h0 : 0 ≤ U) (h1 : U < V * 18446744073709551616) (hV : 0 < V) (hP : V < 115792089237316195423570985008687907853269984665640564039457584007913129639936) : ∃ x : Int × Int × Int × Int × Int × Int, (fun zx => StepR U V zx.1 (zx.2.1 + 18446744073709551616 * zx.2.2.1 + 340282366920938463463374607431768211456 * zx.2.2.2.1 + 6277101735386680763835789423207666416102355444464034512896 * zx.2.2.2.2.1 + 115792089237316195423570985008687907853269984665640564039457584007913129639936 * zx.2.2.2.2.2) ∧ W zx.2.1 ∧ W zx.2.2.1 ∧ W zx.2.2.2.1 ∧ W zx.2.2.2.2.1 ∧ W zx.2.2.2.2.2) x := by
  have s := wit_q h0 h1 hV
  refine ⟨(U / V, lim (U % V) 0, lim (U % V) 1, lim (U % V) 2, lim (U % V) 3, lim (U % V) 4), ?_, W_lim _ _, W_lim _ _, W_lim _ _, W_lim _ _, W_lim _ _⟩
  dsimp only
  have e : lim (U % V) 0 + 18446744073709551616 * lim (U % V) 1 + 340282366920938463463374607431768211456 * lim (U % V) 2 + 6277101735386680763835789423207666416102355444464034512896 * lim (U % V) 3 + 115792089237316195423570985008687907853269984665640564039457584007913129639936 * lim (U % V) 4 = U % V := by
    have := s.r0; have := s.r1
    unfold lim; omega
  rw [e]; exact s
theorem sub_step {g v h l o s c u br d br' : Int} (m : MulR g v h l) (a : AddR l o 0 s c) (b : SubR u s br d br') (b0 : 0 ≤ br) (b1 : br ≤ 1) : d - br' * 18446744073709551616 - (h + c) * 18446744073709551616 = u - g * v - o - br := by
  have e := m.eq; have e1 := a.eq; have e2 := b.eq
  rw [cin0] at e1; rw [cin_of b0 b1] at e2; omega
theorem up_limb {c s : Int} (h0 : 0 ≤ s) (h1 : s ≤ 63) : c * 2 ^ s.toNat = c * 2 ^ s.toNat % 18446744073709551616 + 18446744073709551616 * (c / 2 ^ (64 - s).toNat) := by
  have hp := pw_pos s.toNat
  have e : c * 2 ^ s.toNat / 18446744073709551616 = c / 2 ^ (64 - s).toNat := by
    rw [← pw2 h0 h1, Int.mul_comm (2 ^ s.toNat)]; exact Int.mul_ediv_mul_of_pos_left _ _ hp
  rw [← e]; exact (Int.emod_add_mul_ediv _ _).symm
theorem up_W {c l s : Int} (h0 : 0 ≤ s) (h1 : s ≤ 63) (hl : W l) : W (c * 2 ^ s.toNat % 18446744073709551616 + l / 2 ^ (64 - s).toNat) := by
  have hp := pw_pos s.toNat
  have hq := pw_pos (64 - s).toNat
  have hpq := pw2 h0 h1
  have e := emod_mul (x := c) hpq
  have r0 : 0 ≤ c * 2 ^ s.toNat % 18446744073709551616 := Int.emod_nonneg _ (by decide)
  have r1 : c * 2 ^ s.toNat % 18446744073709551616 < 18446744073709551616 := Int.emod_lt_of_pos _ (by decide)
  have b0 : 0 ≤ l / 2 ^ (64 - s).toNat := Int.ediv_nonneg hl.1 (by omega)
  have b1 : l / 2 ^ (64 - s).toNat < 2 ^ s.toNat := by rw [Int.ediv_lt_iff_lt_mul hq, hpq]; exact hl.2
  generalize c - 2 ^ (64 - s).toNat * (c * 2 ^ s.toNat / 18446744073709551616) = z at e
  have hz : z + 1 ≤ 2 ^ (64 - s).toNat := by
    rcases Int.lt_or_le z (2 ^ (64 - s).toNat) with h | h
    · exact h
    · have := Int.mul_le_mul_of_nonneg_right h (by omega : 0 ≤ (2 : Int) ^ s.toNat)
      rw [Int.mul_comm (2 ^ (64 - s).toNat), hpq] at this; omega
  have := Int.mul_le_mul_of_nonneg_right hz (by omega : 0 ≤ (2 : Int) ^ s.toNat)
  rw [Int.mul_comm (2 ^ (64 - s).toNat), hpq, Int.add_mul] at this
  exact ⟨by omega, by omega⟩
end Go.Sx

namespace Go.Sx
def wDiv (n d : Int) : Int × Int × Int := if d = 0 then (0, 0, 3) else (n / d, n % d, 0)
theorem wDiv_R8 {n d : Int} (hn : R8 n) (hd : R4 d) : R8 (wDiv n d).1 := by
  unfold wDiv; split
  · exact ⟨by decide, by decide⟩
  · refine ⟨Int.ediv_nonneg hn.1 hd.1, Int.lt_of_le_of_lt (Int.ediv_le_self _ hn.1) hn.2⟩
theorem wDiv_R4 {n d : Int} (hd : R4 d) : R4 (wDiv n d).2.1 := by
  unfold wDiv; split
  · exact R4_zero
  · have h := hd.1
    refine ⟨Int.emod_nonneg _ (by assumption), Int.lt_trans (Int.emod_lt_of_pos _ (by omega)) hd.2⟩
theorem fin3 {f : Int × Int × Int} {v w : Value} {n r e : Int} (h : f = (n, r, e)) (hn : R8 n) (hr : R4 r) (hv : vW n = v) (hw : vI r = w) :
    ∃ zx : Int × Int × Int, (R8 zx.1 ∧ R4 zx.2.1 ∧ zx = f) ∧ Value.tuple #[v, w, .int .i64 e] = .tuple #[vW zx.1, vI zx.2.1, .int .i64 zx.2.2] ∧ True :=
  ⟨(n, r, e), ⟨hn, hr, h.symm⟩, by rw [hv, hw], trivial⟩
theorem nrm_s {y : Int} (h : W y) (h0 : (y == (0 : Int)) = false) : IntKind.i64.wrap (64 - ((blen y.toNat : Nat) : Int)) = ((nrm y : Nat) : Int) := by
  have h0 : y ≠ 0 := by simpa using h0
  obtain ⟨_, _, h3, _, h5⟩ := nrm_spec (y := y) (by have := h.1; omega) h.2
  rw [wrap_i64 _ (by omega) (by omega), h5]
theorem nrm_0 (y : Int) : 0 ≤ ((nrm y : Nat) : Int) := by omega
theorem nrm_63 {y : Int} (h : W y) (h0 : (y == (0 : Int)) = false) : ((nrm y : Nat) : Int) ≤ 63 := by
  have h0 : y ≠ 0 := by simpa using h0
  obtain ⟨_, _, h3, _, h5⟩ := nrm_spec (y := y) (by have := h.1; omega) h.2
  omega
theorem lims8 {n : Int} (h : R8 n) : lim n 0 + 18446744073709551616 * lim n 1 + 340282366920938463463374607431768211456 * lim n 2 + 6277101735386680763835789423207666416102355444464034512896 * lim n 3 + 115792089237316195423570985008687907853269984665640564039457584007913129639936 * lim n 4 + 2135987035920910082395021706169552114602704522356652769947041607822219725780640550022962086936576 * lim n 5 + 39402006196394479212279040100143613805079739270465446667948293404245721771497210611414266254884915640806627990306816 * lim n 6 + 726838724295606890549323807888004534353641360687318060281490199180639288113397923326191050713763565560762521606266177933534601628614656 * lim n 7 = n := by
  have e := num_vW h
  rw [show num (vW n) = _ from num8 ..] at e; omega
/-- What the shift of the highest limb comes to. -/
theorem nrm_top {t : Int} (h : W t) (h0 : (t == (0 : Int)) = false) : ∃ p q : Int, p = 2 ^ nrm t ∧ q = 2 ^ (64 - nrm t) ∧ 0 < p ∧ 0 < q ∧ p * q = 18446744073709551616 ∧ 2 * p ≤ 18446744073709551616 ∧ 9223372036854775808 ≤ t * p ∧ t / q = 0 ∧
    (2 : Int) ^ (((nrm t : Nat) : Int)).toNat = p ∧ (2 : Int) ^ (64 - ((nrm t : Nat) : Int)).toNat = q := by
  have h0 : t ≠ 0 := by simpa using h0
  have ht : 0 < t := by have := h.1; omega
  obtain ⟨h1, h2, h3, h4, h5⟩ := nrm_spec ht h.2
  have hp := pw_pos (nrm t); have hq := pw_pos (64 - nrm t)
  refine ⟨_, _, rfl, rfl, hp, hq, h4, ?_, h1, ?_, by rw [Int.toNat_natCast], by rw [show (64 - ((nrm t : Nat) : Int)).toNat = 64 - nrm t from by omega]⟩
  · have e : 64 - nrm t = (63 - nrm t) + 1 := by omega
    have hq2 := pw_pos (63 - nrm t)
    rw [e, Int.pow_succ, ← Int.mul_assoc] at h4
    have : (2 : Int) ^ nrm t * 1 ≤ 2 ^ nrm t * 2 ^ (63 - nrm t) := Int.mul_le_mul_of_nonneg_left (by omega) (by omega)
    omega
  · generalize (2 : Int) ^ nrm t = p at *
    generalize (2 : Int) ^ (64 - nrm t) = q at *
    refine Int.ediv_eq_zero_of_lt h.1 ?_
    rcases Int.lt_or_le t q with h | h
    · exact h
    · have := Int.mul_le_mul_of_nonneg_right h (by omega : 0 ≤ p)
      rw [Int.mul_comm q p] at this; omega
theorem chain_step {x V q R Q T R' : Int} (hA : Q * V + R' = T) (hS : StepR (x + 18446744073709551616 * R') V q R) : (q + 18446744073709551616 * Q) * V + R = x + 18446744073709551616 * T := by
  have := hS.eq
  rw [Int.add_mul, Int.mul_assoc]; omega
theorem div_end {Q V R N D p : Int} (h : Q * V + R = N * p) (hV : V = D * p) (r0 : 0 ≤ R) (r1 : R < V) (hp : 0 < p) : N / D = Q ∧ R = N % D * p ∧ D ≠ 0 := by
  subst hV
  have e : R = (N - Q * D) * p := by rw [Int.sub_mul, Int.mul_assoc]; omega
  have hD : 0 < D := by
    rcases Int.lt_or_le 0 D with h | h
    · exact h
    · have := Int.mul_le_mul_of_nonneg_right h (by omega : 0 ≤ p); omega
  obtain ⟨ρ, hρ⟩ : ∃ ρ, ρ = N - Q * D := ⟨_, rfl⟩
  rw [← hρ] at e
  have a0 : 0 ≤ ρ := by
    rcases Int.lt_or_le ρ 0 with h | h
    · have := Int.mul_neg_of_neg_of_pos h hp; omega
    · exact h
  have a1 : ρ < D := by
    rcases Int.lt_or_le ρ D with h | h
    · exact h
    · have := Int.mul_le_mul_of_nonneg_right h (by omega : 0 ≤ p); omega
  have hN : N = ρ + Q * D := by omega
  have e1 : N / D = Q := by rw [hN, Int.add_mul_ediv_right _ _ (by omega), Int.ediv_eq_zero_of_lt a0 a1]; omega
  have e2 : N % D = ρ := by rw [hN, Int.add_mul_emod_self_right, Int.emod_eq_of_lt a0 a1]
  exact ⟨e1, by rw [e2, e], by omega⟩
theorem down_or {x y : Int} {s : Int} (h0 : 0 ≤ s) (h1 : s ≤ 63) (hx : W x) (hy : W y) :
    IntKind.u64.wrap (((BitVec.ofInt 64 (Int.fdiv x (2 ^ (min (Int.toNat s) 64))) ||| BitVec.ofInt 64 (IntKind.u64.wrap (y * 2 ^ (min (Int.toNat (64 - s)) 64))) : BitVec 64).toNat : Nat) : Int) = x / 2 ^ s.toNat + y * 2 ^ (64 - s).toNat % 18446744073709551616 := by
  have m1 : min (Int.toNat s) 64 = s.toNat := Nat.min_eq_left (by omega)
  have m2 : min (Int.toNat (64 - s)) 64 = (64 - s).toNat := Nat.min_eq_left (by omega)
  rw [m1, m2, wrap_u64 (y * 2 ^ (64 - s).toNat), BitVec.or_comm]
  have hp := pw_pos s.toNat
  have hq := pw_pos (64 - s).toNat
  have hpq := pw2 h0 h1
  have hqp : (2 : Int) ^ (64 - s).toNat * 2 ^ s.toNat = 18446744073709551616 := by rw [Int.mul_comm]; exact hpq
  rw [Int.fdiv_eq_ediv_of_nonneg _ (by omega)]
  have e := emod_mul (x := y) hqp
  have r0 : 0 ≤ y * 2 ^ (64 - s).toNat % 18446744073709551616 := Int.emod_nonneg _ (by decide)
  have r1 : y * 2 ^ (64 - s).toNat % 18446744073709551616 < 18446744073709551616 := Int.emod_lt_of_pos _ (by decide)
  have b0 : 0 ≤ x / 2 ^ s.toNat := Int.ediv_nonneg hx.1 (by omega)
  have b1 : x / 2 ^ s.toNat < 2 ^ (64 - s).toNat := by rw [Int.ediv_lt_iff_lt_mul hp, hqp]; exact hx.2
  rw [e] at r0 r1 ⊢
  have hc : 0 ≤ y - 2 ^ s.toNat * (y * 2 ^ (64 - s).toNat / 18446744073709551616) := by
    rcases Int.lt_or_le (y - 2 ^ s.toNat * (y * 2 ^ (64 - s).toNat / 18446744073709551616)) 0 with h | h
    · have := Int.mul_neg_of_neg_of_pos h hq
      omega
    · exact h
  rw [Int.add_comm]
  exact bor_add (64 - s).toNat (by omega) hc b0 b1 r1
theorem down_limb {c p q : Int} (hp : 0 < p) (hq : 0 < q) (hpq : p * q = 18446744073709551616) : c * q = 18446744073709551616 * (c / p) + c * q % 18446744073709551616 ∧ 0 ≤ c * q % 18446744073709551616 ∧ c * q % 18446744073709551616 < 18446744073709551616 := by
  have e : c * q / 18446744073709551616 = c / p := by rw [← hpq]; exact Int.mul_ediv_mul_of_pos_left _ _ hq
  rw [← e]
  refine ⟨by omega, by omega, by omega⟩
theorem down_W {x y p q : Int} (hp : 0 < p) (hq : 0 < q) (hpq : p * q = 18446744073709551616) (hx : W x) : W (x / p + y * q % 18446744073709551616) := by
  have hqp : q * p = 18446744073709551616 := by rw [Int.mul_comm]; exact hpq
  have e := emod_mul (x := y) hqp
  have r0 : 0 ≤ y * q % 18446744073709551616 := Int.emod_nonneg _ (by decide)
  have r1 : y * q % 18446744073709551616 < 18446744073709551616 := Int.emod_lt_of_pos _ (by decide)
  have b0 : 0 ≤ x / p := Int.ediv_nonneg hx.1 (by omega)
  have b1 : x / p < q := by rw [Int.ediv_lt_iff_lt_mul hp, hqp]; exact hx.2
  generalize y - p * (y * q / 18446744073709551616) = z at e
  have hz : z + 1 ≤ p := by
    rcases Int.lt_or_le z p with h | h
    · exact h
    · have := Int.mul_le_mul_of_nonneg_right h (by omega : 0 ≤ q)
      omega
  have := Int.mul_le_mul_of_nonneg_right hz (by omega : 0 ≤ q)
  rw [hpq, Int.add_mul] at this
  exact ⟨by omega, by omega⟩
theorem nn2 {u0 u1 : Int} (hu0 : W u0) (hu1 : W u1) : 0 ≤ u0 + 18446744073709551616 * u1 := by unfold W at *; omega
theorem nn3 {u0 u1 u2 : Int} (hu0 : W u0) (hu1 : W u1) (hu2 : W u2) : 0 ≤ u0 + 18446744073709551616 * u1 + 340282366920938463463374607431768211456 * u2 := by unfold W at *; omega
theorem nn4 {u0 u1 u2 u3 : Int} (hu0 : W u0) (hu1 : W u1) (hu2 : W u2) (hu3 : W u3) : 0 ≤ u0 + 18446744073709551616 * u1 + 340282366920938463463374607431768211456 * u2 + 6277101735386680763835789423207666416102355444464034512896 * u3 := by unfold W at *; omega
theorem nn5 {u0 u1 u2 u3 u4 : Int} (hu0 : W u0) (hu1 : W u1) (hu2 : W u2) (hu3 : W u3) (hu4 : W u4) : 0 ≤ u0 + 18446744073709551616 * u1 + 340282366920938463463374607431768211456 * u2 + 6277101735386680763835789423207666416102355444464034512896 * u3 + 115792089237316195423570985008687907853269984665640564039457584007913129639936 * u4 := by unfold W at *; omega
theorem norm1 {z0 c0 : Int} (h : W c0) (hz : (c0 == (0 : Int)) = false) (wz0 : W z0)  (e : z0 + 18446744073709551616 * (c0 / 2 ^ (64 - ((nrm c0 : Nat) : Int)).toNat) = (c0) * 2 ^ (((nrm c0 : Nat) : Int)).toNat) :
    z0 = (c0) * 2 ^ nrm c0 ∧ 9223372036854775808 ≤ z0 ∧ 0 < z0 := by
  obtain ⟨p, q, hp', hq', hp, hq, hpq, hp2, ht, h0, e1, e2⟩ := nrm_top h hz
  rw [e1, e2, h0] at e
  rw [← hp']
  have e' := e
  skip
  unfold W at *
  refine ⟨by omega, by omega, by omega⟩
theorem first1 {N p V x0 x1 x2 x3 x4 x5 x6 x7 x8 : Int} (hN : R8 N) (hp : 0 < p) (hp2 : 2 * p ≤ 18446744073709551616) (wx0 : W x0) (wx1 : W x1) (wx2 : W x2) (wx3 : W x3) (wx4 : W x4) (wx5 : W x5) (wx6 : W x6) (wx7 : W x7) (wx8 : W x8) (e : x0 + 18446744073709551616 * x1 + 340282366920938463463374607431768211456 * x2 + 6277101735386680763835789423207666416102355444464034512896 * x3 + 115792089237316195423570985008687907853269984665640564039457584007913129639936 * x4 + 2135987035920910082395021706169552114602704522356652769947041607822219725780640550022962086936576 * x5 + 39402006196394479212279040100143613805079739270465446667948293404245721771497210611414266254884915640806627990306816 * x6 + 726838724295606890549323807888004534353641360687318060281490199180639288113397923326191050713763565560762521606266177933534601628614656 * x7 + 13407807929942597099574024998205846127479365820592393377723561443721764030073546976801874298166903427690031858186486050853753882811946569946433649006084096 * x8 = N * p) (hV : 9223372036854775808 ≤ V) : x7 + 18446744073709551616 * x8 < V * 18446744073709551616 := by
  have h : N * p ≤ 13407807929942597099574024998205846127479365820592393377723561443721764030073546976801874298166903427690031858186486050853753882811946569946433649006084095 * 9223372036854775808 := Int.mul_le_mul (by have := hN.2; omega) (by omega) (by omega) (by decide)
  rw [← e] at h
  unfold W at *; omega
theorem next1 {x U V q r0 r1 : Int} (hS : StepR U V q (r0 + 18446744073709551616 * r1)) (wx : W x) (wr0 : W r0) (wr1 : W r1) (hV : V < 18446744073709551616) : x + 18446744073709551616 * r0 = x + 18446744073709551616 * (r0 + 18446744073709551616 * r1) ∧ x + 18446744073709551616 * r0 < V * 18446744073709551616 := by
  have := hS.r0; have := hS.r1
  unfold W at *; constructor <;> omega
theorem rest1 {ρ p q V r0 r1 : Int} (hp : 0 < p) (hq : 0 < q) (hpq : p * q = 18446744073709551616) (hV : V < 18446744073709551616) (wr0 : W r0) (wr1 : W r1) (h : r0 + 18446744073709551616 * r1 = ρ * p) (hl : r0 + 18446744073709551616 * r1 < V) : (r0 / p + r1 * q % 18446744073709551616) = ρ := by
  have hk : r1 = 0 := by unfold W at *; omega
  have e : (r0 + 18446744073709551616 * r1) * q = ρ * 18446744073709551616 := by rw [h, Int.mul_assoc, hpq]
  rw [Int.add_mul, Int.mul_assoc 18446744073709551616] at e
  have d0 := down_limb (c := r0) hp hq hpq
  have d1 := down_limb (c := r1) hp hq hpq
  subst hk
  rw [Int.zero_mul, Int.zero_ediv] at *
  omega
theorem norm2 {z0 z1 c0 c1 : Int} (h : W c1) (hz : (c1 == (0 : Int)) = false) (wz0 : W z0) (wz1 : W z1) (wc0 : W c0) (e : z0 + 18446744073709551616 * z1 + 340282366920938463463374607431768211456 * (c1 / 2 ^ (64 - ((nrm c1 : Nat) : Int)).toNat) = (c0 + 18446744073709551616 * c1) * 2 ^ (((nrm c1 : Nat) : Int)).toNat) :
    z0 + 18446744073709551616 * z1 = (c0 + 18446744073709551616 * c1) * 2 ^ nrm c1 ∧ 170141183460469231731687303715884105728 ≤ z0 + 18446744073709551616 * z1 ∧ 0 < z1 := by
  obtain ⟨p, q, hp', hq', hp, hq, hpq, hp2, ht, h0, e1, e2⟩ := nrm_top h hz
  rw [e1, e2, h0] at e
  rw [← hp']
  have e' := e
  rw [Int.add_mul, Int.mul_assoc 18446744073709551616] at e'
  have m0 := Int.mul_nonneg wc0.1 (by omega : 0 ≤ p)
  unfold W at *
  refine ⟨by omega, by omega, by omega⟩
theorem first2 {N p V x0 x1 x2 x3 x4 x5 x6 x7 x8 : Int} (hN : R8 N) (hp : 0 < p) (hp2 : 2 * p ≤ 18446744073709551616) (wx0 : W x0) (wx1 : W x1) (wx2 : W x2) (wx3 : W x3) (wx4 : W x4) (wx5 : W x5) (wx6 : W x6) (wx7 : W x7) (wx8 : W x8) (e : x0 + 18446744073709551616 * x1 + 340282366920938463463374607431768211456 * x2 + 6277101735386680763835789423207666416102355444464034512896 * x3 + 115792089237316195423570985008687907853269984665640564039457584007913129639936 * x4 + 2135987035920910082395021706169552114602704522356652769947041607822219725780640550022962086936576 * x5 + 39402006196394479212279040100143613805079739270465446667948293404245721771497210611414266254884915640806627990306816 * x6 + 726838724295606890549323807888004534353641360687318060281490199180639288113397923326191050713763565560762521606266177933534601628614656 * x7 + 13407807929942597099574024998205846127479365820592393377723561443721764030073546976801874298166903427690031858186486050853753882811946569946433649006084096 * x8 = N * p) (hV : 170141183460469231731687303715884105728 ≤ V) : x6 + 18446744073709551616 * x7 + 340282366920938463463374607431768211456 * x8 < V * 18446744073709551616 := by
  have h : N * p ≤ 13407807929942597099574024998205846127479365820592393377723561443721764030073546976801874298166903427690031858186486050853753882811946569946433649006084095 * 9223372036854775808 := Int.mul_le_mul (by have := hN.2; omega) (by omega) (by omega) (by decide)
  rw [← e] at h
  unfold W at *; omega
theorem next2 {x U V q r0 r1 r2 : Int} (hS : StepR U V q (r0 + 18446744073709551616 * r1 + 340282366920938463463374607431768211456 * r2)) (wx : W x) (wr0 : W r0) (wr1 : W r1) (wr2 : W r2) (hV : V < 340282366920938463463374607431768211456) : x + 18446744073709551616 * r0 + 340282366920938463463374607431768211456 * r1 = x + 18446744073709551616 * (r0 + 18446744073709551616 * r1 + 340282366920938463463374607431768211456 * r2) ∧ x + 18446744073709551616 * r0 + 340282366920938463463374607431768211456 * r1 < V * 18446744073709551616 := by
  have := hS.r0; have := hS.r1
  unfold W at *; constructor <;> omega
theorem rest2 {ρ p q V r0 r1 r2 : Int} (hp : 0 < p) (hq : 0 < q) (hpq : p * q = 18446744073709551616) (hV : V < 340282366920938463463374607431768211456) (wr0 : W r0) (wr1 : W r1) (wr2 : W r2) (h : r0 + 18446744073709551616 * r1 + 340282366920938463463374607431768211456 * r2 = ρ * p) (hl : r0 + 18446744073709551616 * r1 + 340282366920938463463374607431768211456 * r2 < V) : (r0 / p + r1 * q % 18446744073709551616) + 18446744073709551616 * (r1 / p + r2 * q % 18446744073709551616) = ρ := by
  have hk : r2 = 0 := by unfold W at *; omega
  have e : (r0 + 18446744073709551616 * r1 + 340282366920938463463374607431768211456 * r2) * q = ρ * 18446744073709551616 := by rw [h, Int.mul_assoc, hpq]
  rw [Int.add_mul, Int.add_mul, Int.mul_assoc 18446744073709551616, Int.mul_assoc 340282366920938463463374607431768211456] at e
  have d0 := down_limb (c := r0) hp hq hpq
  have d1 := down_limb (c := r1) hp hq hpq
  have d2 := down_limb (c := r2) hp hq hpq
  subst hk
  rw [Int.zero_mul, Int.zero_ediv] at *
  omega
theorem norm3 {z0 z1 z2 c0 c1 c2 : Int} (h : W c2) (hz : (c2 == (0 : Int)) = false) (wz0 : W z0) (wz1 : W z1) (wz2 : W z2) (wc0 : W c0) (wc1 : W c1) (e : z0 + 18446744073709551616 * z1 + 340282366920938463463374607431768211456 * z2 + 6277101735386680763835789423207666416102355444464034512896 * (c2 / 2 ^ (64 - ((nrm c2 : Nat) : Int)).toNat) = (c0 + 18446744073709551616 * c1 + 340282366920938463463374607431768211456 * c2) * 2 ^ (((nrm c2 : Nat) : Int)).toNat) :
    z0 + 18446744073709551616 * z1 + 340282366920938463463374607431768211456 * z2 = (c0 + 18446744073709551616 * c1 + 340282366920938463463374607431768211456 * c2) * 2 ^ nrm c2 ∧ 3138550867693340381917894711603833208051177722232017256448 ≤ z0 + 18446744073709551616 * z1 + 340282366920938463463374607431768211456 * z2 ∧ 0 < z2 := by
  obtain ⟨p, q, hp', hq', hp, hq, hpq, hp2, ht, h0, e1, e2⟩ := nrm_top h hz
  rw [e1, e2, h0] at e
  rw [← hp']
  have e' := e
  rw [Int.add_mul, Int.add_mul, Int.mul_assoc 18446744073709551616, Int.mul_assoc 340282366920938463463374607431768211456] at e'
  have m0 := Int.mul_nonneg wc0.1 (by omega : 0 ≤ p)
  have m1 := Int.mul_nonneg wc1.1 (by omega : 0 ≤ p)
  unfold W at *
  refine ⟨by omega, by omega, by omega⟩
theorem first3 {N p V x0 x1 x2 x3 x4 x5 x6 x7 x8 : Int} (hN : R8 N) (hp : 0 < p) (hp2 : 2 * p ≤ 18446744073709551616) (wx0 : W x0) (wx1 : W x1) (wx2 : W x2) (wx3 : W x3) (wx4 : W x4) (wx5 : W x5) (wx6 : W x6) (wx7 : W x7) (wx8 : W x8) (e : x0 + 18446744073709551616 * x1 + 340282366920938463463374607431768211456 * x2 + 6277101735386680763835789423207666416102355444464034512896 * x3 + 115792089237316195423570985008687907853269984665640564039457584007913129639936 * x4 + 2135987035920910082395021706169552114602704522356652769947041607822219725780640550022962086936576 * x5 + 39402006196394479212279040100143613805079739270465446667948293404245721771497210611414266254884915640806627990306816 * x6 + 726838724295606890549323807888004534353641360687318060281490199180639288113397923326191050713763565560762521606266177933534601628614656 * x7 + 13407807929942597099574024998205846127479365820592393377723561443721764030073546976801874298166903427690031858186486050853753882811946569946433649006084096 * x8 = N * p) (hV : 3138550867693340381917894711603833208051177722232017256448 ≤ V) : x5 + 18446744073709551616 * x6 + 340282366920938463463374607431768211456 * x7 + 6277101735386680763835789423207666416102355444464034512896 * x8 < V * 18446744073709551616 := by
  have h : N * p ≤ 13407807929942597099574024998205846127479365820592393377723561443721764030073546976801874298166903427690031858186486050853753882811946569946433649006084095 * 9223372036854775808 := Int.mul_le_mul (by have := hN.2; omega) (by omega) (by omega) (by decide)
  rw [← e] at h
  unfold W at *; omega
theorem next3 {x U V q r0 r1 r2 r3 : Int} (hS : StepR U V q (r0 + 18446744073709551616 * r1 + 340282366920938463463374607431768211456 * r2 + 6277101735386680763835789423207666416102355444464034512896 * r3)) (wx : W x) (wr0 : W r0) (wr1 : W r1) (wr2 : W r2) (wr3 : W r3) (hV : V < 6277101735386680763835789423207666416102355444464034512896) : x + 18446744073709551616 * r0 + 340282366920938463463374607431768211456 * r1 + 6277101735386680763835789423207666416102355444464034512896 * r2 = x + 18446744073709551616 * (r0 + 18446744073709551616 * r1 + 340282366920938463463374607431768211456 * r2 + 6277101735386680763835789423207666416102355444464034512896 * r3) ∧ x + 18446744073709551616 * r0 + 340282366920938463463374607431768211456 * r1 + 6277101735386680763835789423207666416102355444464034512896 * r2 < V * 18446744073709551616 := by
  have := hS.r0; have := hS.r1
  unfold W at *; constructor <;> omega
theorem rest3 {ρ p q V r0 r1 r2 r3 : Int} (hp : 0 < p) (hq : 0 < q) (hpq : p * q = 18446744073709551616) (hV : V < 6277101735386680763835789423207666416102355444464034512896) (wr0 : W r0) (wr1 : W r1) (wr2 : W r2) (wr3 : W r3) (h : r0 + 18446744073709551616 * r1 + 340282366920938463463374607431768211456 * r2 + 6277101735386680763835789423207666416102355444464034512896 * r3 = ρ * p) (hl : r0 + 18446744073709551616 * r1 + 340282366920938463463374607431768211456 * r2 + 6277101735386680763835789423207666416102355444464034512896 * r3 < V) : (r0 / p + r1 * q % 18446744073709551616) + 18446744073709551616 * (r1 / p + r2 * q % 18446744073709551616) + 340282366920938463463374607431768211456 * (r2 / p + r3 * q % 18446744073709551616) = ρ := by
  have hk : r3 = 0 := by unfold W at *; omega
  have e : (r0 + 18446744073709551616 * r1 + 340282366920938463463374607431768211456 * r2 + 6277101735386680763835789423207666416102355444464034512896 * r3) * q = ρ * 18446744073709551616 := by rw [h, Int.mul_assoc, hpq]
  rw [Int.add_mul, Int.add_mul, Int.add_mul, Int.mul_assoc 18446744073709551616, Int.mul_assoc 340282366920938463463374607431768211456, Int.mul_assoc 6277101735386680763835789423207666416102355444464034512896] at e
  have d0 := down_limb (c := r0) hp hq hpq
  have d1 := down_limb (c := r1) hp hq hpq
  have d2 := down_limb (c := r2) hp hq hpq
  have d3 := down_limb (c := r3) hp hq hpq
  subst hk
  rw [Int.zero_mul, Int.zero_ediv] at *
  omega
theorem norm4 {z0 z1 z2 z3 c0 c1 c2 c3 : Int} (h : W c3) (hz : (c3 == (0 : Int)) = false) (wz0 : W z0) (wz1 : W z1) (wz2 : W z2) (wz3 : W z3) (wc0 : W c0) (wc1 : W c1) (wc2 : W c2) (e : z0 + 18446744073709551616 * z1 + 340282366920938463463374607431768211456 * z2 + 6277101735386680763835789423207666416102355444464034512896 * z3 + 115792089237316195423570985008687907853269984665640564039457584007913129639936 * (c3 / 2 ^ (64 - ((nrm c3 : Nat) : Int)).toNat) = (c0 + 18446744073709551616 * c1 + 340282366920938463463374607431768211456 * c2 + 6277101735386680763835789423207666416102355444464034512896 * c3) * 2 ^ (((nrm c3 : Nat) : Int)).toNat) :
    z0 + 18446744073709551616 * z1 + 340282366920938463463374607431768211456 * z2 + 6277101735386680763835789423207666416102355444464034512896 * z3 = (c0 + 18446744073709551616 * c1 + 340282366920938463463374607431768211456 * c2 + 6277101735386680763835789423207666416102355444464034512896 * c3) * 2 ^ nrm c3 ∧ 57896044618658097711785492504343953926634992332820282019728792003956564819968 ≤ z0 + 18446744073709551616 * z1 + 340282366920938463463374607431768211456 * z2 + 6277101735386680763835789423207666416102355444464034512896 * z3 ∧ 0 < z3 := by
  obtain ⟨p, q, hp', hq', hp, hq, hpq, hp2, ht, h0, e1, e2⟩ := nrm_top h hz
  rw [e1, e2, h0] at e
  rw [← hp']
  have e' := e
  rw [Int.add_mul, Int.add_mul, Int.add_mul, Int.mul_assoc 18446744073709551616, Int.mul_assoc 340282366920938463463374607431768211456, Int.mul_assoc 6277101735386680763835789423207666416102355444464034512896] at e'
  have m0 := Int.mul_nonneg wc0.1 (by omega : 0 ≤ p)
  have m1 := Int.mul_nonneg wc1.1 (by omega : 0 ≤ p)
  have m2 := Int.mul_nonneg wc2.1 (by omega : 0 ≤ p)
  unfold W at *
  refine ⟨by omega, by omega, by omega⟩
theorem first4 {N p V x0 x1 x2 x3 x4 x5 x6 x7 x8 : Int} (hN : R8 N) (hp : 0 < p) (hp2 : 2 * p ≤ 18446744073709551616) (wx0 : W x0) (wx1 : W x1) (wx2 : W x2) (wx3 : W x3) (wx4 : W x4) (wx5 : W x5) (wx6 : W x6) (wx7 : W x7) (wx8 : W x8) (e : x0 + 18446744073709551616 * x1 + 340282366920938463463374607431768211456 * x2 + 6277101735386680763835789423207666416102355444464034512896 * x3 + 115792089237316195423570985008687907853269984665640564039457584007913129639936 * x4 + 2135987035920910082395021706169552114602704522356652769947041607822219725780640550022962086936576 * x5 + 39402006196394479212279040100143613805079739270465446667948293404245721771497210611414266254884915640806627990306816 * x6 + 726838724295606890549323807888004534353641360687318060281490199180639288113397923326191050713763565560762521606266177933534601628614656 * x7 + 13407807929942597099574024998205846127479365820592393377723561443721764030073546976801874298166903427690031858186486050853753882811946569946433649006084096 * x8 = N * p) (hV : 57896044618658097711785492504343953926634992332820282019728792003956564819968 ≤ V) : x4 + 18446744073709551616 * x5 + 340282366920938463463374607431768211456 * x6 + 6277101735386680763835789423207666416102355444464034512896 * x7 + 115792089237316195423570985008687907853269984665640564039457584007913129639936 * x8 < V * 18446744073709551616 := by
  have h : N * p ≤ 13407807929942597099574024998205846127479365820592393377723561443721764030073546976801874298166903427690031858186486050853753882811946569946433649006084095 * 9223372036854775808 := Int.mul_le_mul (by have := hN.2; omega) (by omega) (by omega) (by decide)
  rw [← e] at h
  unfold W at *; omega
theorem next4 {x U V q r0 r1 r2 r3 r4 : Int} (hS : StepR U V q (r0 + 18446744073709551616 * r1 + 340282366920938463463374607431768211456 * r2 + 6277101735386680763835789423207666416102355444464034512896 * r3 + 115792089237316195423570985008687907853269984665640564039457584007913129639936 * r4)) (wx : W x) (wr0 : W r0) (wr1 : W r1) (wr2 : W r2) (wr3 : W r3) (wr4 : W r4) (hV : V < 115792089237316195423570985008687907853269984665640564039457584007913129639936) : x + 18446744073709551616 * r0 + 340282366920938463463374607431768211456 * r1 + 6277101735386680763835789423207666416102355444464034512896 * r2 + 115792089237316195423570985008687907853269984665640564039457584007913129639936 * r3 = x + 18446744073709551616 * (r0 + 18446744073709551616 * r1 + 340282366920938463463374607431768211456 * r2 + 6277101735386680763835789423207666416102355444464034512896 * r3 + 115792089237316195423570985008687907853269984665640564039457584007913129639936 * r4) ∧ x + 18446744073709551616 * r0 + 340282366920938463463374607431768211456 * r1 + 6277101735386680763835789423207666416102355444464034512896 * r2 + 115792089237316195423570985008687907853269984665640564039457584007913129639936 * r3 < V * 18446744073709551616 := by
  have := hS.r0; have := hS.r1
  unfold W at *; constructor <;> omega
theorem rest4 {ρ p q V r0 r1 r2 r3 r4 : Int} (hp : 0 < p) (hq : 0 < q) (hpq : p * q = 18446744073709551616) (hV : V < 115792089237316195423570985008687907853269984665640564039457584007913129639936) (wr0 : W r0) (wr1 : W r1) (wr2 : W r2) (wr3 : W r3) (wr4 : W r4) (h : r0 + 18446744073709551616 * r1 + 340282366920938463463374607431768211456 * r2 + 6277101735386680763835789423207666416102355444464034512896 * r3 + 115792089237316195423570985008687907853269984665640564039457584007913129639936 * r4 = ρ * p) (hl : r0 + 18446744073709551616 * r1 + 340282366920938463463374607431768211456 * r2 + 6277101735386680763835789423207666416102355444464034512896 * r3 + 115792089237316195423570985008687907853269984665640564039457584007913129639936 * r4 < V) : (r0 / p + r1 * q % 18446744073709551616) + 18446744073709551616 * (r1 / p + r2 * q % 18446744073709551616) + 340282366920938463463374607431768211456 * (r2 / p + r3 * q % 18446744073709551616) + 6277101735386680763835789423207666416102355444464034512896 * (r3 / p + r4 * q % 18446744073709551616) = ρ := by
  have hk : r4 = 0 := by unfold W at *; omega
  have e : (r0 + 18446744073709551616 * r1 + 340282366920938463463374607431768211456 * r2 + 6277101735386680763835789423207666416102355444464034512896 * r3 + 115792089237316195423570985008687907853269984665640564039457584007913129639936 * r4) * q = ρ * 18446744073709551616 := by rw [h, Int.mul_assoc, hpq]
  rw [Int.add_mul, Int.add_mul, Int.add_mul, Int.add_mul, Int.mul_assoc 18446744073709551616, Int.mul_assoc 340282366920938463463374607431768211456, Int.mul_assoc 6277101735386680763835789423207666416102355444464034512896, Int.mul_assoc 115792089237316195423570985008687907853269984665640564039457584007913129639936] at e
  have d0 := down_limb (c := r0) hp hq hpq
  have d1 := down_limb (c := r1) hp hq hpq
  have d2 := down_limb (c := r2) hp hq hpq
  have d3 := down_limb (c := r3) hp hq hpq
  have d4 := down_limb (c := r4) hp hq hpq
  subst hk
  rw [Int.zero_mul, Int.zero_ediv] at *
  omega
theorem wit_up98 {c0 c1 c2 c3 c4 c5 c6 c7 s : Int} (s0 : 0 ≤ s) (s1 : s ≤ 63) (wc0 : W c0) (wc1 : W c1) (wc2 : W c2) (wc3 : W c3) (wc4 : W c4) (wc5 : W c5) (wc6 : W c6) (wc7 : W c7) : ∃ x : Int × Int × Int × Int × Int × Int × Int × Int × Int, (fun zx => zx.1 + 18446744073709551616 * zx.2.1 + 340282366920938463463374607431768211456 * zx.2.2.1 + 6277101735386680763835789423207666416102355444464034512896 * zx.2.2.2.1 + 115792089237316195423570985008687907853269984665640564039457584007913129639936 * zx.2.2.2.2.1 + 2135987035920910082395021706169552114602704522356652769947041607822219725780640550022962086936576 * zx.2.2.2.2.2.1 + 39402006196394479212279040100143613805079739270465446667948293404245721771497210611414266254884915640806627990306816 * zx.2.2.2.2.2.2.1 + 726838724295606890549323807888004534353641360687318060281490199180639288113397923326191050713763565560762521606266177933534601628614656 * zx.2.2.2.2.2.2.2.1 + 13407807929942597099574024998205846127479365820592393377723561443721764030073546976801874298166903427690031858186486050853753882811946569946433649006084096 * zx.2.2.2.2.2.2.2.2 = (c0 + 18446744073709551616 * c1 + 340282366920938463463374607431768211456 * c2 + 6277101735386680763835789423207666416102355444464034512896 * c3 + 115792089237316195423570985008687907853269984665640564039457584007913129639936 * c4 + 2135987035920910082395021706169552114602704522356652769947041607822219725780640550022962086936576 * c5 + 39402006196394479212279040100143613805079739270465446667948293404245721771497210611414266254884915640806627990306816 * c6 + 726838724295606890549323807888004534353641360687318060281490199180639288113397923326191050713763565560762521606266177933534601628614656 * c7) * 2 ^ s.toNat ∧ W zx.1 ∧ W zx.2.1 ∧ W zx.2.2.1 ∧ W zx.2.2.2.1 ∧ W zx.2.2.2.2.1 ∧ W zx.2.2.2.2.2.1 ∧ W zx.2.2.2.2.2.2.1 ∧ W zx.2.2.2.2.2.2.2.1 ∧ W zx.2.2.2.2.2.2.2.2) x := by
  have W0 : W 0 := by unfold W; decide
  refine ⟨((c0 * 2 ^ s.toNat % 18446744073709551616 + 0 / 2 ^ (64 - s).toNat), (c1 * 2 ^ s.toNat % 18446744073709551616 + c0 / 2 ^ (64 - s).toNat), (c2 * 2 ^ s.toNat % 18446744073709551616 + c1 / 2 ^ (64 - s).toNat), (c3 * 2 ^ s.toNat % 18446744073709551616 + c2 / 2 ^ (64 - s).toNat), (c4 * 2 ^ s.toNat % 18446744073709551616 + c3 / 2 ^ (64 - s).toNat), (c5 * 2 ^ s.toNat % 18446744073709551616 + c4 / 2 ^ (64 - s).toNat), (c6 * 2 ^ s.toNat % 18446744073709551616 + c5 / 2 ^ (64 - s).toNat), (c7 * 2 ^ s.toNat % 18446744073709551616 + c6 / 2 ^ (64 - s).toNat), (0 * 2 ^ s.toNat % 18446744073709551616 + c7 / 2 ^ (64 - s).toNat)), ?_, up_W s0 s1 W0, up_W s0 s1 wc0, up_W s0 s1 wc1, up_W s0 s1 wc2, up_W s0 s1 wc3, up_W s0 s1 wc4, up_W s0 s1 wc5, up_W s0 s1 wc6, up_W s0 s1 wc7⟩
  try dsimp only
  have f0 := up_limb (c := c0) s0 s1
  have f1 := up_limb (c := c1) s0 s1
  have f2 := up_limb (c := c2) s0 s1
  have f3 := up_limb (c := c3) s0 s1
  have f4 := up_limb (c := c4) s0 s1
  have f5 := up_limb (c := c5) s0 s1
  have f6 := up_limb (c := c6) s0 s1
  have f7 := up_limb (c := c7) s0 s1
  generalize (2 : Int) ^ s.toNat = p at *
  generalize (2 : Int) ^ (64 - s).toNat = q at *
  rw [Int.add_mul, Int.add_mul, Int.add_mul, Int.add_mul, Int.add_mul, Int.add_mul, Int.add_mul, Int.mul_assoc 18446744073709551616, Int.mul_assoc 340282366920938463463374607431768211456, Int.mul_assoc 6277101735386680763835789423207666416102355444464034512896, Int.mul_assoc 115792089237316195423570985008687907853269984665640564039457584007913129639936, Int.mul_assoc 2135987035920910082395021706169552114602704522356652769947041607822219725780640550022962086936576, Int.mul_assoc 39402006196394479212279040100143613805079739270465446667948293404245721771497210611414266254884915640806627990306816, Int.mul_assoc 726838724295606890549323807888004534353641360687318060281490199180639288113397923326191050713763565560762521606266177933534601628614656]
  have z0 := Int.zero_ediv q
  omega
theorem wit_up1 {c0 s : Int} (s0 : 0 ≤ s) (s1 : s ≤ 63) (wc0 : W c0) : ∃ x : Int, (fun zx => zx + 18446744073709551616 * (c0 / 2 ^ (64 - s).toNat) = (c0) * 2 ^ s.toNat ∧ W zx) x := by
  have W0 : W 0 := by unfold W; decide
  refine ⟨((c0 * 2 ^ s.toNat % 18446744073709551616 + 0 / 2 ^ (64 - s).toNat)), ?_, up_W s0 s1 W0⟩
  try dsimp only
  have f0 := up_limb (c := c0) s0 s1
  generalize (2 : Int) ^ s.toNat = p at *
  generalize (2 : Int) ^ (64 - s).toNat = q at *
  have z0 := Int.zero_ediv q
  omega
theorem wit_up2 {c0 c1 s : Int} (s0 : 0 ≤ s) (s1 : s ≤ 63) (wc0 : W c0) (wc1 : W c1) : ∃ x : Int × Int, (fun zx => zx.1 + 18446744073709551616 * zx.2 + 340282366920938463463374607431768211456 * (c1 / 2 ^ (64 - s).toNat) = (c0 + 18446744073709551616 * c1) * 2 ^ s.toNat ∧ W zx.1 ∧ W zx.2) x := by
  have W0 : W 0 := by unfold W; decide
  refine ⟨((c0 * 2 ^ s.toNat % 18446744073709551616 + 0 / 2 ^ (64 - s).toNat), (c1 * 2 ^ s.toNat % 18446744073709551616 + c0 / 2 ^ (64 - s).toNat)), ?_, up_W s0 s1 W0, up_W s0 s1 wc0⟩
  try dsimp only
  have f0 := up_limb (c := c0) s0 s1
  have f1 := up_limb (c := c1) s0 s1
  generalize (2 : Int) ^ s.toNat = p at *
  generalize (2 : Int) ^ (64 - s).toNat = q at *
  rw [Int.add_mul, Int.mul_assoc 18446744073709551616]
  have z0 := Int.zero_ediv q
  omega
theorem wit_up3 {c0 c1 c2 s : Int} (s0 : 0 ≤ s) (s1 : s ≤ 63) (wc0 : W c0) (wc1 : W c1) (wc2 : W c2) : ∃ x : Int × Int × Int, (fun zx => zx.1 + 18446744073709551616 * zx.2.1 + 340282366920938463463374607431768211456 * zx.2.2 + 6277101735386680763835789423207666416102355444464034512896 * (c2 / 2 ^ (64 - s).toNat) = (c0 + 18446744073709551616 * c1 + 340282366920938463463374607431768211456 * c2) * 2 ^ s.toNat ∧ W zx.1 ∧ W zx.2.1 ∧ W zx.2.2) x := by
  have W0 : W 0 := by unfold W; decide
  refine ⟨((c0 * 2 ^ s.toNat % 18446744073709551616 + 0 / 2 ^ (64 - s).toNat), (c1 * 2 ^ s.toNat % 18446744073709551616 + c0 / 2 ^ (64 - s).toNat), (c2 * 2 ^ s.toNat % 18446744073709551616 + c1 / 2 ^ (64 - s).toNat)), ?_, up_W s0 s1 W0, up_W s0 s1 wc0, up_W s0 s1 wc1⟩
  try dsimp only
  have f0 := up_limb (c := c0) s0 s1
  have f1 := up_limb (c := c1) s0 s1
  have f2 := up_limb (c := c2) s0 s1
  generalize (2 : Int) ^ s.toNat = p at *
  generalize (2 : Int) ^ (64 - s).toNat = q at *
  rw [Int.add_mul, Int.add_mul, Int.mul_assoc 18446744073709551616, Int.mul_assoc 340282366920938463463374607431768211456]
  have z0 := Int.zero_ediv q
  omega
theorem wit_up4 {c0 c1 c2 c3 s : Int} (s0 : 0 ≤ s) (s1 : s ≤ 63) (wc0 : W c0) (wc1 : W c1) (wc2 : W c2) (wc3 : W c3) : ∃ x : Int × Int × Int × Int, (fun zx => zx.1 + 18446744073709551616 * zx.2.1 + 340282366920938463463374607431768211456 * zx.2.2.1 + 6277101735386680763835789423207666416102355444464034512896 * zx.2.2.2 + 115792089237316195423570985008687907853269984665640564039457584007913129639936 * (c3 / 2 ^ (64 - s).toNat) = (c0 + 18446744073709551616 * c1 + 340282366920938463463374607431768211456 * c2 + 6277101735386680763835789423207666416102355444464034512896 * c3) * 2 ^ s.toNat ∧ W zx.1 ∧ W zx.2.1 ∧ W zx.2.2.1 ∧ W zx.2.2.2) x := by
  have W0 : W 0 := by unfold W; decide
  refine ⟨((c0 * 2 ^ s.toNat % 18446744073709551616 + 0 / 2 ^ (64 - s).toNat), (c1 * 2 ^ s.toNat % 18446744073709551616 + c0 / 2 ^ (64 - s).toNat), (c2 * 2 ^ s.toNat % 18446744073709551616 + c1 / 2 ^ (64 - s).toNat), (c3 * 2 ^ s.toNat % 18446744073709551616 + c2 / 2 ^ (64 - s).toNat)), ?_, up_W s0 s1 W0, up_W s0 s1 wc0, up_W s0 s1 wc1, up_W s0 s1 wc2⟩
  try dsimp only
  have f0 := up_limb (c := c0) s0 s1
  have f1 := up_limb (c := c1) s0 s1
  have f2 := up_limb (c := c2) s0 s1
  have f3 := up_limb (c := c3) s0 s1
  generalize (2 : Int) ^ s.toNat = p at *
  generalize (2 : Int) ^ (64 - s).toNat = q at *
  rw [Int.add_mul, Int.add_mul, Int.add_mul, Int.mul_assoc 18446744073709551616, Int.mul_assoc 340282366920938463463374607431768211456, Int.mul_assoc 6277101735386680763835789423207666416102355444464034512896]
  have z0 := Int.zero_ediv q
  omega
end Go.Sx

namespace Go.Sx
theorem run_part1 {P : Program} {e : TypeId} {cs : Array Value} {off : Nat} {v : Value} (w : World) (ha : ∀ w, (isAgg e).run P w = .ok false w) (h : cs[off]? = some v) : (part e cs off).run P w = .ok v w := by
  simp [part, Sem.run_bind, ha, h]
theorem eq_arr4 {P : Program} {t e : TypeId} {k : IntKind} (hu : P.underlying t = some (.array 4 e)) (he : P.underlying e = some (.int k)) (ha : ∀ w, (isAgg e).run P w = .ok false w) (hs : ∀ w, (sizeOf e).run P w = .ok 1 w) (x0 x1 x2 x3 y0 y1 y2 y3 : Int) (w : World) :
    (Op.equalIn 10000 t (.agg #[.int k x0, .int k x1, .int k x2, .int k x3]) (.agg #[.int k y0, .int k y1, .int k y2, .int k y3])).run P w = .ok (x0 == y0 && (x1 == y1 && (x2 == y2 && x3 == y3))) w := by
  have hi : ∀ a b, (Op.equalIn 9999 e (.int k a) (.int k b)).run P w = .ok (a == b) w := fun a b => run_equalIn_int w 9998 e k k a b he
  rw [show (10000 : Nat) = 9999 + 1 from rfl, Op.equalIn]
  simp only [Sem.run_bind, run_underlying hu, Result.andThen_ok, hs]
  simp only [Std.Legacy.Range.forIn_eq_forIn_range', Std.Legacy.Range.size, Nat.sub_zero, Nat.add_sub_cancel, Nat.div_one, List.range'_succ, List.range'_zero, List.forIn_cons, List.forIn_nil]
  have p0 : ∀ (a b c d : Value) (w : World), (part e #[a, b, c, d] (0 * 1)).run P w = .ok a w := fun a b c d w => run_part1 w ha rfl
  have p1 : ∀ (a b c d : Value) (w : World), (part e #[a, b, c, d] ((0 + 1) * 1)).run P w = .ok b w := fun a b c d w => run_part1 w ha rfl
  have p2 : ∀ (a b c d : Value) (w : World), (part e #[a, b, c, d] ((0 + 1 + 1) * 1)).run P w = .ok c w := fun a b c d w => run_part1 w ha rfl
  have p3 : ∀ (a b c d : Value) (w : World), (part e #[a, b, c, d] ((0 + 1 + 1 + 1) * 1)).run P w = .ok d w := fun a b c d w => run_part1 w ha rfl
  simp only [Sem.run_bind, p0, p1, p2, p3, Result.andThen_ok, hi]
  cases h0 : x0 == y0 <;> cases h1 : x1 == y1 <;> cases h2 : x2 == y2 <;> cases h3 : x3 == y3 <;>
    simp [Sem.run_bind, p0, p1, p2, p3, hi, h0, h1, h2, h3]
theorem eq_arr8 {P : Program} {t e : TypeId} {k : IntKind} (hu : P.underlying t = some (.array 8 e)) (he : P.underlying e = some (.int k)) (ha : ∀ w, (isAgg e).run P w = .ok false w) (hs : ∀ w, (sizeOf e).run P w = .ok 1 w) (x0 x1 x2 x3 x4 x5 x6 x7 y0 y1 y2 y3 y4 y5 y6 y7 : Int) (w : World) :
    (Op.equalIn 10000 t (.agg #[.int k x0, .int k x1, .int k x2, .int k x3, .int k x4, .int k x5, .int k x6, .int k x7]) (.agg #[.int k y0, .int k y1, .int k y2, .int k y3, .int k y4, .int k y5, .int k y6, .int k y7])).run P w = .ok (x0 == y0 && (x1 == y1 && (x2 == y2 && (x3 == y3 && (x4 == y4 && (x5 == y5 && (x6 == y6 && (x7 == y7)))))))) w := by
  have hi : ∀ a b, (Op.equalIn 9999 e (.int k a) (.int k b)).run P w = .ok (a == b) w := fun a b => run_equalIn_int w 9998 e k k a b he
  rw [show (10000 : Nat) = 9999 + 1 from rfl, Op.equalIn]
  simp only [Sem.run_bind, run_underlying hu, Result.andThen_ok, hs]
  simp only [Std.Legacy.Range.forIn_eq_forIn_range', Std.Legacy.Range.size, Nat.sub_zero, Nat.add_sub_cancel, Nat.div_one, List.range'_succ, List.range'_zero, List.forIn_cons, List.forIn_nil]
  have p0 : ∀ (a b c d f g h i : Value) (w : World), (part e #[a, b, c, d, f, g, h, i] ((0) * 1)).run P w = .ok a w := fun a b c d f g h i w => run_part1 w ha rfl
  have p1 : ∀ (a b c d f g h i : Value) (w : World), (part e #[a, b, c, d, f, g, h, i] ((0 + 1) * 1)).run P w = .ok b w := fun a b c d f g h i w => run_part1 w ha rfl
  have p2 : ∀ (a b c d f g h i : Value) (w : World), (part e #[a, b, c, d, f, g, h, i] ((0 + 1 + 1) * 1)).run P w = .ok c w := fun a b c d f g h i w => run_part1 w ha rfl
  have p3 : ∀ (a b c d f g h i : Value) (w : World), (part e #[a, b, c, d, f, g, h, i] ((0 + 1 + 1 + 1) * 1)).run P w = .ok d w := fun a b c d f g h i w => run_part1 w ha rfl
  have p4 : ∀ (a b c d f g h i : Value) (w : World), (part e #[a, b, c, d, f, g, h, i] ((0 + 1 + 1 + 1 + 1) * 1)).run P w = .ok f w := fun a b c d f g h i w => run_part1 w ha rfl
  have p5 : ∀ (a b c d f g h i : Value) (w : World), (part e #[a, b, c, d, f, g, h, i] ((0 + 1 + 1 + 1 + 1 + 1) * 1)).run P w = .ok g w := fun a b c d f g h i w => run_part1 w ha rfl
  have p6 : ∀ (a b c d f g h i : Value) (w : World), (part e #[a, b, c, d, f, g, h, i] ((0 + 1 + 1 + 1 + 1 + 1 + 1) * 1)).run P w = .ok h w := fun a b c d f g h i w => run_part1 w ha rfl
  have p7 : ∀ (a b c d f g h i : Value) (w : World), (part e #[a, b, c, d, f, g, h, i] ((0 + 1 + 1 + 1 + 1 + 1 + 1 + 1) * 1)).run P w = .ok i w := fun a b c d f g h i w => run_part1 w ha rfl
  simp only [Sem.run_bind, p0, p1, p2, p3, p4, p5, p6, p7, Result.andThen_ok, hi]
  cases h0 : x0 == y0
  · simp [Sem.run_bind, p0, p1, p2, p3, p4, p5, p6, p7, hi, h0]
  cases h1 : x1 == y1
  · simp [Sem.run_bind, p0, p1, p2, p3, p4, p5, p6, p7, hi, h0, h1]
  cases h2 : x2 == y2
  · simp [Sem.run_bind, p0, p1, p2, p3, p4, p5, p6, p7, hi, h0, h1, h2]
  cases h3 : x3 == y3
  · simp [Sem.run_bind, p0, p1, p2, p3, p4, p5, p6, p7, hi, h0, h1, h2, h3]
  cases h4 : x4 == y4
  · simp [Sem.run_bind, p0, p1, p2, p3, p4, p5, p6, p7, hi, h0, h1, h2, h3, h4]
  cases h5 : x5 == y5
  · simp [Sem.run_bind, p0, p1, p2, p3, p4, p5, p6, p7, hi, h0, h1, h2, h3, h4, h5]
  cases h6 : x6 == y6
  · simp [Sem.run_bind, p0, p1, p2, p3, p4, p5, p6, p7, hi, h0, h1, h2, h3, h4, h5, h6]
  cases h7 : x7 == y7
  · simp [Sem.run_bind, p0, p1, p2, p3, p4, p5, p6, p7, hi, h0, h1, h2, h3, h4, h5, h6, h7]
  · simp [Sem.run_bind, p0, p1, p2, p3, p4, p5, p6, p7, hi, h0, h1, h2, h3, h4, h5, h6, h7]

theorem lim_eq4 (a b : Int) : (lim a 0 == lim b 0 && (lim a 1 == lim b 1 && (lim a 2 == lim b 2 && lim a 3 == lim b 3))) = (num (vI a) == num (vI b)) := by
  rw [lims a, lims b]
  have := W_lim a 0; have := W_lim a 1; have := W_lim a 2; have := W_lim a 3; have := W_lim b 0; have := W_lim b 1; have := W_lim b 2; have := W_lim b 3
  unfold W at *
  rw [Bool.eq_iff_iff]
  simp only [Bool.and_eq_true, beq_iff_eq]
  omega
theorem lim_eq8 (a b : Int) : (lim a 0 == lim b 0 && (lim a 1 == lim b 1 && (lim a 2 == lim b 2 && (lim a 3 == lim b 3 && (lim a 4 == lim b 4 && (lim a 5 == lim b 5 && (lim a 6 == lim b 6 && lim a 7 == lim b 7))))))) = (num (vW a) == num (vW b)) := by
  rw [show num (vW a) = _ from num8 .., show num (vW b) = _ from num8 ..]
  have := W_lim a 0; have := W_lim a 1; have := W_lim a 2; have := W_lim a 3; have := W_lim b 0; have := W_lim b 1; have := W_lim b 2; have := W_lim b 3
  have := W_lim a 4; have := W_lim a 5; have := W_lim a 6; have := W_lim a 7; have := W_lim b 4; have := W_lim b 5; have := W_lim b 6; have := W_lim b 7
  unfold W at *
  rw [Bool.eq_iff_iff]
  simp only [Bool.and_eq_true, beq_iff_eq]
  omega
section
variable {P : Program} {t e : TypeId} (hg : P.eqGuardType P.depth t = false) (he : P.underlying e = some (.int .u64)) (ha : ∀ w, (isAgg e).run P w = .ok false w) (hs : ∀ w, (sizeOf e).run P w = .ok 1 w)
include hg he ha hs
theorem xeq4 (hu : P.underlying t = some (.array 4 e)) (a b : Int) : PureRun P (xBin .eql t (vI a) (vI b)) (.bool (num (vI a) == num (vI b))) := by
  intro w
  have h := eq_arr4 hu he ha hs (lim a 0) (lim a 1) (lim a 2) (lim a 3) (lim b 0) (lim b 1) (lim b 2) (lim b 3) w
  rw [lim_eq4] at h
  have g : (eqGuard .eql t (.const (vI a)) (.const (vI b)) (vI a) (vI b)).run P w = .ok () w := run_eqGuard_agg (w := w) .eql t _ _ _ _ hg
  have q : (binOp .eql t (vI a) (vI b)).run P w = .ok (.bool (num (vI a) == num (vI b))) w := by
    show (binOp .eql t (.agg _) (.agg _)).run P w = _
    rw [run_eql_struct, h]; rfl
  simp [xBin, Sem.run_bind, g, q]
theorem xne4 (hu : P.underlying t = some (.array 4 e)) (a b : Int) : PureRun P (xBin .neq t (vI a) (vI b)) (.bool (num (vI a) != num (vI b))) := by
  intro w
  have h := eq_arr4 hu he ha hs (lim a 0) (lim a 1) (lim a 2) (lim a 3) (lim b 0) (lim b 1) (lim b 2) (lim b 3) w
  rw [lim_eq4] at h
  have g : (eqGuard .neq t (.const (vI a)) (.const (vI b)) (vI a) (vI b)).run P w = .ok () w := run_eqGuard_agg (w := w) .neq t _ _ _ _ hg
  have q : (binOp .neq t (vI a) (vI b)).run P w = .ok (.bool (num (vI a) != num (vI b))) w := by
    show (binOp .neq t (.agg _) (.agg _)).run P w = _
    simp only [binOp, Op.equal, Op.maxDepth, Sem.run_bind, h]; rfl
  simp [xBin, Sem.run_bind, g, q]
theorem xeq8 (hu : P.underlying t = some (.array 8 e)) (a b : Int) : PureRun P (xBin .eql t (vW a) (vW b)) (.bool (num (vW a) == num (vW b))) := by
  intro w
  have h := eq_arr8 hu he ha hs (lim a 0) (lim a 1) (lim a 2) (lim a 3) (lim a 4) (lim a 5) (lim a 6) (lim a 7) (lim b 0) (lim b 1) (lim b 2) (lim b 3) (lim b 4) (lim b 5) (lim b 6) (lim b 7) w
  rw [lim_eq8] at h
  have g : (eqGuard .eql t (.const (vW a)) (.const (vW b)) (vW a) (vW b)).run P w = .ok () w := run_eqGuard_agg (w := w) .eql t _ _ _ _ hg
  have q : (binOp .eql t (vW a) (vW b)).run P w = .ok (.bool (num (vW a) == num (vW b))) w := by
    show (binOp .eql t (.agg _) (.agg _)).run P w = _
    rw [run_eql_struct, h]; rfl
  simp [xBin, Sem.run_bind, g, q]
end
theorem eqz {n : Int} {b : Bool} (h : R4 n) (hq : (num (vI n) == num (vI 0)) = b) : (n == 0) = b := by rw [num_vI h, num_vI R4_zero] at hq; exact hq
def f_eq : List Value → Value := fun vs => .bool (num (varg vs 0) == num (varg vs 1))
def f_ne : List Value → Value := fun vs => .bool (num (varg vs 0) != num (varg vs 1))
end Go.Sx

namespace Go.Sx
def wNar (w : Int) : Int × Int := if w < 115792089237316195423570985008687907853269984665640564039457584007913129639936 then (w, 0) else (0, 2)
theorem wNar_R {w : Int} (h : R8 w) : R4 (wNar w).1 := by
  unfold wNar; split
  · exact ⟨h.1, by assumption⟩
  · exact R4_zero
theorem orz {a b : Int} (ha : W a) (hb : W b) : IntKind.u64.wrap (((BitVec.ofInt 64 a ||| BitVec.ofInt 64 b : BitVec 64).toNat : Nat) : Int) = 0 ↔ a = 0 ∧ b = 0 := by
  obtain ⟨a, rfl⟩ := Int.eq_ofNat_of_zero_le ha.1
  obtain ⟨b, rfl⟩ := Int.eq_ofNat_of_zero_le hb.1
  have a1 : a < 2 ^ 64 := by have := ha.2; omega
  have b1 : b < 2 ^ 64 := by have := hb.2; omega
  simp only [BitVec.toNat_or, BitVec.ofInt_natCast, BitVec.toNat_ofNat]
  rw [Nat.mod_eq_of_lt a1, Nat.mod_eq_of_lt b1, wrap_u64]
  have := Nat.or_lt_two_pow a1 b1
  have e := @Nat.or_eq_zero_iff a b
  omega
theorem narrow_z {w : Int} : (IntKind.u64.wrap (((BitVec.ofInt 64 (IntKind.u64.wrap (((BitVec.ofInt 64 (IntKind.u64.wrap (((BitVec.ofInt 64 (lim w 4) ||| BitVec.ofInt 64 (lim w 5) : BitVec 64).toNat : Nat) : Int)) ||| BitVec.ofInt 64 (lim w 6) : BitVec 64).toNat : Nat) : Int)) ||| BitVec.ofInt 64 (lim w 7) : BitVec 64).toNat : Nat) : Int) = 0) ↔ lim w 4 = 0 ∧ lim w 5 = 0 ∧ lim w 6 = 0 ∧ lim w 7 = 0 := by
  rw [orz (W_wrap _) (W_lim _ _), orz (W_wrap _) (W_lim _ _), orz (W_lim _ _) (W_lim _ _)]
  constructor
  · rintro ⟨⟨⟨h4, h5⟩, h6⟩, h7⟩; exact ⟨h4, h5, h6, h7⟩
  · rintro ⟨h4, h5, h6, h7⟩; exact ⟨⟨⟨h4, h5⟩, h6⟩, h7⟩
theorem narrow_lt {w : Int} (h : R8 w) : (lim w 4 = 0 ∧ lim w 5 = 0 ∧ lim w 6 = 0 ∧ lim w 7 = 0) ↔ w < 115792089237316195423570985008687907853269984665640564039457584007913129639936 := by
  rw [lim4, lim5, lim6, lim7]; unfold R8 at h; omega
theorem narrow_ov {w : Int} (h : R8 w) (hc : (IntKind.u64.wrap (((BitVec.ofInt 64 (IntKind.u64.wrap (((BitVec.ofInt 64 (IntKind.u64.wrap (((BitVec.ofInt 64 (lim w 4) ||| BitVec.ofInt 64 (lim w 5) : BitVec 64).toNat : Nat) : Int)) ||| BitVec.ofInt 64 (lim w 6) : BitVec 64).toNat : Nat) : Int)) ||| BitVec.ofInt 64 (lim w 7) : BitVec 64).toNat : Nat) : Int) != (0 : Int)) = true) : wNar (num (vW w)) = (0, 2) := by
  have hc : ¬ _ := fun h0 => (by simpa using hc : ¬ _ = (0 : Int)) (narrow_z.2 ((narrow_lt h).2 h0))
  rw [num_vW h]; unfold wNar; rw [if_neg hc]
theorem narrow_ok {w : Int} (h : R8 w) (hc : (IntKind.u64.wrap (((BitVec.ofInt 64 (IntKind.u64.wrap (((BitVec.ofInt 64 (IntKind.u64.wrap (((BitVec.ofInt 64 (lim w 4) ||| BitVec.ofInt 64 (lim w 5) : BitVec 64).toNat : Nat) : Int)) ||| BitVec.ofInt 64 (lim w 6) : BitVec 64).toNat : Nat) : Int)) ||| BitVec.ofInt 64 (lim w 7) : BitVec 64).toNat : Nat) : Int) != (0 : Int)) = false) : wNar (num (vW w)) = (w, 0) ∧ R4 w := by
  have hc := (narrow_lt h).1 (narrow_z.1 (by simpa using hc))
  exact ⟨by rw [num_vW h]; unfold wNar; rw [if_pos hc], h.1, hc⟩
theorem num84 (a : Int) : num (.agg #[.int .u64 (lim a 0), .int .u64 (lim a 1), .int .u64 (lim a 2), .int .u64 (lim a 3), .int .u64 0, .int .u64 0, .int .u64 0, .int .u64 0]) = num (vI a) := by
  rw [num8, lims]; omega
theorem wDiv_R {n d : Int} (hn : R4 n) (hd : R4 d) : R4 (wDiv n d).1 := by
  unfold wDiv; split
  · exact R4_zero
  · exact ⟨Int.ediv_nonneg hn.1 hd.1, Int.lt_of_le_of_lt (Int.ediv_le_self _ hn.1) hn.2⟩
theorem fin3q {f : Int × Int × Int} {v w : Value} {n r e : Int} (h : f = (n, r, e)) (hn : R4 n) (hr : R4 r) (hv : vI n = v) (hw : vI r = w) :
    ∃ zx : Int × Int × Int, (R4 zx.1 ∧ R4 zx.2.1 ∧ zx = f) ∧ Value.tuple #[v, w, .int .i64 e] = .tuple #[vI zx.1, vI zx.2.1, .int .i64 zx.2.2] ∧ True :=
  ⟨(n, r, e), ⟨hn, hr, h.symm⟩, by rw [hv, hw], trivial⟩
def wMulDiv (a b d : Int) : Int × Int := if d = 0 then (0, 3) else wNar (a * b / d)
def wMulDivUp (a b d : Int) : Int × Int := if d = 0 then (0, 3) else if (wNar (a * b / d)).2 ≠ 0 ∨ a * b % d = 0 then wNar (a * b / d) else hAdd (a * b / d) 1
theorem wMulDiv_R {a b d : Int} (ha : R4 a) (hb : R4 b) (hd : R4 d) : R4 (wMulDiv a b d).1 := by
  unfold wMulDiv; split
  · exact R4_zero
  · have h := wDiv_R8 (prod_R ha hb) hd
    unfold wDiv at h
    rw [if_neg (by assumption)] at h
    exact wNar_R h
theorem wMulDivUp_R {a b d : Int} (ha : R4 a) (hb : R4 b) (hd : R4 d) : R4 (wMulDivUp a b d).1 := by
  unfold wMulDivUp; split
  · exact R4_zero
  · rename_i h0
    have h := wMulDiv_R ha hb hd
    unfold wMulDiv at h
    rw [if_neg h0] at h
    split
    · exact h
    · rename_i h1
      have h2 : (wNar (a * b / d)).2 = 0 := by
        rcases Classical.em ((wNar (a * b / d)).2 = 0) with h | h
        · exact h
        · exact absurd (.inl h) h1
      unfold wNar at h h2
      split at h2
      · rename_i h3; rw [if_pos h3] at h; exact hAdd_R h R4_one
      · cases h2
section
variable {a b d : Int} {x : Int × Int × Int} {y z : Int × Int}
theorem quo_err (hx : x = wDiv a d) (hc : (x.2.2 != 0) = true) : wDiv a d = (0, 0, x.2.2) := by
  have hc := nz_true hc
  subst hx; unfold wDiv at hc ⊢
  split
  · rfl
  · rename_i h; rw [if_neg h] at hc; exact absurd rfl hc
theorem quo_ok (ha : R4 a) (hx : x = wDiv a d) (hc : (x.2.2 != 0) = false) (hd : R4 d) (hy : y = wNar x.1) : wDiv a d = (y.1, x.2.1, y.2) := by
  have hc := nz_false hc
  have hr := wDiv_R ha hd
  subst hx
  have e : wNar (wDiv a d).1 = ((wDiv a d).1, 0) := by
    conv => lhs; unfold wNar
    rw [if_pos hr.2]
  subst hy
  rw [e]
  exact Prod.ext rfl (Prod.ext rfl hc)
theorem md_err {p : Int} (hp : p = a * b) (hx : x = wDiv p d) (hc : (x.2.2 != 0) = true) : wMulDiv a b d = (0, x.2.2) ∧ wMulDivUp a b d = (0, x.2.2) := by
  have hc := nz_true hc
  subst hx; unfold wDiv at hc ⊢; unfold wMulDiv wMulDivUp
  split
  · exact ⟨rfl, rfl⟩
  · rename_i h; rw [if_neg h] at hc; exact absurd rfl hc
theorem md_ok {p : Int} (hp : p = a * b) (hx : x = wDiv p d) (hc : (x.2.2 != 0) = false) (hy : y = wNar x.1) : wMulDiv a b d = (y.1, y.2) := by
  have hc := nz_false hc
  subst hp; subst hx; subst hy; unfold wDiv at hc ⊢; unfold wMulDiv
  split
  · rename_i h; rw [if_pos h] at hc; cases hc
  · rfl
theorem mu_err {p : Int} (hp : p = a * b) (hx : x = wDiv p d) (hc : (x.2.2 != 0) = false) (hy : y = wNar x.1) (h : (y.2 != 0) = true ∨ (x.2.1 == 0) = true) : wMulDivUp a b d = (y.1, y.2) := by
  have hc := nz_false hc
  subst hp; subst hx; subst hy; unfold wDiv at *; unfold wMulDivUp
  split
  · rename_i h; rw [if_pos h] at hc; cases hc
  · rename_i h0; rw [if_neg h0] at h
    rw [if_pos (h.imp (fun h => nz_true h) (fun h => by simpa using h))]
theorem mu_ok {p : Int} (hp : p = a * b) (hx : x = wDiv p d) (hc : (x.2.2 != 0) = false) (hy : y = wNar x.1) (h1 : (y.2 != 0) = false) (h2 : (x.2.1 == 0) = false) (hz : z = hAdd y.1 1) : wMulDivUp a b d = (z.1, z.2) := by
  have hc := nz_false hc
  subst hp; subst hx; subst hy; unfold wDiv at *; unfold wMulDivUp
  split
  · rename_i h; rw [if_pos h] at hc; cases hc
  · rename_i h0; rw [if_neg h0] at *
    have h1 := nz_false h1
    rw [if_neg (by
      rintro (h | h)
      · exact h h1
      · exact absurd h (by simpa using h2))]
    subst hz
    have : (wNar (a * b / d)).1 = a * b / d := by
      unfold wNar at h1 ⊢
      split at h1
      · rename_i h; rw [if_pos h]
      · cases h1
    dsimp only at *
    rw [this]
end
end Go.Sx

namespace Go.Sx
inductive Row where
  | nil
  | mk (b : Nat) (vs ex : List Value)
def sv : Row → Value
  | .nil => .slice none 0 0
  | .mk b vs ex => .slice (some ⟨b, 0, none⟩) vs.length (vs.length + ex.length)
def ss (e : TypeId) : Row → Slot
  | .nil => .free
  | .mk b vs ex => .blk b (.cells (vs ++ ex).toArray e (0, 0))
def vals : Row → List Value
  | .nil => []
  | .mk _ vs _ => vs
def rvals (v : Value) (s : Slot) : List Value := (scells s).toList.take (vlen v)
theorem rvals_eq (r : Row) (e : TypeId) : rvals (sv r) (ss e r) = vals r := by
  cases r with
  | nil => rfl
  | mk b vs ex => simp [rvals, sv, ss, vals, vlen, scells]
theorem vlen_sv (r : Row) : vlen (sv r) = (vals r).length := by cases r <;> rfl
structure SlT (P : Program) (t e : TypeId) (z : Value) : Prop where
  und : P.underlying t = some (.slice e)
  elem : P.elem t = e
  info : ∃ i, P.info? e = some i ∧ i.zero = some z ∧ i.size = 1 ∧ i.bytes ≤ 4096
  zc : z.cells = #[z]
theorem SlT.of {P : Program} {t e : TypeId} {z : Value} (h1 : P.underlying t = some (.slice e)) (h2 : P.elem t = e) (h3 : (P.info? e).bind (·.zero) = some z) (h4 : (P.info? e).map (fun i => (i.size, Nat.ble i.bytes 4096)) = some (1, true)) (h5 : z.cells = #[z]) : SlT P t e z := by
  refine ⟨h1, h2, ?_, h5⟩
  cases hi : P.info? e with
  | none => rw [hi] at h3; cases h3
  | some i =>
    rw [hi] at h3 h4
    simp at h3 h4
    exact ⟨i, rfl, h3, h4.1, h4.2⟩
theorem SlT.size {P : Program} {t e : TypeId} {z : Value} (h : SlT P t e z) (w : World) : (sizeOf e).run P w = .ok 1 w := by
  obtain ⟨i, hi, hz, hs, hb⟩ := h.info
  simp [sizeOf, typeInfo, hi, hs]
/-! ### The length -/
def xLen (t : TypeId) (x : Value) : Sem Next := do pure (.value (← Builtin.len_ #[t] 3 #[x]))
def f_len : List Value → Value := fun vs => .int .i64 ((vlen (varg vs 0) : Nat) : Int)
theorem xlen {P : Program} {t e : TypeId} {z : Value} (h : SlT P t e z) (ty : TypeId) (r : Row) : PureRun P (do pure (.value (← Builtin.len_ #[t] ty #[sv r]))) (.int .i64 ((vlen (sv r) : Nat) : Int)) := by
  intro w
  cases r <;> simp [Builtin.len_, run_underlying h.und, sv, vlen, goInt]
/-! ### An element's address -/
def f_idx : List Value → Value := fun vs => .pointer (some ⟨vblk (varg vs 0), (ci (varg vs 1)).toNat, none⟩)
theorem xidx {P : Program} {t e : TypeId} {z : Value} (h : SlT P t e z) (r : Row) (k : IntKind) (i : Int) (h0 : 0 ≤ i) (h1 : i < ((vals r).length : Nat)) :
    PureRun P (do pure (.value (← Instr.indexAt t (sv r) (.int k i)))) (.pointer (some ⟨vblk (sv r), i.toNat, none⟩)) := by
  intro w
  cases r with
  | nil => simp [vals] at h1; omega
  | mk b vs ex =>
    have hc : 0 ≤ i ∧ i < (vs.length : Int) := ⟨h0, h1⟩
    simp [Instr.indexAt, run_underlying h.und, sv, asIntOf, hc, h.size w, vblk, Addr.add]
    omega
/-! ### Reading, writing -/
theorem ofList_one (s : Slot) : ofList [s] 0 = s := rfl
theorem xget {P : Program} {e : TypeId} (r : Row) (te : TypeId) (ha : ∀ w, (isAgg te).run P w = .ok false w) (n : Nat) (x : Value) (hx : (vals r)[n]? = some x) :
    OpT P (do pure (.value (← Instr.loadAt te (.pointer (some ⟨vblk (sv r), n, none⟩))))) [ss e r] Unit (fun _ => x) (fun _ => [ss e r]) (fun _ => True) := by
  intro R w h
  cases r with
  | nil => simp [vals] at hx
  | mk b vs ex =>
    have hb := h.block (i := 0) rfl
    have hc : w.cell? ⟨b, n, none⟩ = some x := by
      have hn : n < vs.length := by
        rcases Nat.lt_or_ge n vs.length with h | h
        · exact h
        · simp [vals, List.getElem?_eq_none h] at hx
      simp only [vals] at hx
      simp [World.cell?, hb, List.getElem?_append_left hn, hx]
    refine ⟨(), w, trivial, .inl ?_, h, Ext.refl w⟩
    simp [Instr.loadAt, Instr.sureAddr, vblk, sv, loadVar, Sem.run_bind, ha, hc]
def sset (s : Slot) (n : Nat) (v : Value) : Slot := match s with | .blk b (.cells cs t f) => .blk b (.cells (cs.setIfInBounds n v) t f) | s => s
def Row.set : Row → Nat → Value → Row
  | .nil, _, _ => .nil
  | .mk b vs ex, n, v => .mk b (vs.set n v) ex
theorem sv_set (r : Row) (n : Nat) (v : Value) : sv (r.set n v) = sv r := by cases r <;> simp [Row.set, sv]
theorem vals_set (r : Row) (n : Nat) (v : Value) : vals (r.set n v) = (vals r).set n v := by cases r <;> simp [Row.set, vals]
theorem ss_set (r : Row) (e : TypeId) (n : Nat) (v : Value) (h : n < (vals r).length) : sset (ss e r) n v = ss e (r.set n v) := by
  cases r with
  | nil => rfl
  | mk b vs ex =>
    simp only [vals] at h
    simp [sset, ss, Row.set, List.set_append, h]
theorem xput {P : Program} {e : TypeId} (r : Row) (te : TypeId) (hs : ∀ w, (sizeOf te).run P w = .ok 1 w) (n : Nat) (v : Value) (h1 : v.cells = #[v]) (h2 : v.oneCell' = true) (hn : n < (vals r).length) :
    OpT P (do Instr.storeAt te (.pointer (some ⟨vblk (sv r), n, none⟩)) v; pure .skip) [ss e r] Unit (fun _ => undef) (fun _ => [sset (ss e r) n v]) (fun _ => True) := by
  intro R w h
  cases r with
  | nil => simp [vals] at hn
  | mk b vs ex =>
    simp only [vals] at hn
    have hb := h.block (i := 0) rfl
    have hc : w.cell? ⟨b, n, none⟩ = some vs[n] := by
      simp [World.cell?, hb, List.getElem?_append_left hn, hn]
    have hf : w.frozen? ⟨b, n, none⟩ = false := frozen_of_row w b n _ e hb
    have hst : (store ⟨b, n, none⟩ v).run P w = .ok () (w.setCell ⟨b, n, none⟩ v) := by rw [run_store P w _ v _ h2, hc]; simp [hf]
    have hh := heap_setCell_same w b n _ e v hb
    refine ⟨(), w.setCell ⟨b, n, none⟩ v, trivial, .inr ⟨?_, rfl⟩, ?_, ?_⟩
    · simp [Instr.storeAt, Instr.sureAddr, vblk, sv, storeVar, Sem.run_bind, hs, h1, storeCells, Addr.add, hst]
    · have := h.set (i := 0) (b := b) rfl hh (fun c hc => heap_setCell_other w _ c v hc)
      refine (congrArg (fun H => Own H R (w.setCell ⟨b, n, none⟩ v)) ?_).mp this
      funext i
      cases i <;> rfl
    · exact ⟨rfl, rfl, rfl, by simp, by first | exact Nat.le_refl _ | exact Nat.le_succ _ | simp⟩
/-! ### Appending one element -/
def Row.lenOK (r : Row) : Prop := (vals r).length ≤ 1099511627776
theorem xappend {P : Program} {t e : TypeId} {z : Value} (h : SlT P t e z) (ty : TypeId) (r : Row) (hl : (vals r).length ≤ 1073741824) (c m : Nat) (x : Value) (h2 : x.oneCell' = true) :
    OpT P (do pure (.value (← Builtin.append_ #[t, t] ty #[sv r, .slice (some ⟨c, 0, none⟩) 1 m]))) [ss e r, .blk c (.cells #[x] e (0, 0))] Row sv (fun y => [ss e y, .blk c (.cells #[x] e (0, 0))]) (fun y => vals y = vals r ++ [x]) := by
  intro R w h0
  obtain ⟨i, hi, hz, hs, hby⟩ := h.info
  have hc := h0.block (i := 1) rfl
  have hnews : ∀ j u, [x][j]? = some u → w.cell? ((⟨c, 0, none⟩ : Addr).add j) = some u := by
    intro j u hu
    have hj : j = 0 := by
      cases j with
      | zero => rfl
      | succ j => simp at hu
    subst hj
    simp at hu; subst hu
    simp [World.cell?, Addr.add, hc]
  have upd1 : ∀ (s : Slot), upd (ofList [ss e r, .blk c (.cells #[x] e (0, 0))]) 0 s = ofList [s, .blk c (.cells #[x] e (0, 0))] := by
    intro s; funext i
    cases i with
    | zero => rfl
    | succ i => cases i <;> rfl
  have fresh : ∀ (o : Obj), Own (ofList [.blk w.heap.size o, .blk c (.cells #[x] e (0, 0))]) R (w.drew.alloc o) := by
    intro o
    have := h0.new (w' := w.drew.alloc o) (i := 0) (o := o) (heap_alloc_new w.drew o) (fun c hc => heap_alloc_old w.drew o c hc)
    rw [upd1] at this
    exact this
  have ext : ∀ (o : Obj), Ext w (w.drew.alloc o) := fun o => ⟨rfl, rfl, rfl, by simp, by first | exact Nat.le_refl _ | exact Nat.le_succ _ | simp⟩
  have zl : ∀ n, ∃ ex : List Value, Builtin.zeroCells z.cells n = ex.toArray ∧ ex.length = n := by
    intro n
    refine ⟨(Builtin.zeroCells z.cells n).toList, by simp, ?_⟩
    rw [Array.length_toList, size_zeroCells, h.zc]; simp
  cases r with
  | nil =>
    have hr := run_append_nil (P := P) w t ty e i z h.und hi hz ⟨c, 0, none⟩ 1 m [x] (by simp [hs]) hnews (by decide) (by decide) (by omega)
    obtain ⟨ex, he, hx⟩ := zl (grownCap w 1 0 e - 1)
    have hge := grownCap_ge w 1 0 e
    rw [he] at hr
    refine ⟨.mk w.heap.size [x] ex, _, rfl, .inl ?_, fresh _, ext _⟩
    · simp only [sv]
      show (Sem.run P (Builtin.append_ _ _ _ >>= _) w) = _
      rw [Sem.run_bind, hr]
      have : 1 + ex.length = grownCap w 1 0 e := by omega
      simp [this]
  | mk b vs ex =>
    simp only [vals] at hl
    have hb := h0.block (i := 0) rfl
    by_cases hroom : vs.length + 1 ≤ vs.length + ex.length
    · have hcell : ∀ j, j < [x].length → (w.cell? ⟨b, 0 + vs.length * i.size + j, none⟩).isSome = true := by
        intro j hj
        have hj : j = 0 := by simp at hj; exact hj
        subst hj
        rw [hs]
        have : vs.length < (vs ++ ex).length := by simp; omega
        simp [World.cell?, hb, List.getElem?_eq_getElem this]
      have hr := run_append_room_cells (P := P) w t ty e i h.und hi b 0 vs.length (vs.length + ex.length) ⟨c, 0, none⟩ 1 m [x] (by simp [hs]) hnews (by simpa using h2) hroom hcell (fun j hj => frozen_of_row w b _ _ e hb)
      rw [hs, Nat.mul_one, Nat.zero_add] at hr
      cases ex with
      | nil => exact absurd hroom (by simp)
      | cons e0 ex =>
        have hh := heap_setCell_same w b vs.length _ e x hb
        have hset : ((vs ++ e0 :: ex).toArray.setIfInBounds vs.length x) = (vs ++ [x] ++ ex).toArray := by simp
        rw [hset] at hh
        refine ⟨.mk b (vs ++ [x]) ex, w.setCell ⟨b, vs.length, none⟩ x, rfl, .inl ?_, ?_, ⟨rfl, rfl, rfl, by simp, by first | exact Nat.le_refl _ | exact Nat.le_succ _ | simp⟩⟩
        · simp only [sv]
          rw [Sem.run_bind, hr]
          simp [World.setCells, Nat.add_comm, Nat.add_left_comm]
        · have := h0.set (i := 0) (b := b) rfl hh (fun c hc => heap_setCell_other w _ c x hc)
          rw [upd1] at this
          exact this
    · have hex : ex = [] := by cases ex with
        | nil => rfl
        | cons a l => simp at hroom
      subst hex
      have holds : ∀ j u, vs[j]? = some u → w.cell? ((⟨b, 0, none⟩ : Addr).add j) = some u := by
        intro j u hu
        have hj : j < vs.length := by
          rcases Nat.lt_or_ge j vs.length with h | h
          · exact h
          · simp [List.getElem?_eq_none h] at hu
        have : (⟨b, 0, none⟩ : Addr).add j = ⟨b, 0 + j, none⟩ := Addr.add_lit ..
        rw [this]
        simp at hb
        simp [World.cell?, hb, hu]
      have hfit : Builtin.nextslicecap (vs.length + 1) (vs.length + ([] : List Value).length) * i.bytes ≤ 281474976710656 := by
        refine growslice_fits (by simp) ?_
        have : (vs.length + 1) * i.bytes ≤ 1073741825 * 4096 := Nat.mul_le_mul (by omega) hby
        omega
      have hr := run_append_grow (P := P) w t ty e i z h.und hi hz ⟨b, 0, none⟩ vs.length (vs.length + ([] : List Value).length) vs (by simp [hs]) holds ⟨c, 0, none⟩ 1 m [x] (by simp [hs]) hnews (by simp) (by omega) hfit
      obtain ⟨ex, he, hx⟩ := zl (grownCap w (vs.length + 1) (vs.length + ([] : List Value).length) e - (vs.length + 1))
      have hge := grownCap_ge w (vs.length + 1) (vs.length + ([] : List Value).length) e
      rw [he] at hr
      refine ⟨.mk w.heap.size (vs ++ [x]) ex, w.drew.alloc (.cells (vs.toArray ++ #[x] ++ ex.toArray) e), rfl, .inl ?_, ?_, ext _⟩
      · simp only [sv]
        rw [Sem.run_bind, hr]
        have e1 : (vs ++ [x]).length = vs.length + 1 := by simp
        have e2 : (vs ++ [x]).length + ex.length = grownCap w (vs.length + 1) (vs.length + ([] : List Value).length) e := by rw [e1]; omega
        rw [e2, e1]; rfl
      · have := fresh (.cells (vs.toArray ++ #[x] ++ ex.toArray) e)
        have e3 : vs.toArray ++ #[x] ++ ex.toArray = (vs ++ [x] ++ ex).toArray := by simp
        rw [e3] at this ⊢
        exact this
/-! ### The first elements -/
def Row.take : Row → Nat → Row
  | .nil, _ => .nil
  | .mk b vs ex, n => .mk b (vs.take n) (vs.drop n ++ ex)
theorem vals_take (r : Row) (n : Nat) : vals (r.take n) = (vals r).take n := by cases r <;> simp [Row.take, vals]
theorem ss_take (r : Row) (e : TypeId) (n : Nat) : ss e (r.take n) = ss e r := by
  cases r with
  | nil => rfl
  | mk b vs ex => simp [Row.take, ss, ← List.append_assoc]
def vtake (v : Value) (n : Nat) : Value := match v with | .slice a _ c => .slice a n c | v => v
theorem vtake_sv (r : Row) (n : Nat) (h : n ≤ (vals r).length) : vtake (sv r) n = sv (r.take n) := by
  cases r with
  | nil => simp [vals] at h; subst h; rfl
  | mk b vs ex =>
    simp only [vals] at h
    simp [vtake, sv, Row.take, List.length_take, Nat.min_eq_left h]; omega
def f_take : List Value → Value := fun vs => vtake (varg vs 0) (ci (varg vs 1)).toNat
theorem xtake {P : Program} {t e : TypeId} {z : Value} (h : SlT P t e z) (r : Row) (k : IntKind) (n : Int) (h0 : 0 ≤ n) (h1 : n ≤ ((vals r).length : Nat)) :
    PureRun P (do pure (.value (← Instr.sliceAt t (sv r) none (some (.int k n)) none))) (vtake (sv r) n.toNat) := by
  intro w
  have hu : P.underlying t = some (.slice (P.elem t)) := by rw [h.elem]; exact h.und
  have hs := h.size w
  rw [← h.elem] at hs
  have key : ∀ (a : Option Addr) (l c : Nat), sv r = .slice a l c → (a.map (·.add 0) = a) → n ≤ (c : Int) → (Instr.sliceAt t (sv r) none (some (.int k n)) none).run P w = .ok (vtake (sv r) n.toNat) w := by
    intro a l c hv ha hc
    rw [hv, run_sliceAt_slice w t _ _ _ _ hu, run_slice_h w t a l c hu k n h0 hc, hs]
    show Result.ok (sliced a 0 n.toNat c 1) w = _
    unfold sliced vtake
    simp [ha]
  have hk : (Instr.sliceAt t (sv r) none (some (.int k n)) none).run P w = .ok (vtake (sv r) n.toNat) w := by
    cases r with
    | nil =>
      simp only [vals, List.length_nil] at h1
      exact key none 0 0 rfl rfl (by omega)
    | mk b vs ex =>
      simp only [vals] at h1
      exact key _ _ _ rfl (by simp [Addr.add]) (by omega)
  rw [Sem.run_bind, hk]; rfl
/-! ### A new row -/
theorem xmake {P : Program} {t e : TypeId} {z : Value} (h : SlT P t e z) (k : IntKind) (n : Int) (h0 : 0 ≤ n) (h1 : n ≤ 1073741824) :
    OpT P (do pure (.value (← Instr.makeSlice t (.int k n) (.int k n)))) [] Row sv (fun y => [ss e y]) (fun y => vals y = List.replicate n.toNat z) := by
  intro R w hO
  obtain ⟨i, hi, hz, hs, hby⟩ := h.info
  have hr := run_make (P := P) w t e i z h.und hi hz k k n n h0 (by omega) (by
    have : (i.bytes : Int) * n ≤ 4096 * 1073741824 := Int.mul_le_mul (by omega) h1 h0 (by decide)
    omega) (by omega)
  have hm : madeCells z.cells (n.toNat * i.size) = (List.replicate n.toNat z).toArray := by
    rw [hs, Nat.mul_one, h.zc]
    apply Array.ext
    · simp [madeCells]
    · intro j h1 h2; simp [madeCells, Nat.mod_one]
  rw [hm] at hr
  refine ⟨.mk w.heap.size (List.replicate n.toNat z) [], w.alloc (.cells (List.replicate n.toNat z).toArray e), rfl, .inl ?_, ?_, ?_⟩
  · rw [Sem.run_bind, hr]; simp [sv]
  · have := hO.new (w' := w.alloc (.cells (List.replicate n.toNat z).toArray e)) (i := 0) (heap_alloc_new w _) (fun c hc => heap_alloc_old w _ c hc)
    refine (congrArg (fun H => Own H R (w.alloc (.cells (List.replicate n.toNat z).toArray e))) ?_).mp this
    funext i
    cases i with
    | zero => simp [upd, ofList, ss]
    | succ i => rfl
  · exact ⟨rfl, rfl, rfl, by simp, by first | exact Nat.le_refl _ | exact Nat.le_succ _ | simp⟩
end Go.Sx
