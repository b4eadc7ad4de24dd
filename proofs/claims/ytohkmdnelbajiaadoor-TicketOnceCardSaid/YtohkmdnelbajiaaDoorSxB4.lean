/- Numbers of four and of eight limbs, as values; projections for the contracts' families. -/
import Derived.Test.YtohkmdnelbajiaaDoorSxB3
set_option linter.unusedVariables false
set_option linter.unusedSimpArgs false
namespace Go.Sx
/-! ### Projections -/
def ci : Value → Int | .int _ n => n | _ => 0
def cb : Value → Bool | .bool b => b | _ => false
def cell (v : Value) (i : Nat) : Value := match v with | .agg cs => cs.getD i undef | .tuple cs => cs.getD i undef | _ => undef
def vblk : Value → Nat | .slice (some a) _ _ => a.block | .pointer (some a) => a.block | .map (some b) => b | _ => 0
def voff : Value → Nat | .slice (some a) _ _ => a.off | .pointer (some a) => a.off | _ => 0
def vlen : Value → Nat | .slice _ n _ => n | _ => 0
def vcap : Value → Nat | .slice _ _ n => n | _ => 0
def varg (vs : List Value) (i : Nat) : Value := vs.getD i undef
def sarg (hs : List Slot) (i : Nat) : Slot := hs.getD i .free
def sblk : Slot → Nat | .blk b _ => b | _ => 0
def scell (s : Slot) (i : Nat) : Value := match s with | .blk _ (.cells cs _ _) => cs.getD i undef | _ => undef
def scells : Slot → Array Value | .blk _ (.cells cs _ _) => cs | _ => #[]
/-! ### Numbers -/
def lim (n : Int) (i : Nat) : Int := n / (18446744073709551616 ^ i) % 18446744073709551616
def vI (n : Int) : Value := .agg #[.int .u64 (lim n 0), .int .u64 (lim n 1), .int .u64 (lim n 2), .int .u64 (lim n 3)]
def vW (n : Int) : Value := .agg #[.int .u64 (lim n 0), .int .u64 (lim n 1), .int .u64 (lim n 2), .int .u64 (lim n 3), .int .u64 (lim n 4), .int .u64 (lim n 5), .int .u64 (lim n 6), .int .u64 (lim n 7)]
def numL : List Value → Int | .int _ a :: l => a + 18446744073709551616 * numL l | _ => 0
def num (v : Value) : Int := match v with | .agg cs => numL cs.toList | _ => 0
def R4 (n : Int) : Prop := 0 ≤ n ∧ n < 115792089237316195423570985008687907853269984665640564039457584007913129639936
def R8 (n : Int) : Prop := 0 ≤ n ∧ n < 13407807929942597099574024998205846127479365820592393377723561443721764030073546976801874298166903427690031858186486050853753882811946569946433649006084096
theorem lim0 (n : Int) : lim n 0 = n % 18446744073709551616 := by simp [lim]
theorem lim1 (n : Int) : lim n 1 = n / 18446744073709551616 % 18446744073709551616 := by simp [lim]
theorem lim2 (n : Int) : lim n 2 = n / 340282366920938463463374607431768211456 % 18446744073709551616 := by simp [lim]
theorem lim3 (n : Int) : lim n 3 = n / 6277101735386680763835789423207666416102355444464034512896 % 18446744073709551616 := by simp [lim]
theorem W_lim (n : Int) (i : Nat) : W (lim n i) := by unfold lim W; omega
theorem num4 (a b c d : Int) : num (.agg #[.int .u64 a, .int .u64 b, .int .u64 c, .int .u64 d]) = a + 18446744073709551616 * (b + 18446744073709551616 * (c + 18446744073709551616 * (d + 18446744073709551616 * 0))) := rfl
theorem num4' (a b c d : Int) : num (.agg #[.int .u64 a, .int .u64 b, .int .u64 c, .int .u64 d]) = a + 18446744073709551616 * b + 340282366920938463463374607431768211456 * c + 6277101735386680763835789423207666416102355444464034512896 * d := by rw [num4]; omega
theorem num_vI' (n : Int) : num (vI n) = n % 115792089237316195423570985008687907853269984665640564039457584007913129639936 := by
  show num (.agg _) = _
  rw [num4, lim0, lim1, lim2, lim3]; omega
theorem num_vI {n : Int} (h : R4 n) : num (vI n) = n := by rw [num_vI']; unfold R4 at h; omega
theorem R4_num (n : Int) : R4 (num (vI n)) := by rw [num_vI']; unfold R4; omega
theorem vI_num4 {a b c d : Int} (ha : W a) (hb : W b) (hc : W c) (hd : W d) : vI (num (.agg #[.int .u64 a, .int .u64 b, .int .u64 c, .int .u64 d])) = .agg #[.int .u64 a, .int .u64 b, .int .u64 c, .int .u64 d] := by
  unfold W at *
  have e0 : lim (num (.agg #[.int .u64 a, .int .u64 b, .int .u64 c, .int .u64 d])) 0 = a := by rw [num4, lim0]; omega
  have e1 : lim (num (.agg #[.int .u64 a, .int .u64 b, .int .u64 c, .int .u64 d])) 1 = b := by rw [num4, lim1]; omega
  have e2 : lim (num (.agg #[.int .u64 a, .int .u64 b, .int .u64 c, .int .u64 d])) 2 = c := by rw [num4, lim2]; omega
  have e3 : lim (num (.agg #[.int .u64 a, .int .u64 b, .int .u64 c, .int .u64 d])) 3 = d := by rw [num4, lim3]; omega
  unfold vI
  rw [e0, e1, e2, e3]
theorem R4_num4 {a b c d : Int} (ha : W a) (hb : W b) (hc : W c) (hd : W d) : R4 (num (.agg #[.int .u64 a, .int .u64 b, .int .u64 c, .int .u64 d])) := by
  rw [num4]; unfold W at *; unfold R4; omega
theorem vI_zero : vI 0 = .agg #[.int .u64 0, .int .u64 0, .int .u64 0, .int .u64 0] := by unfold vI; rw [lim0, lim1, lim2, lim3]; rfl
/-! ### huge -/
def hAdd (a b : Int) : Int × Int := if a + b < 115792089237316195423570985008687907853269984665640564039457584007913129639936 then (a + b, 0) else (0, 2)
def hSub (a b : Int) : Int × Int := if b ≤ a then (a - b, 0) else (0, 2)
def hMul (a b : Int) : Int × Int := if a * b < 115792089237316195423570985008687907853269984665640564039457584007913129639936 then (a * b, 0) else (0, 2)
theorem R4_zero : R4 0 := by unfold R4; decide
theorem R4_one : R4 1 := by unfold R4; decide
theorem R4.of {n : Int} (h0 : 0 ≤ n) (h1 : n < 115792089237316195423570985008687907853269984665640564039457584007913129639936) : R4 n := ⟨h0, h1⟩
theorem hAdd_R {a b : Int} (ha : R4 a) (hb : R4 b) : R4 (hAdd a b).1 := by
  unfold hAdd R4 at *; split <;> dsimp only <;> omega
theorem hSub_R {a b : Int} (ha : R4 a) (hb : R4 b) : R4 (hSub a b).1 := by
  unfold hSub R4 at *; split <;> dsimp only <;> omega
theorem hMul_R {a b : Int} (ha : R4 a) (hb : R4 b) : R4 (hMul a b).1 := by
  unfold hMul R4 at *; have := Int.mul_nonneg ha.1 hb.1; split <;> dsimp only <;> omega
theorem lims (n : Int) : num (vI n) = lim n 0 + 18446744073709551616 * lim n 1 + 340282366920938463463374607431768211456 * lim n 2 + 6277101735386680763835789423207666416102355444464034512896 * lim n 3 := num4' ..
theorem cin0 : cin 0 = 0 := rfl
end Go.Sx
