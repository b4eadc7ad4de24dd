/- A number's digits. -/
import Derived.Test.YtohkmdnelbajiaaDoorSxB16
set_option linter.unusedVariables false
set_option linter.unusedSimpArgs false
namespace Go.Sx
theorem snoc3 {r y : Row} {k : Nat} {n x p : Int} (h : RowOK r ∧ (dg r).length = k ∧ nv (dg r) = n) (hp : P16 k = p) (hy : vals y = vals r ++ [.int .i64 x]) (h0 : 0 ≤ x) (h1 : x < 65536) :
    RowOK y ∧ (dg y).length = k + 1 ∧ nv (dg y) = n + p * x := by
  obtain ⟨q1, q2⟩ := h.1.snoc h0 h1 hy
  refine ⟨q1, by rw [q2]; simp [h.2.1], ?_⟩
  rw [q2, nv_snoc, h.2.1, h.2.2, hp]
theorem nil3 : RowOK .nil ∧ (dg .nil).length = 0 ∧ nv (dg .nil) = 0 := ⟨RowOK.nil, rfl, rfl⟩
theorem quo_u16 {x : Int} (h : W x) : IntKind.u64.wrap (Int.tdiv x 65536) = x / 65536 := by
  rw [Int.tdiv_eq_ediv_of_nonneg h.1, wrap_u64]; unfold W at h; omega
theorem W_div {x : Int} (h : W x) : W (x / 65536) := by unfold W at *; omega
theorem wit_num {n : Int} (h : R4 n) : ∃ x : Row, (fun zx => RowOK zx ∧ nv (dg zx) = n ∧ Canon (dg zx) ∧ (dg zx).length ≤ 16) x := by
  obtain ⟨x, h1, h2, h3⟩ := wit_row h.1
  refine ⟨x, h1, h2, h3, canon_len h1.dig h3 ?_⟩
  rw [h2, show P16 16 = 115792089237316195423570985008687907853269984665640564039457584007913129639936 from rfl]; exact h.2
theorem num_len {l : List Int} {n : Int} (hd : Dig l) (hc : Canon l) (hn : nv l = n) (h : R4 n) : l.length ≤ 16 := by
  refine canon_len hd hc ?_
  rw [hn, show P16 16 = 115792089237316195423570985008687907853269984665640564039457584007913129639936 from rfl]; exact h.2
theorem conv16 (x : Int) : IntKind.i64.wrap (x % 65536) = x % 65536 := wrap_i64 _ (by omega) (by omega)
theorem m16_0 (x : Int) : 0 ≤ x % 65536 := by omega
theorem m16_1 (x : Int) : x % 65536 < 65536 := by omega
theorem limb_digits {x : Int} (h : W x) : x % 65536 + 65536 * (x / 65536 % 65536) + 4294967296 * (x / 65536 / 65536 % 65536) + 281474976710656 * (x / 65536 / 65536 / 65536 % 65536) = x := by
  unfold W at h; omega
end Go.Sx
