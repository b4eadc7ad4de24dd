/- Small laws for the walks of Div and Int. -/
import Derived.Test.YtbbfglcgnfehcaaSxB19
set_option linter.unusedVariables false
set_option linter.unusedSimpArgs false
namespace Go.Sx

theorem hCmp_ge {a b c : Int} (h : c = hCmp a b) (hc : c ≥ 0) : b ≤ a := by
  unfold hCmp at h
  rcases Int.lt_or_le a b with h' | h'
  · rw [if_pos h'] at h; omega
  · exact h'
theorem hCmp_nge {a b c : Int} (h : c = hCmp a b) (hc : ¬ c ≥ 0) : a < b := by
  unfold hCmp at h
  rcases Int.lt_or_le a b with h' | h'
  · exact h'
  · rw [if_neg (by omega)] at h; split at h <;> omega
theorem canon_len2 {L B : List Int} (hL : Dig L) (hc : Canon L) (hB : Dig B) (h : nv L < 4 * nv B) : L.length ≤ B.length + 3 := by
  refine Nat.le_trans (canon_len hL hc (k := B.length + 1) ?_) (by omega)
  have h1 := nv_lt hB
  rw [P16_succ]
  have := P16_pos B.length
  omega
theorem rMulDiv_R {a b d : Int} (ha : R4 a) (hb : R4 b) (hd : R4 d) (up : Bool) : R4 (rMulDiv a b d up).1 := by
  unfold rMulDiv; split
  · exact wMulDivUp_R ha hb hd
  · exact wMulDiv_R ha hb hd
theorem quo4_i64 {x : Int} {c : Int} (x0 : 0 ≤ x) (x1 : x ≤ 9223372036854775807) (h : x / 4 = c) : IntKind.i64.wrap (Int.tdiv x 4) = c := by
  rw [Int.tdiv_eq_ediv_of_nonneg x0, ← h]; exact wrap_i64 _ (by omega) (by omega)
theorem lb_vI {A : List Int} (h : Dig A) (hl : A.length ≤ 16) : Value.agg #[.int .u64 (lb A 0 0), .int .u64 (lb A 0 1), .int .u64 (lb A 0 2), .int .u64 (lb A 0 3)] = vI (nv A) := by
  have e : num (.agg #[.int .u64 (lb A 0 0), .int .u64 (lb A 0 1), .int .u64 (lb A 0 2), .int .u64 (lb A 0 3)]) = nv A := lb_all hl
  rw [← e]; exact (vI_num4 (lb_W h 0 0) (lb_W h 0 1) (lb_W h 0 2) (lb_W h 0 3)).symm
/-- One digit more goes into limb c. -/
theorem lb_step {A : List Int} (h : Dig A) {x : Nat} (hx : 0 < x) (hl : x ≤ A.length) {c : Nat} (hc : (x - 1) / 4 = c) :
    lb A (x - 1) c = lb A x c * 65536 + dgt A (x - 1) ∧ W (lb A x c * 65536) ∧ W (lb A x c * 65536 + dgt A (x - 1)) ∧ ∀ j, j ≠ c → lb A (x - 1) j = lb A x j := by
  have e := lb_same A (n := x - 1) (by omega) hc
  rw [show x - 1 + 1 = x from by omega] at e
  have w := lb_W h (x - 1) c
  have d := h.dgt (x - 1)
  have w0 := lb_W h x c
  unfold W at *
  refine ⟨by omega, by omega, by omega, fun j hj => ?_⟩
  have := lb_other A (n := x - 1) (j := j) (by omega)
  rw [show x - 1 + 1 = x from by omega] at this
  exact this.symm
theorem rInt_cases {n : Int} {x : Int × Bool} (h : x = rInt n) : (x.2 = true → n < 115792089237316195423570985008687907853269984665640564039457584007913129639936 ∧ x.1 = n) ∧ (x.2 = false → 115792089237316195423570985008687907853269984665640564039457584007913129639936 ≤ n) := by
  unfold rInt at h
  split at h <;> subst h
  · rename_i h; exact ⟨fun _ => ⟨h, rfl⟩, fun h => Bool.noConfusion h⟩
  · rename_i h; exact ⟨fun h => Bool.noConfusion h, fun _ => by omega⟩
theorem quo_R8 {p d : Int} (h : R8 p) (hd : 0 < d) : R8 (p / d) := by
  have := Int.ediv_nonneg h.1 (Int.le_of_lt hd)
  have := Int.ediv_le_self d h.1
  unfold R8 at *; omega
theorem len41 {l : List Int} {n : Int} (hd : Dig l) (hc : Canon l) (hn : nv l = n + 1) (h : R8 n) : l.length ≤ 65 := by
  refine canon_len hd hc ?_
  have h1 := wide_num h
  rw [hn]
  refine Int.lt_of_lt_of_le (Int.add_lt_add_right h1 1) (by decide)
theorem not_t {b : Bool} (h : (!b) = true) : b = false := by cases b <;> first | rfl | cases h
theorem not_f {b : Bool} (h : (!b) = false) : b = true := by cases b <;> first | rfl | cases h
theorem rmd_zero {a b : Int} (up : Bool) : rMulDiv a b 0 up = (0, 3) := by
  unfold rMulDiv wMulDivUp wMulDiv; split <;> rfl
theorem rmd_no {a b d : Int} {up : Bool} {x : Int × Bool} (hd : 0 < d) (h : up = false ∨ a * b % d = 0) (hx : x = rInt (a * b / d)) : rMulDiv a b d up = bif x.2 then (x.1, 0) else (0, 2) := by
  have e : rMulDiv a b d up = wNar (a * b / d) := by
    have hd0 : ¬ d = 0 := by omega
    cases up with
    | false => simp [rMulDiv, wMulDiv, hd0]
    | true =>
      have h' : a * b % d = 0 := h.resolve_left (by decide)
      simp only [rMulDiv, wMulDivUp, if_true]
      rw [if_neg hd0, if_pos (Or.inr h')]
  rw [e]
  obtain ⟨h1, h2⟩ := rInt_cases hx
  unfold wNar
  cases hb : x.2 with
  | true => obtain ⟨k1, k2⟩ := h1 hb; rw [if_pos k1, k2]; rfl
  | false => rw [if_neg (by have := h2 hb; omega)]; rfl
theorem rmd_up {a b d : Int} {x : Int × Bool} (hd : 0 < d) (h : a * b % d ≠ 0) (hx : x = rInt (a * b / d + 1)) : rMulDiv a b d true = bif x.2 then (x.1, 0) else (0, 2) := by
  obtain ⟨h1, h2⟩ := rInt_cases hx
  show wMulDivUp a b d = _
  unfold wMulDivUp wNar hAdd
  rw [if_neg (by omega : ¬ d = 0)]
  cases hb : x.2 with
  | true =>
    obtain ⟨k1, k2⟩ := h1 hb
    rw [if_neg, if_pos k1, k2]; rfl
    rw [if_pos (by omega)]
    rintro (h' | h')
    · exact h' rfl
    · exact h h'
  | false =>
    have := h2 hb
    rcases Int.lt_or_le (a * b / d) 115792089237316195423570985008687907853269984665640564039457584007913129639936 with k | k
    · rw [if_neg, if_neg (by omega)]; rfl
      rw [if_pos k]
      rintro (h' | h')
      · exact h' rfl
      · exact h h'
    · rw [if_neg (Int.not_lt.2 k), if_pos (.inl (by decide))]; rfl
end Go.Sx
