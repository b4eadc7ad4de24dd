/- Plain laws of the document's quotient, and of a number out of its digits. -/
import Derived.Test.YtbbfglcgnfehcaaSxB18
import Derived.Test.YtbbfglcgnfehcaaSxB12
set_option linter.unusedVariables false
set_option linter.unusedSimpArgs false
namespace Go.Sx
/-! ### Div -/
/-- The unit that stands with k more bits to go. -/
def un : Nat → Int
  | 0 => 0
  | 1 => 1
  | 2 => 2
  | 3 => 4
  | 4 => 8
  | 5 => 16
  | 6 => 32
  | 7 => 64
  | 8 => 128
  | 9 => 256
  | 10 => 512
  | 11 => 1024
  | 12 => 2048
  | 13 => 4096
  | 14 => 8192
  | 15 => 16384
  | _ => 32768
structure DivO (A B : List Int) (n : Nat) (Q L : List Int) : Prop where
  le : n ≤ A.length
  len : Q.length = A.length
  hz : nv (Q.take n) = 0
  eq : nv (A.drop n) = nv (Q.drop n) * nv B + nv L
  lt : nv L < nv B
  canon : Canon L
/-- u is twice the unit; p: how much the bits above weigh. -/
structure DivN (A B : List Int) (i k : Nat) (Q L : List Int) : Prop where
  li : i < A.length
  k16 : k ≤ 16
  len : Q.length = A.length
  hz : nv (Q.take i) = 0
  eq : nv (A.drop (i + 1)) * 2 ^ (16 - k) + dgt A i / 2 ^ k = (nv (Q.drop (i + 1)) * 2 ^ (16 - k) + dgt Q i / 2 ^ k) * nv B + nv L
  dv : dgt Q i % 2 ^ k = 0
  lt : nv L < nv B
  canon : Canon L
theorem nv_take_zero {Q : List Int} (h : Dig Q) {n m : Nat} (hm : m ≤ n) (hz : nv (Q.take n) = 0) : nv (Q.take m) = 0 := by
  have h1 : Q.take m = (Q.take n).take m := by rw [List.take_take, Nat.min_eq_left hm]
  have h2 := nv_split' (Q.take n) m
  have h3 := nv_nonneg ((h.take n).take m)
  have h4 := nv_nonneg ((h.take n).drop m)
  have h5 := P16_pos m
  have h6 := Int.mul_nonneg (Int.le_of_lt h5) h4
  rw [h1]; omega
theorem dgt_take_zero {Q : List Int} (h : Dig Q) {n : Nat} (hz : nv (Q.take (n + 1)) = 0) : dgt Q n = 0 := by
  have h2 := nv_take_succ Q n
  have h3 := nv_take_zero h (by omega : n ≤ n + 1) hz
  rw [hz, h3] at h2
  have h5 := P16_pos n
  have h6 : P16 n * dgt Q n = 0 := by omega
  rcases Int.mul_eq_zero.1 h6 with h | h
  · omega
  · exact h
theorem div_start (A B : List Int) (hb : 0 < nv B) : DivO A B A.length (List.replicate A.length 0) [] :=
  ⟨Nat.le_refl _, by simp, by rw [List.take_replicate]; exact nv_replicate _, by simp [nv, nv_replicate], by simpa [nv] using hb, by simp [Canon]⟩
theorem divn_start {A B Q L : List Int} {n : Nat} (hA : Dig A) (hQ : Dig Q) (h : DivO A B (n + 1) Q L) : DivN A B n 16 Q L := by
  have hq := dgt_take_zero hQ h.hz
  refine ⟨by have := h.le; omega, Nat.le_refl _, h.len, nv_take_zero hQ (by omega) h.hz, ?_, by rw [hq]; rfl, h.lt, h.canon⟩
  have ha := (hA.dgt n).2
  have ha0 := (hA.dgt n).1
  rw [hq]
  have e : dgt A n / 2 ^ 16 = 0 := by omega
  have e0 : (0 : Int) / 2 ^ 16 = 0 := by omega
  rw [e, e0, show 16 - 16 = 0 from rfl, show (2 : Int) ^ 0 = 1 from rfl, Int.mul_one, Int.mul_one, Int.add_zero, Int.add_zero]
  exact h.eq
theorem divn_end {A B Q L : List Int} {i : Nat} (h : DivN A B i 0 Q L) : DivO A B i Q L := by
  refine ⟨by have := h.li; omega, h.len, h.hz, ?_, h.lt, h.canon⟩
  have e := h.eq
  simp only [Nat.sub_zero, Int.pow_zero, Int.ediv_one] at e
  rw [nv_drop_dgt A, nv_drop_dgt Q]
  have e1 : nv (A.drop (i + 1)) * 2 ^ 16 = 65536 * nv (A.drop (i + 1)) := by omega
  have e2 : nv (Q.drop (i + 1)) * 2 ^ 16 = 65536 * nv (Q.drop (i + 1)) := by omega
  rw [e1, e2] at e
  rw [Int.add_comm, e, Int.add_comm (65536 * _)]
theorem pow2_succ (m : Nat) : (2 : Int) ^ (m + 1) = 2 * 2 ^ m := by rw [Int.pow_succ, Int.mul_comm]
theorem pow2_pos (m : Nat) : (0 : Int) < 2 ^ m := Int.pow_pos (by decide)
theorem div_two (a : Int) (m : Nat) : a / 2 ^ (m + 1) = a / 2 ^ m / 2 := by
  rw [Int.pow_succ, Int.ediv_ediv_of_nonneg (Int.le_of_lt (pow2_pos m))]
theorem pow2_sub {m : Nat} (h : m + 1 ≤ 16) : (2 : Int) ^ (16 - m) = 2 * 2 ^ (16 - (m + 1)) := by
  rw [← pow2_succ]; congr 1; omega
/-- One bit: what is left is twice what was, and the next bit. -/
theorem divn_bit {A B Q L M : List Int} {i m : Nat} (h : DivN A B i (m + 1) Q L) (hm : nv M = 2 * nv L + dgt A i / 2 ^ m % 2) :
    nv (A.drop (i + 1)) * 2 ^ (16 - m) + dgt A i / 2 ^ m = (nv (Q.drop (i + 1)) * 2 ^ (16 - m) + dgt Q i / 2 ^ m) * nv B + nv M ∧ dgt Q i % 2 ^ m = 0 ∧ dgt Q i / 2 ^ m % 2 = 0 := by
  have e := h.eq
  have dv := h.dv
  have k16 := h.k16
  rw [div_two, div_two] at e
  have hq : dgt Q i = 2 ^ (m + 1) * (dgt Q i / 2 ^ (m + 1)) := by
    have := Int.mul_ediv_add_emod (dgt Q i) (2 ^ (m + 1)); omega
  have hq2 : dgt Q i = 2 ^ m * (2 * (dgt Q i / 2 ^ (m + 1))) := by
    rw [← Int.mul_assoc, Int.mul_comm (2 ^ m) 2, ← pow2_succ]; exact hq
  have hq3 : dgt Q i / 2 ^ m = 2 * (dgt Q i / 2 ^ (m + 1)) := by
    conv => lhs; rw [hq2]
    exact Int.mul_ediv_cancel_left _ (Int.ne_of_gt (pow2_pos m))
  have hmod : dgt Q i % 2 ^ m = 0 := by rw [hq2]; exact Int.mul_emod_right _ _
  refine ⟨?_, hmod, by omega⟩
  rw [pow2_sub k16, hm]
  generalize dgt A i / 2 ^ m = a at e ⊢
  rw [hq3] at e ⊢
  rw [show 2 * (dgt Q i / 2 ^ (m + 1)) / 2 = dgt Q i / 2 ^ (m + 1) from by omega] at e
  generalize dgt Q i / 2 ^ (m + 1) = q at e ⊢
  generalize (2 : Int) ^ (16 - (m + 1)) = p at e ⊢
  generalize nv (A.drop (i + 1)) = X at e ⊢
  generalize nv (Q.drop (i + 1)) = Y at e ⊢
  have e1 : X * (2 * p) = 2 * (X * p) := by rw [Int.mul_left_comm]
  have e2 : (Y * (2 * p) + 2 * q) * nv B = 2 * ((Y * p + q) * nv B) := by rw [Int.mul_left_comm, ← Int.mul_add, Int.mul_assoc]
  rw [e1, e2]; omega
theorem divn_no {A B Q L M : List Int} {i m : Nat} (h : DivN A B i (m + 1) Q L) (hm : nv M = 2 * nv L + dgt A i / 2 ^ m % 2) (hc : Canon M) (hlt : nv M < nv B) : DivN A B i m Q M := by
  obtain ⟨e, dv, _⟩ := divn_bit h hm
  exact ⟨h.li, by have := h.k16; omega, h.len, h.hz, e, dv, hlt, hc⟩
theorem take_set_le (l : List Int) (i n : Nat) (x : Int) (h : n ≤ i) : (l.set i x).take n = l.take n := by
  rw [List.take_set]; exact List.set_eq_of_length_le (by simp; omega)
theorem dgt_set (l : List Int) (i : Nat) (x : Int) (h : i < l.length) : dgt (l.set i x) i = x := by
  rw [dgt, List.getD_eq_getElem?_getD]; simp [h]
theorem divn_yes {A B Q L M N : List Int} {i m : Nat} (hB : 0 < nv B) (h : DivN A B i (m + 1) Q L) (hm : nv M = 2 * nv L + dgt A i / 2 ^ m % 2) (hn : nv N = nv M - nv B) (hc : Canon N) : DivN A B i m (Q.set i (dgt Q i + 2 ^ m)) N := by
  obtain ⟨e, dv, ev⟩ := divn_bit h hm
  have li : i < Q.length := by have := h.li; have := h.len; omega
  refine ⟨h.li, by have := h.k16; omega, by simp [h.len], by rw [take_set_le _ _ _ _ (Nat.le_refl _)]; exact h.hz, ?_, ?_, ?_, hc⟩
  · rw [drop_set_lt _ _ _ _ (by omega), dgt_set _ _ _ li]
    have e1 : (dgt Q i + 2 ^ m) / 2 ^ m = dgt Q i / 2 ^ m + 1 := by
      have := Int.add_mul_ediv_right (dgt Q i) 1 (Int.ne_of_gt (pow2_pos m))
      rwa [Int.one_mul] at this
    rw [e1, e, hn, ← Int.add_assoc, Int.add_mul _ 1, Int.one_mul]; omega
  · rw [dgt_set _ _ _ li]
    have := Int.add_mul_emod_self_left (dgt Q i) (2 ^ m) 1
    rw [Int.mul_one] at this; rw [this]; exact dv
  · have hL := h.lt
    have : dgt A i / 2 ^ m % 2 ≤ 1 := by omega
    omega
theorem divn_room {A B Q L : List Int} {i m : Nat} (hQ : Dig Q) (h : DivN A B i (m + 1) Q L) : 0 ≤ dgt Q i + 2 ^ m ∧ dgt Q i + 2 ^ m < 65536 := by
  have dv := h.dv
  have k16 := h.k16
  have q0 := (hQ.dgt i).1
  have q1 := (hQ.dgt i).2
  have p0 := pow2_pos m
  refine ⟨by omega, ?_⟩
  -- a multiple of twice the unit, below 65536 which is one too
  have hq : dgt Q i = 2 ^ (m + 1) * (dgt Q i / 2 ^ (m + 1)) := by
    have := Int.mul_ediv_add_emod (dgt Q i) (2 ^ (m + 1)); omega
  have hp : (2 : Int) ^ (m + 1) * 2 ^ (16 - (m + 1)) = 65536 := by
    rw [← Int.pow_add, show m + 1 + (16 - (m + 1)) = 16 from by omega]; rfl
  generalize hqq : dgt Q i / 2 ^ (m + 1) = q at hq
  have hlt : q < 2 ^ (16 - (m + 1)) := by
    refine Int.lt_of_mul_lt_mul_left (a := 2 ^ (m + 1)) ?_ (Int.le_of_lt (pow2_pos _))
    omega
  have hle : 2 ^ (m + 1) * (q + 1) ≤ 2 ^ (m + 1) * 2 ^ (16 - (m + 1)) := Int.mul_le_mul_of_nonneg_left (by omega) (Int.le_of_lt (pow2_pos _))
  rw [hp, Int.mul_add, ← hq, Int.mul_one, pow2_succ] at hle
  omega
theorem divo_end {A B Q L : List Int} (hL : Dig L) (h : DivO A B 0 Q L) : nv Q = nv A / nv B ∧ nv L = nv A % nv B := by
  have e := h.eq
  simp only [List.drop_zero] at e
  have l0 := nv_nonneg hL
  have lt := h.lt
  have hp : 0 < nv B := by omega
  constructor
  · rw [e, Int.add_comm, Int.add_mul_ediv_right _ _ (Int.ne_of_gt hp), Int.ediv_eq_zero_of_lt l0 lt, Int.zero_add]
  · rw [e, Int.add_comm, Int.add_mul_emod_self_right, Int.emod_eq_of_lt l0 lt]
theorem un_eq {k : Nat} (h : k ≤ 16) : un k = if k = 0 then 0 else 2 ^ (k - 1) := by
  have : k = 0 ∨ k = 1 ∨ k = 2 ∨ k = 3 ∨ k = 4 ∨ k = 5 ∨ k = 6 ∨ k = 7 ∨ k = 8 ∨ k = 9 ∨ k = 10 ∨ k = 11 ∨ k = 12 ∨ k = 13 ∨ k = 14 ∨ k = 15 ∨ k = 16 := by omega
  rcases this with rfl | rfl | rfl | rfl | rfl | rfl | rfl | rfl | rfl | rfl | rfl | rfl | rfl | rfl | rfl | rfl | rfl <;> rfl
theorem un_succ {m : Nat} (h : m + 1 ≤ 16) : un (m + 1) = 2 ^ m := by rw [un_eq h, if_neg (by omega)]; rfl
theorem un_half {m : Nat} (h : m + 1 ≤ 16) : un (m + 1) / 2 = un m := by
  rw [un_succ h, un_eq (by omega)]
  cases m with
  | zero => rfl
  | succ m => rw [if_neg (by omega), pow2_succ, show m + 1 - 1 = m from rfl]; omega
theorem un_range {k : Nat} (h : k ≤ 16) : 0 ≤ un k ∧ un k ≤ 32768 ∧ (0 < un k ↔ 0 < k) := by
  have : k = 0 ∨ k = 1 ∨ k = 2 ∨ k = 3 ∨ k = 4 ∨ k = 5 ∨ k = 6 ∨ k = 7 ∨ k = 8 ∨ k = 9 ∨ k = 10 ∨ k = 11 ∨ k = 12 ∨ k = 13 ∨ k = 14 ∨ k = 15 ∨ k = 16 := by omega
  rcases this with rfl | rfl | rfl | rfl | rfl | rfl | rfl | rfl | rfl | rfl | rfl | rfl | rfl | rfl | rfl | rfl | rfl <;> decide
theorem quo_un {x : Int} {k : Nat} (h : k ≤ 16) (hk : 0 < k) (x0 : 0 ≤ x) (x1 : x ≤ 9223372036854775807) : IntKind.i64.wrap (Int.tdiv x (un k)) = x / un k := by
  obtain ⟨u0, u1, u2⟩ := un_range h
  have hu := u2.2 hk
  rw [Int.tdiv_eq_ediv_of_nonneg x0]
  have h1 := Int.ediv_nonneg x0 u0
  have h2 := Int.ediv_le_self (un k) x0
  exact wrap_i64 _ (by omega) (by omega)
theorem quo2_i64 {x : Int} (x0 : 0 ≤ x) (x1 : x ≤ 9223372036854775807) : IntKind.i64.wrap (Int.tdiv x 2) = x / 2 := by
  rw [Int.tdiv_eq_ediv_of_nonneg x0]; exact wrap_i64 _ (by omega) (by omega)
theorem canon_lt {L B : List Int} (hL : Dig L) (hc : Canon L) (hB : Dig B) (h : nv L < nv B) : L.length ≤ B.length := canon_len hL hc (Int.lt_trans h (nv_lt hB))
theorem canon_lt1 {L B : List Int} (hL : Dig L) (hc : Canon L) (hB : Dig B) (h : nv L < 2 * nv B) : L.length ≤ B.length + 1 := by
  refine canon_len hL hc ?_
  have h1 := nv_lt hB
  rw [P16_succ]
  have := P16_pos B.length
  omega
theorem wit_rdiv {a b : Int} (ha : 0 ≤ a) (hb : 0 < b) : ∃ x : Row × Row, (fun zx : Row × Row => RowOK zx.1 ∧ RowOK zx.2 ∧ nv (dg zx.1) = a / b ∧ nv (dg zx.2) = a % b ∧ Canon (dg zx.1) ∧ Canon (dg zx.2)) x := by
  obtain ⟨x, h1, h2, h3⟩ := wit_row (Int.ediv_nonneg ha (Int.le_of_lt hb))
  obtain ⟨y, k1, k2, k3⟩ := wit_row (Int.emod_nonneg a (Int.ne_of_gt hb))
  exact ⟨(x, y), h1, k1, h2, k2, h3, k3⟩
/-! ### A number out of its digits -/
/-- Limb j, of the digits from place n on. -/
def lb (A : List Int) (n j : Nat) : Int := nv ((A.drop (max n (4 * j))).take (4 * j + 4 - max n (4 * j)))
theorem lb_top (A : List Int) (j : Nat) : lb A A.length j = 0 := by
  unfold lb
  rw [List.drop_of_length_le (Nat.le_max_left _ _), List.take_nil]; rfl
theorem lb_other (A : List Int) {n j : Nat} (h : n / 4 ≠ j) : lb A (n + 1) j = lb A n j := by
  unfold lb
  rcases Nat.lt_or_ge n (4 * j) with h1 | h1
  · rw [Nat.max_eq_right (by omega), Nat.max_eq_right (by omega)]
  · have e1 : 4 * j + 4 - max (n + 1) (4 * j) = 0 := by omega
    have e2 : 4 * j + 4 - max n (4 * j) = 0 := by omega
    rw [e1, e2]; rfl
theorem lb_same (A : List Int) {n : Nat} (h : n < A.length) {j : Nat} (hj : n / 4 = j) : lb A n j = 65536 * lb A (n + 1) j + dgt A n := by
  unfold lb
  have m1 : max n (4 * j) = n := by omega
  have m2 : max (n + 1) (4 * j) = n + 1 := by omega
  rw [m1, m2, show 4 * j + 4 - n = (4 * j + 4 - (n + 1)) + 1 from by omega]
  have e : A.drop n = dgt A n :: A.drop (n + 1) := by
    rw [dgt, List.getD_eq_getElem?_getD, List.getElem?_eq_getElem h]; simp
  rw [e, List.take_succ_cons]
  simp only [nv]; omega
theorem lb_range {A : List Int} (h : Dig A) (n j : Nat) : 0 ≤ lb A n j ∧ lb A n j < P16 (4 * j + 4 - max n (4 * j)) := by
  unfold lb
  exact nv_take_lt (h.drop _) _
theorem lb_W {A : List Int} (h : Dig A) (n j : Nat) : W (lb A n j) := by
  obtain ⟨h0, h1⟩ := lb_range h n j
  refine ⟨h0, Int.lt_of_lt_of_le h1 ?_⟩
  exact Int.le_trans (P16_mono (by omega : _ ≤ 4)) (by decide)
theorem lb_all {A : List Int} (h : A.length ≤ 16) : lb A 0 0 + 18446744073709551616 * (lb A 0 1 + 18446744073709551616 * (lb A 0 2 + 18446744073709551616 * (lb A 0 3 + 18446744073709551616 * 0))) = nv A := by
  unfold lb
  simp only [Nat.zero_max, Nat.mul_zero, Nat.zero_add, Nat.sub_zero, List.drop_zero]
  have e1 := nv_split' A 4
  have e2 := nv_split' (A.drop 4) 4
  have e3 := nv_split' ((A.drop 4).drop 4) 4
  have e4 : nv (((A.drop 4).drop 4).drop 4) = nv ((A.drop 12).take 4) := by
    rw [List.drop_drop, List.drop_drop, List.take_of_length_le (by simp; omega)]
  rw [show P16 4 = 18446744073709551616 from rfl] at e1 e2 e3
  rw [e4] at e3
  simp only [List.drop_drop] at e1 e2 e3
  simp only [show 4 * 1 = 4 from rfl, show 4 * 2 = 8 from rfl, show 4 * 3 = 12 from rfl, show 4 + 4 = 8 from rfl, show 8 + 4 = 12 from rfl, show 12 + 4 = 16 from rfl, show 8 - 4 = 4 from rfl, show 12 - 8 = 4 from rfl, show 16 - 12 = 4 from rfl] at e1 e2 e3 ⊢
  omega
/-- What the digits make: the number, and whether it has room. -/
def rInt (n : Int) : Int × Bool := if n < 115792089237316195423570985008687907853269984665640564039457584007913129639936 then (n, true) else (0, false)
theorem rInt_R {n : Int} (h : 0 ≤ n) : R4 (rInt n).1 := by unfold rInt R4; split <;> dsimp only <;> omega
theorem rInt_long {A : List Int} (hA : Dig A) (hc : Canon A) (h : 16 < A.length) : rInt (nv A) = (0, false) := by
  unfold rInt
  rw [if_neg]
  intro hlt
  have := canon_len hA hc (k := 16) (by rw [show P16 16 = 115792089237316195423570985008687907853269984665640564039457584007913129639936 from rfl]; exact hlt)
  omega
theorem rInt_short {A : List Int} (hA : Dig A) (h : A.length ≤ 16) : rInt (nv A) = (nv A, true) := by
  unfold rInt
  rw [if_pos]
  exact Int.lt_of_lt_of_le (nv_lt hA) (Int.le_trans (P16_mono h) (by decide))
/-! ### A product by a number, by digits -/
def rMulDiv (a b d : Int) (up : Bool) : Int × Int := if up then wMulDivUp a b d else wMulDiv a b d
end Go.Sx
