/- Plain laws of the document's product. -/
import Derived.Test.YtohkmdnelbajiaaDoorSxB15
set_option linter.unusedVariables false
set_option linter.unusedSimpArgs false
namespace Go.Sx
structure MulO (a b : List Int) (i : Nat) (o : List Int) : Prop where
  le : i ≤ a.length
  len : o.length = a.length + b.length
  eq : nv o = nv (a.take i) * nv b
  z : nv (o.drop (i + b.length)) = 0
structure MulN (a b : List Int) (i k : Nat) (c : Int) (o : List Int) : Prop where
  le : k ≤ b.length
  len : o.length = a.length + b.length
  c0 : 0 ≤ c
  c1 : c < 65536
  eq : nv o + P16 (i + k) * c = nv (a.take i) * nv b + P16 i * (dgt a i * nv (b.take k))
  z : nv (o.drop (i + b.length)) = 0
theorem dmul {a b : Int} (a0 : 0 ≤ a) (a1 : a < 65536) (b0 : 0 ≤ b) (b1 : b < 65536) : 0 ≤ a * b ∧ a * b ≤ 4294836225 :=
  ⟨Int.mul_nonneg a0 b0, by
    have : a * b ≤ 65535 * 65535 := Int.mul_le_mul (by omega) (by omega) b0 (by decide)
    omega⟩
theorem mul_start (a b : List Int) (n : Nat) (h : n = a.length + b.length) : MulO a b 0 (List.replicate n 0) :=
  ⟨by omega, by simp [h], by simp [nv_replicate, nv], by rw [List.drop_replicate, nv_replicate]⟩
theorem muln_start {a b o : List Int} {i : Nat} (h : MulO a b i o) : MulN a b i 0 0 o :=
  ⟨by omega, h.len, by decide, by decide, by rw [h.eq]; simp [nv], h.z⟩
theorem drop_set_lt (l : List Int) (j n : Nat) (x : Int) (h : j < n) : (l.set j x).drop n = l.drop n := by
  rw [List.drop_set_of_lt h]
theorem muln_step {a b o : List Int} {i k : Nat} {c x : Int} (ha : Dig a) (hb : Dig b) (ho : Dig o) (h : MulN a b i k c o) (hi : i < a.length) (hk : k < b.length) (hx : x = dgt o (i + k) + dgt a i * dgt b k + c) :
    MulN a b i (k + 1) (x / 65536) (o.set (i + k) (x % 65536)) ∧ 0 ≤ x % 65536 ∧ x % 65536 < 65536 := by
  obtain ⟨h1, h2, h3, h4, h5, h6⟩ := h
  have da := ha.dgt i; have db := hb.dgt k; have d_o := ho.dgt (i + k)
  have hab := dmul da.1 da.2 db.1 db.2
  refine ⟨⟨by omega, by simp [h2], by omega, by omega, ?_, ?_⟩, by omega, by omega⟩
  · rw [nv_set o (i + k) _ (by omega), nv_take_succ, show i + (k + 1) = i + k + 1 from rfl, P16_succ, Int.mul_add (dgt a i), Int.mul_add (P16 i)]
    have e1 : P16 i * (dgt a i * (P16 k * dgt b k)) = P16 (i + k) * (dgt a i * dgt b k) := by rw [P16_add, Int.mul_left_comm (dgt a i), Int.mul_assoc]
    rw [e1]
    have e2 : P16 (i + k) * (dgt o (i + k) + dgt a i * dgt b k + c) = P16 (i + k) * (x % 65536) + P16 (i + k) * (65536 * (x / 65536)) := by rw [← Int.mul_add, ← hx]; congr 1; omega
    rw [Int.mul_add, Int.mul_add] at e2
    rw [Int.mul_sub, Int.mul_comm 65536, Int.mul_assoc]
    omega
  · rw [drop_set_lt _ _ _ _ (by omega)]; exact h6
theorem dgt_zero_of {l : List Int} (h : Dig l) {n : Nat} (hz : nv (l.drop n) = 0) : dgt l n = 0 ∧ nv (l.drop (n + 1)) = 0 := by
  have := nv_drop_dgt l n
  have := h.dgt n
  have := nv_nonneg (h.drop (n + 1))
  omega
theorem muln_end {a b o : List Int} {i : Nat} {c : Int} (ho : Dig o) (h : MulN a b i b.length c o) (hi : i < a.length) :
    MulO a b (i + 1) (o.set (i + b.length) (dgt o (i + b.length) + c)) ∧ 0 ≤ dgt o (i + b.length) + c ∧ dgt o (i + b.length) + c < 65536 := by
  obtain ⟨h1, h2, h3, h4, h5, h6⟩ := h
  obtain ⟨z1, z2⟩ := dgt_zero_of ho h6
  refine ⟨⟨by omega, by simp [h2], ?_, ?_⟩, by omega, by omega⟩
  · rw [nv_set o _ _ (by omega), nv_take_succ, Int.add_mul, Int.mul_assoc]
    rw [nv_take_all b _ (Nat.le_refl _)] at h5
    rw [Int.mul_sub, Int.mul_add]
    omega
  · rw [drop_set_lt _ _ _ _ (by omega), show i + 1 + b.length = i + b.length + 1 from by omega]; exact z2
theorem mul_end {a b o : List Int} (h : MulO a b a.length o) : nv o = nv a * nv b := by
  rw [h.eq, nv_take_all a _ (Nat.le_refl _)]
end Go.Sx
