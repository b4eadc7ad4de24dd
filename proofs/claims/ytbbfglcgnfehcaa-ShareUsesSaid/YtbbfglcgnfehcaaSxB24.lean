/- Halves, and parts of a million (layer 16). -/
import Derived.Test.YtbbfglcgnfehcaaSxB23
set_option linter.unusedVariables false
set_option linter.unusedSimpArgs false
namespace Go.Sx
theorem short_two {a q0 q1 q2 q3 r0 r1 r2 r3 : Int} (ha : R4 a) (h3 : q3 * 2 + r3 = lim a 3) (h2 : q2 * 2 + r2 = r3 * 18446744073709551616 + lim a 2) (h1 : q1 * 2 + r1 = r2 * 18446744073709551616 + lim a 1) (h0 : q0 * 2 + r0 = r1 * 18446744073709551616 + lim a 0)
    (b0 : 0 ≤ r0 ∧ r0 < 2) (b1 : 0 ≤ r1 ∧ r1 < 2) (b2 : 0 ≤ r2 ∧ r2 < 2) (b3 : 0 ≤ r3 ∧ r3 < 2) : q0 + 18446744073709551616 * q1 + 340282366920938463463374607431768211456 * q2 + 6277101735386680763835789423207666416102355444464034512896 * q3 = a / 2 ∧ r0 = a % 2 := by
  have e := lims a
  rw [num_vI ha] at e
  omega
/-- Which part of b is a, in parts of a million. -/
def sUse (a b : Int) : Int := if a = 0 then 0 else if b ≤ a then 1000000 else a * 1000000 / b
theorem sUse_mid {a b : Int} (ha : R4 a) (h0 : a ≠ 0) (hlt : a < b) : 0 ≤ a * 1000000 / b ∧ a * 1000000 / b < 1000000 := by
  have hb : 0 < b := by have := ha.1; omega
  refine ⟨Int.ediv_nonneg (by have := ha.1; omega) (by omega), ?_⟩
  exact Int.ediv_lt_of_lt_mul hb (by omega)
theorem half_R4 {a : Int} (h : R4 a) : R4 (a / 2) := by unfold R4 at *; omega
theorem rest_R4 {a : Int} (h : R4 a) : R4 (a - a / 2) := by unfold R4 at *; omega
theorem low_iff {a : Int} (h : R4 a) : (a = lim a 0) ↔ a < 18446744073709551616 := by rw [lim0]; unfold R4 at h; omega
theorem lim_R4 {a : Int} (i : Nat) : R4 (lim a i) := by have := W_lim a i; unfold W at this; unfold R4; omega
theorem md_use {a b : Int} (ha : R4 a) (h0 : a ≠ 0) (hlt : a < b) : wMulDiv a 1000000 b = (a * 1000000 / b, 0) := by
  have hb : ¬ b = 0 := by have := ha.1; omega
  obtain ⟨h1, h2⟩ := sUse_mid ha h0 hlt
  unfold wMulDiv wNar
  rw [if_neg hb, if_pos (by omega)]
theorem sUse_zero (b : Int) : sUse 0 b = 0 := rfl
theorem sUse_top {a b : Int} (h0 : a ≠ 0) (h : b ≤ a) : sUse a b = 1000000 := by unfold sUse; rw [if_neg h0, if_pos h]
theorem sUse_part {a b : Int} (h0 : a ≠ 0) (h : a < b) : sUse a b = a * 1000000 / b := by unfold sUse; rw [if_neg h0, if_neg (by omega)]
theorem canon_big {l : List Int} (hd : Dig l) {k : Nat} (hl : l.length = k + 1) (hn : P16 k ≤ nv l) : Canon l := by
  intro h0
  obtain ⟨m, hm⟩ : ∃ m, l = m ++ [0] := by
    obtain ⟨ys, hy⟩ := List.getLast?_eq_some_iff.1 h0
    exact ⟨ys, hy⟩
  subst hm
  have h1 : m.length = k := by simpa using hl
  have h2 : Dig m := fun d hd' => hd d (List.mem_append_left _ hd')
  have h3 := nv_lt h2
  rw [nv_snoc, h1] at hn
  rw [h1] at h3
  omega
theorem len18 {l : List Int} {a : Int} (hd : Dig l) (hc : Canon l) (ha : R4 a) (hn : nv l = a * 1000000) : l.length ≤ 18 := by
  refine canon_len hd hc ?_
  rw [hn, show P16 18 = 497323236409786642155382248146820840100456150797347717440463976893159497012533375533056 from rfl]
  unfold R4 at ha; omega
theorem lim_small {n : Int} (h0 : 0 ≤ n) (h1 : n < 1000000) : lim n 0 = n := by rw [lim0]; omega
end Go.Sx
