/- Plain laws: a wide number as a number; quotients; products by a number. -/
import Derived.Test.YtohkmdnelbajiaaDoorSxB11
set_option linter.unusedVariables false
set_option linter.unusedSimpArgs false
namespace Go.Sx
def wNar (w : Int) : Int × Int := if w < 115792089237316195423570985008687907853269984665640564039457584007913129639936 then (w, 0) else (0, 2)
theorem wNar_R {w : Int} (h : R8 w) : R4 (wNar w).1 := by
  unfold wNar; split
  · exact ⟨h.1, by assumption⟩
  · exact R4_zero
theorem orz {a b : Int} (ha : W a) (hb : W b) : IntKind.u64.wrap (((BitVec.ofInt 64 a ||| BitVec.ofInt 64 b : BitVec 64).toNat : Nat) : Int) = 0 ↔ a = 0 ∧ b = 0 := by
  obtain ⟨a, rfl⟩ := Int.eq_ofNat_of_zero_le ha.1
  obtain ⟨b, rfl⟩ := Int.eq_ofNat_of_zero_le hb.1
  have a1 : a < 2 ^ 64 := by have := ha.2; omega
  have b1 : b < 2 ^ 64 := by have := hb.2; omega
  simp only [BitVec.toNat_or, BitVec.ofInt_natCast, BitVec.toNat_ofNat]
  rw [Nat.mod_eq_of_lt a1, Nat.mod_eq_of_lt b1, wrap_u64]
  have := Nat.or_lt_two_pow a1 b1
  have e := @Nat.or_eq_zero_iff a b
  omega
theorem narrow_z {w : Int} : (IntKind.u64.wrap (((BitVec.ofInt 64 (IntKind.u64.wrap (((BitVec.ofInt 64 (IntKind.u64.wrap (((BitVec.ofInt 64 (lim w 4) ||| BitVec.ofInt 64 (lim w 5) : BitVec 64).toNat : Nat) : Int)) ||| BitVec.ofInt 64 (lim w 6) : BitVec 64).toNat : Nat) : Int)) ||| BitVec.ofInt 64 (lim w 7) : BitVec 64).toNat : Nat) : Int) = 0) ↔ lim w 4 = 0 ∧ lim w 5 = 0 ∧ lim w 6 = 0 ∧ lim w 7 = 0 := by
  rw [orz (W_wrap _) (W_lim _ _), orz (W_wrap _) (W_lim _ _), orz (W_lim _ _) (W_lim _ _)]
  constructor
  · rintro ⟨⟨⟨h4, h5⟩, h6⟩, h7⟩; exact ⟨h4, h5, h6, h7⟩
  · rintro ⟨h4, h5, h6, h7⟩; exact ⟨⟨⟨h4, h5⟩, h6⟩, h7⟩
theorem narrow_lt {w : Int} (h : R8 w) : (lim w 4 = 0 ∧ lim w 5 = 0 ∧ lim w 6 = 0 ∧ lim w 7 = 0) ↔ w < 115792089237316195423570985008687907853269984665640564039457584007913129639936 := by
  rw [lim4, lim5, lim6, lim7]; unfold R8 at h; omega
theorem narrow_ov {w : Int} (h : R8 w) (hc : (IntKind.u64.wrap (((BitVec.ofInt 64 (IntKind.u64.wrap (((BitVec.ofInt 64 (IntKind.u64.wrap (((BitVec.ofInt 64 (lim w 4) ||| BitVec.ofInt 64 (lim w 5) : BitVec 64).toNat : Nat) : Int)) ||| BitVec.ofInt 64 (lim w 6) : BitVec 64).toNat : Nat) : Int)) ||| BitVec.ofInt 64 (lim w 7) : BitVec 64).toNat : Nat) : Int) != (0 : Int)) = true) : wNar (num (vW w)) = (0, 2) := by
  have hc : ¬ _ := fun h0 => (by simpa using hc : ¬ _ = (0 : Int)) (narrow_z.2 ((narrow_lt h).2 h0))
  rw [num_vW h]; unfold wNar; rw [if_neg hc]
theorem narrow_ok {w : Int} (h : R8 w) (hc : (IntKind.u64.wrap (((BitVec.ofInt 64 (IntKind.u64.wrap (((BitVec.ofInt 64 (IntKind.u64.wrap (((BitVec.ofInt 64 (lim w 4) ||| BitVec.ofInt 64 (lim w 5) : BitVec 64).toNat : Nat) : Int)) ||| BitVec.ofInt 64 (lim w 6) : BitVec 64).toNat : Nat) : Int)) ||| BitVec.ofInt 64 (lim w 7) : BitVec 64).toNat : Nat) : Int) != (0 : Int)) = false) : wNar (num (vW w)) = (w, 0) ∧ R4 w := by
  have hc := (narrow_lt h).1 (narrow_z.1 (by simpa using hc))
  exact ⟨by rw [num_vW h]; unfold wNar; rw [if_pos hc], h.1, hc⟩
theorem num84 (a : Int) : num (.agg #[.int .u64 (lim a 0), .int .u64 (lim a 1), .int .u64 (lim a 2), .int .u64 (lim a 3), .int .u64 0, .int .u64 0, .int .u64 0, .int .u64 0]) = num (vI a) := by
  rw [num8, lims]; omega
theorem wDiv_R {n d : Int} (hn : R4 n) (hd : R4 d) : R4 (wDiv n d).1 := by
  unfold wDiv; split
  · exact R4_zero
  · exact ⟨Int.ediv_nonneg hn.1 hd.1, Int.lt_of_le_of_lt (Int.ediv_le_self _ hn.1) hn.2⟩
theorem fin3q {f : Int × Int × Int} {v w : Value} {n r e : Int} (h : f = (n, r, e)) (hn : R4 n) (hr : R4 r) (hv : vI n = v) (hw : vI r = w) :
    ∃ zx : Int × Int × Int, (R4 zx.1 ∧ R4 zx.2.1 ∧ zx = f) ∧ Value.tuple #[v, w, .int .i64 e] = .tuple #[vI zx.1, vI zx.2.1, .int .i64 zx.2.2] ∧ True :=
  ⟨(n, r, e), ⟨hn, hr, h.symm⟩, by rw [hv, hw], trivial⟩
def wMulDiv (a b d : Int) : Int × Int := if d = 0 then (0, 3) else wNar (a * b / d)
def wMulDivUp (a b d : Int) : Int × Int := if d = 0 then (0, 3) else if (wNar (a * b / d)).2 ≠ 0 ∨ a * b % d = 0 then wNar (a * b / d) else hAdd (a * b / d) 1
theorem wMulDiv_R {a b d : Int} (ha : R4 a) (hb : R4 b) (hd : R4 d) : R4 (wMulDiv a b d).1 := by
  unfold wMulDiv; split
  · exact R4_zero
  · have h := wDiv_R8 (prod_R ha hb) hd
    unfold wDiv at h
    rw [if_neg (by assumption)] at h
    exact wNar_R h
theorem wMulDivUp_R {a b d : Int} (ha : R4 a) (hb : R4 b) (hd : R4 d) : R4 (wMulDivUp a b d).1 := by
  unfold wMulDivUp; split
  · exact R4_zero
  · rename_i h0
    have h := wMulDiv_R ha hb hd
    unfold wMulDiv at h
    rw [if_neg h0] at h
    split
    · exact h
    · rename_i h1
      have h2 : (wNar (a * b / d)).2 = 0 := by
        rcases Classical.em ((wNar (a * b / d)).2 = 0) with h | h
        · exact h
        · exact absurd (.inl h) h1
      unfold wNar at h h2
      split at h2
      · rename_i h3; rw [if_pos h3] at h; exact hAdd_R h R4_one
      · cases h2
section
variable {a b d : Int} {x : Int × Int × Int} {y z : Int × Int}
theorem quo_err (hx : x = wDiv a d) (hc : (x.2.2 != 0) = true) : wDiv a d = (0, 0, x.2.2) := by
  have hc := nz_true hc
  subst hx; unfold wDiv at hc ⊢
  split
  · rfl
  · rename_i h; rw [if_neg h] at hc; exact absurd rfl hc
theorem quo_ok (ha : R4 a) (hx : x = wDiv a d) (hc : (x.2.2 != 0) = false) (hd : R4 d) (hy : y = wNar x.1) : wDiv a d = (y.1, x.2.1, y.2) := by
  have hc := nz_false hc
  have hr := wDiv_R ha hd
  subst hx
  have e : wNar (wDiv a d).1 = ((wDiv a d).1, 0) := by
    conv => lhs; unfold wNar
    rw [if_pos hr.2]
  subst hy
  rw [e]
  exact Prod.ext rfl (Prod.ext rfl hc)
theorem md_err {p : Int} (hp : p = a * b) (hx : x = wDiv p d) (hc : (x.2.2 != 0) = true) : wMulDiv a b d = (0, x.2.2) ∧ wMulDivUp a b d = (0, x.2.2) := by
  have hc := nz_true hc
  subst hx; unfold wDiv at hc ⊢; unfold wMulDiv wMulDivUp
  split
  · exact ⟨rfl, rfl⟩
  · rename_i h; rw [if_neg h] at hc; exact absurd rfl hc
theorem md_ok {p : Int} (hp : p = a * b) (hx : x = wDiv p d) (hc : (x.2.2 != 0) = false) (hy : y = wNar x.1) : wMulDiv a b d = (y.1, y.2) := by
  have hc := nz_false hc
  subst hp; subst hx; subst hy; unfold wDiv at hc ⊢; unfold wMulDiv
  split
  · rename_i h; rw [if_pos h] at hc; cases hc
  · rfl
theorem mu_err {p : Int} (hp : p = a * b) (hx : x = wDiv p d) (hc : (x.2.2 != 0) = false) (hy : y = wNar x.1) (h : (y.2 != 0) = true ∨ (x.2.1 == 0) = true) : wMulDivUp a b d = (y.1, y.2) := by
  have hc := nz_false hc
  subst hp; subst hx; subst hy; unfold wDiv at *; unfold wMulDivUp
  split
  · rename_i h; rw [if_pos h] at hc; cases hc
  · rename_i h0; rw [if_neg h0] at h
    rw [if_pos (h.imp (fun h => nz_true h) (fun h => by simpa using h))]
theorem mu_ok {p : Int} (hp : p = a * b) (hx : x = wDiv p d) (hc : (x.2.2 != 0) = false) (hy : y = wNar x.1) (h1 : (y.2 != 0) = false) (h2 : (x.2.1 == 0) = false) (hz : z = hAdd y.1 1) : wMulDivUp a b d = (z.1, z.2) := by
  have hc := nz_false hc
  subst hp; subst hx; subst hy; unfold wDiv at *; unfold wMulDivUp
  split
  · rename_i h; rw [if_pos h] at hc; cases hc
  · rename_i h0; rw [if_neg h0] at *
    have h1 := nz_false h1
    rw [if_neg (by
      rintro (h | h)
      · exact h h1
      · exact absurd h (by simpa using h2))]
    subst hz
    have : (wNar (a * b / d)).1 = a * b / d := by
      unfold wNar at h1 ⊢
      split at h1
      · rename_i h; rw [if_pos h]
      · cases h1
    dsimp only at *
    rw [this]
end
end Go.Sx
