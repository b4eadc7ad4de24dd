/- Plain words on numbers, and laws of single operations at open operands, for the contracts. -/
import Derived.Test.YtohkmdnelbajiaaDoorSx9
set_option linter.unusedVariables false
set_option linter.unusedSimpArgs false
namespace Go.Sx
theorem wrap_u64 (n : Int) : IntKind.u64.wrap n = n % 18446744073709551616 := by simp [IntKind.wrap, IntKind.bits, IntKind.signed]
theorem wrap_i64 (n : Int) (h1 : -9223372036854775808 ≤ n) (h2 : n ≤ 9223372036854775807) : IntKind.i64.wrap n = n := by
  simp [IntKind.wrap, IntKind.bits, IntKind.signed]; omega
def bit (b : Bool) : Int := bif b then 1 else 0
theorem bit_true {b : Bool} (h : b = true) : bit b = 1 := by rw [h]; rfl
theorem bit_false {b : Bool} (h : b = false) : bit b = 0 := by rw [h]; rfl
def cin (c : Int) : Int := if c = 0 then 0 else 1
def W (n : Int) : Prop := 0 ≤ n ∧ n < 18446744073709551616
theorem W_wrap (n : Int) : W (IntKind.u64.wrap n) := by rw [wrap_u64]; unfold W; omega
theorem cin_of {c : Int} (h0 : 0 ≤ c) (h1 : c ≤ 1) : cin c = c := by unfold cin; split <;> omega

/-! ### Operations at open operands -/
def xBin (op : BinOp) (t : TypeId) (x y : Value) : Sem Next := do pure (.value (← (do eqGuard op t (.const x) (.const y) x y; binOp op t x y)))
theorem xshl {P : Program} {t : TypeId} {k k' : IntKind} {a s : Int} (h : 0 ≤ s) : PureRun P (xBin .shl t (.int k a) (.int k' s)) (.int k (k.wrap (a * 2 ^ min s.toNat k.bits))) := by
  intro w
  have : ¬ s < 0 := by omega
  simp [xBin, eqGuard, binOp, Op.shift, this]
theorem xshr {P : Program} {t : TypeId} {k k' : IntKind} {a s : Int} (h : 0 ≤ s) : PureRun P (xBin .shr t (.int k a) (.int k' s)) (.int k (a.fdiv (2 ^ min s.toNat k.bits))) := by
  intro w
  have : ¬ s < 0 := by omega
  simp [xBin, eqGuard, binOp, Op.shift, this]
theorem xquo {P : Program} {t : TypeId} {k : IntKind} {a b : Int} (h : b ≠ 0) : PureRun P (xBin .quo t (.int k a) (.int k b)) (.int k (k.wrap (a.tdiv b))) := by
  intro w
  simp [xBin, eqGuard, binOp, Op.intDiv, h]
theorem xrem {P : Program} {t : TypeId} {k : IntKind} {a b : Int} (h : b ≠ 0) : PureRun P (xBin .rem t (.int k a) (.int k b)) (.int k (a.tmod b)) := by
  intro w
  simp [xBin, eqGuard, binOp, Op.intDiv, h]
theorem PureRun.to {P : Program} {m : Sem Next} {v v' : Value} (h : PureRun P m v) (e : v = v') : PureRun P m v' := e ▸ h
end Go.Sx
namespace Go.Sx
structure AddR (a b c s o : Int) : Prop where
  eq : s + o * 18446744073709551616 = a + b + cin c
  s : W s
  o0 : 0 ≤ o
  o1 : o ≤ 1
structure SubR (a b c s o : Int) : Prop where
  eq : s - o * 18446744073709551616 = a - b - cin c
  s : W s
  o0 : 0 ≤ o
  o1 : o ≤ 1
structure MulR (a b h l : Int) : Prop where
  eq : h * 18446744073709551616 + l = a * b
  h : W h
  l : W l
theorem bit_or (x y : Bool) : IntKind.u64.wrap (((BitVec.ofInt 64 (bit x) ||| BitVec.ofInt 64 (bit y) : BitVec 64).toNat : Nat) : Int) = bit (x || y) := by
  cases x <;> cases y <;> decide
theorem add_fin {a b c s o : Int} (ha : W a) (hb : W b)
    (h : ((c != 0) = true ∧ s = IntKind.u64.wrap (IntKind.u64.wrap (a + b) + 1) ∧ o = IntKind.u64.wrap (((BitVec.ofInt 64 (bit (decide (IntKind.u64.wrap (a + b) < a))) ||| BitVec.ofInt 64 (bit (IntKind.u64.wrap (IntKind.u64.wrap (a + b) + 1) == 0)) : BitVec 64).toNat : Nat) : Int)) ∨
      ((c != 0) = false ∧ s = IntKind.u64.wrap (a + b) ∧ o = bit (decide (IntKind.u64.wrap (a + b) < a)))) : AddR a b c s o := by
  unfold W at ha hb
  rcases h with ⟨hc, rfl, rfl⟩ | ⟨hc, rfl, rfl⟩
  · have hc' : cin c = 1 := by simp [cin]; simpa using hc
    rw [bit_or]
    simp only [wrap_u64]
    have e : bit (decide ((a + b) % 18446744073709551616 < a) || ((a + b) % 18446744073709551616 + 1) % 18446744073709551616 == 0) = (a + b + 1) / 18446744073709551616 := by
      by_cases h1 : (a + b) % 18446744073709551616 < a
      · rw [bit_true (by simp [h1])]; omega
      · by_cases h2 : ((a + b) % 18446744073709551616 + 1) % 18446744073709551616 = 0
        · rw [bit_true (by rw [h2]; simp)]; omega
        · rw [bit_false (by rw [decide_eq_false h1, Bool.false_or, beq_eq_false_iff_ne]; exact h2)]; omega
    rw [e]
    exact ⟨by rw [hc']; omega, ⟨by omega, by omega⟩, by omega, by omega⟩
  · have hc' : cin c = 0 := by simp [cin]; simpa using hc
    simp only [wrap_u64]
    have e : bit (decide ((a + b) % 18446744073709551616 < a)) = (a + b) / 18446744073709551616 := by
      unfold bit
      by_cases h1 : (a + b) % 18446744073709551616 < a
      · simp [h1]; omega
      · simp [h1]; omega
    rw [e]
    exact ⟨by rw [hc']; omega, ⟨by omega, by omega⟩, by omega, by omega⟩
theorem sub_fin {a b c s o : Int} (ha : W a) (hb : W b)
    (h : ((c != 0) = true ∧ s = IntKind.u64.wrap (IntKind.u64.wrap (a - b) - 1) ∧ o = IntKind.u64.wrap (((BitVec.ofInt 64 (bit (decide (a < b))) ||| BitVec.ofInt 64 (bit (IntKind.u64.wrap (a - b) == 0)) : BitVec 64).toNat : Nat) : Int)) ∨
      ((c != 0) = false ∧ s = IntKind.u64.wrap (a - b) ∧ o = bit (decide (a < b)))) : SubR a b c s o := by
  unfold W at ha hb
  rcases h with ⟨hc, rfl, rfl⟩ | ⟨hc, rfl, rfl⟩
  · have hc' : cin c = 1 := by simp [cin]; simpa using hc
    rw [bit_or]
    simp only [wrap_u64]
    have e : bit (decide (a < b) || (a - b) % 18446744073709551616 == 0) = if a < b + 1 then 1 else 0 := by
      by_cases h1 : a < b
      · rw [bit_true (by simp [h1])]; omega
      · by_cases h2 : (a - b) % 18446744073709551616 = 0
        · rw [bit_true (by rw [h2]; simp)]; omega
        · rw [bit_false (by rw [decide_eq_false h1, Bool.false_or, beq_eq_false_iff_ne]; exact h2)]; omega
    rw [e]
    split
    · exact ⟨by rw [hc']; omega, ⟨by omega, by omega⟩, by omega, by omega⟩
    · exact ⟨by rw [hc']; omega, ⟨by omega, by omega⟩, by omega, by omega⟩
  · have hc' : cin c = 0 := by simp [cin]; simpa using hc
    simp only [wrap_u64]
    unfold bit
    by_cases h1 : a < b
    · simp only [h1, decide_true, cond_true]; exact ⟨by rw [hc']; omega, ⟨by omega, by omega⟩, by omega, by omega⟩
    · simp only [h1, decide_false, cond_false]; exact ⟨by rw [hc']; omega, ⟨by omega, by omega⟩, by omega, by omega⟩
def blen (x : Nat) : Nat := if x = 0 then 0 else Nat.log2 x + 1
theorem blen_half {x : Nat} (h : x ≠ 0) : blen x = blen (x / 2) + 1 := by
  unfold blen
  rw [if_neg h]
  by_cases h2 : x / 2 = 0
  · have : x = 1 := by omega
    subst this; decide
  · rw [if_neg h2, Nat.log2_def, if_pos (by omega)]
theorem blen_le {x : Nat} (h : x < 18446744073709551616) : blen x ≤ 64 := by
  unfold blen
  split
  · omega
  · rename_i h0
    have := (Nat.log2_lt h0 (k := 64)).2 (by simpa using h)
    omega
theorem tdiv_nat {a b : Int} (ha : 0 ≤ a) : Int.tdiv a b = a / b := Int.tdiv_eq_ediv_of_nonneg ha
theorem tmod_nat {a b : Int} (ha : 0 ≤ a) : Int.tmod a b = a % b := Int.tmod_eq_emod_of_nonneg ha
theorem len_step {x0 : Nat} {x : Nat × Nat} (hx0 : x0 < 18446744073709551616) (h : x.2 + blen x.1 = blen x0 ∧ x.1 < 18446744073709551616) (hc : (((x.1 : Nat) : Int) != 0) = true) :
    ∃ y : Nat × Nat, (y.2 + blen y.1 = blen x0 ∧ y.1 < 18446744073709551616) ∧ y.1 < x.1 ∧ Value.int .u64 (Int.fdiv ((x.1 : Nat) : Int) (2 ^ 1)) = .int .u64 ((y.1 : Nat) : Int) ∧ Value.int .i64 (IntKind.i64.wrap (((x.2 : Nat) : Int) + 1)) = .int .i64 ((y.2 : Nat) : Int) ∧ True := by
  obtain ⟨n, m⟩ := x
  simp only at h hc ⊢
  have h0 : n ≠ 0 := by simpa using hc
  have hb := blen_half h0
  have hl := blen_le hx0
  refine ⟨(n / 2, m + 1), ⟨by simp only; omega, by simp only; omega⟩, by simp only; omega, ?_, ?_, trivial⟩
  · rw [Int.fdiv_eq_ediv_of_nonneg _ (by decide)]; simp
  · rw [wrap_i64 _ (by omega) (by omega)]; simp
theorem len_fin {x0 : Nat} {x : Nat × Nat} (h : x.2 + blen x.1 = blen x0 ∧ x.1 < 18446744073709551616) (hc : (((x.1 : Nat) : Int) != 0) = false) :
    Value.int .i64 ((x.2 : Nat) : Int) = .int .i64 ((blen x0 : Nat) : Int) := by
  have h0 : x.1 = 0 := by simpa using hc
  rw [h0] at h
  have : blen 0 = 0 := rfl
  rw [← h.1, this]; simp
end Go.Sx
namespace Go.Sx
/-! ### Families for annotations -/
def none0 : Ctr := ⟨Empty, fun _ => undef, fun _ => [], fun _ => False⟩
def one (v : Value) : List Value → Ctr := fun _ => ⟨Unit, fun _ => v, fun _ => [], fun _ => True⟩
def f_shl : List Value → Value
  | [.int k a, .int _ s] => .int k (k.wrap (a * 2 ^ min s.toNat k.bits))
  | _ => undef
def f_shr : List Value → Value
  | [.int k a, .int _ s] => .int k (a.fdiv (2 ^ min s.toNat k.bits))
  | _ => undef
def f_quo : List Value → Value
  | [.int k a, .int _ b] => .int k (k.wrap (a.tdiv b))
  | _ => undef
def f_rem : List Value → Value
  | [.int k a, .int _ b] => .int k (a.tmod b)
  | _ => undef
/-- Witnesses: a sum and a product always have such parts. -/
theorem wit_add {a b c : Int} (ha : W a) (hb : W b) : ∃ x : Int × Int, (fun zx => AddR a b c zx.1 zx.2) x := by
  unfold W at ha hb
  have : cin c = 0 ∨ cin c = 1 := by unfold cin; split <;> simp
  exact ⟨((a + b + cin c) % 18446744073709551616, (a + b + cin c) / 18446744073709551616), ⟨by simp only; omega, ⟨by simp only; omega, by simp only; omega⟩, by simp only; omega, by simp only; omega⟩⟩
theorem wit_sub {a b c : Int} (ha : W a) (hb : W b) : ∃ x : Int × Int, (fun zx => SubR a b c zx.1 zx.2) x := by
  unfold W at ha hb
  have : cin c = 0 ∨ cin c = 1 := by unfold cin; split <;> simp
  exact ⟨((a - b - cin c) % 18446744073709551616, -((a - b - cin c) / 18446744073709551616)), ⟨by simp only; omega, ⟨by simp only; omega, by simp only; omega⟩, by simp only; omega, by simp only; omega⟩⟩
theorem wit_mul {a b : Int} (ha : W a) (hb : W b) : ∃ x : Int × Int, (fun zx => MulR a b zx.1 zx.2) x := by
  have h1 : 0 ≤ a * b := Int.mul_nonneg ha.1 hb.1
  have h2 : a * b ≤ 18446744073709551615 * 18446744073709551615 := Int.mul_le_mul (by have := ha.2; omega) (by have := hb.2; omega) hb.1 (by decide)
  exact ⟨((a * b) / 18446744073709551616, (a * b) % 18446744073709551616), ⟨by simp only; omega, ⟨by simp only; omega, by simp only; omega⟩, ⟨by simp only; omega, by simp only; omega⟩⟩⟩
end Go.Sx
