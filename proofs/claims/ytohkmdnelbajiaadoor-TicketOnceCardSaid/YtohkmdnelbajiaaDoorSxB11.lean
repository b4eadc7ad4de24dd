/- Two arrays of four, or eight, words: are they one? -/
import Derived.Test.YtohkmdnelbajiaaDoorSxB10
import Derived.Tactics
import Derived.Tactics2
import Derived.Laws.StructEq
set_option linter.unusedVariables false
set_option linter.unusedSimpArgs false
namespace Go.Sx
theorem run_part1 {P : Program} {e : TypeId} {cs : Array Value} {off : Nat} {v : Value} (w : World) (ha : ∀ w, (isAgg e).run P w = .ok false w) (h : cs[off]? = some v) : (part e cs off).run P w = .ok v w := by
  simp [part, Sem.run_bind, ha, h]
theorem eq_arr4 {P : Program} {t e : TypeId} {k : IntKind} (hu : P.underlying t = some (.array 4 e)) (he : P.underlying e = some (.int k)) (ha : ∀ w, (isAgg e).run P w = .ok false w) (hs : ∀ w, (sizeOf e).run P w = .ok 1 w) (x0 x1 x2 x3 y0 y1 y2 y3 : Int) (w : World) :
    (Op.equalIn 10000 t (.agg #[.int k x0, .int k x1, .int k x2, .int k x3]) (.agg #[.int k y0, .int k y1, .int k y2, .int k y3])).run P w = .ok (x0 == y0 && (x1 == y1 && (x2 == y2 && x3 == y3))) w := by
  have hi : ∀ a b, (Op.equalIn 9999 e (.int k a) (.int k b)).run P w = .ok (a == b) w := fun a b => run_equalIn_int w 9998 e k k a b he
  rw [show (10000 : Nat) = 9999 + 1 from rfl, Op.equalIn]
  simp only [Sem.run_bind, run_underlying hu, Result.andThen_ok, hs]
  simp only [Std.Legacy.Range.forIn_eq_forIn_range', Std.Legacy.Range.size, Nat.sub_zero, Nat.add_sub_cancel, Nat.div_one, List.range'_succ, List.range'_zero, List.forIn_cons, List.forIn_nil]
  have p0 : ∀ (a b c d : Value) (w : World), (part e #[a, b, c, d] (0 * 1)).run P w = .ok a w := fun a b c d w => run_part1 w ha rfl
  have p1 : ∀ (a b c d : Value) (w : World), (part e #[a, b, c, d] ((0 + 1) * 1)).run P w = .ok b w := fun a b c d w => run_part1 w ha rfl
  have p2 : ∀ (a b c d : Value) (w : World), (part e #[a, b, c, d] ((0 + 1 + 1) * 1)).run P w = .ok c w := fun a b c d w => run_part1 w ha rfl
  have p3 : ∀ (a b c d : Value) (w : World), (part e #[a, b, c, d] ((0 + 1 + 1 + 1) * 1)).run P w = .ok d w := fun a b c d w => run_part1 w ha rfl
  simp only [Sem.run_bind, p0, p1, p2, p3, Result.andThen_ok, hi]
  cases h0 : x0 == y0 <;> cases h1 : x1 == y1 <;> cases h2 : x2 == y2 <;> cases h3 : x3 == y3 <;>
    simp [Sem.run_bind, p0, p1, p2, p3, hi, h0, h1, h2, h3]
theorem eq_arr8 {P : Program} {t e : TypeId} {k : IntKind} (hu : P.underlying t = some (.array 8 e)) (he : P.underlying e = some (.int k)) (ha : ∀ w, (isAgg e).run P w = .ok false w) (hs : ∀ w, (sizeOf e).run P w = .ok 1 w) (x0 x1 x2 x3 x4 x5 x6 x7 y0 y1 y2 y3 y4 y5 y6 y7 : Int) (w : World) :
    (Op.equalIn 10000 t (.agg #[.int k x0, .int k x1, .int k x2, .int k x3, .int k x4, .int k x5, .int k x6, .int k x7]) (.agg #[.int k y0, .int k y1, .int k y2, .int k y3, .int k y4, .int k y5, .int k y6, .int k y7])).run P w = .ok (x0 == y0 && (x1 == y1 && (x2 == y2 && (x3 == y3 && (x4 == y4 && (x5 == y5 && (x6 == y6 && (x7 == y7)))))))) w := by
  have hi : ∀ a b, (Op.equalIn 9999 e (.int k a) (.int k b)).run P w = .ok (a == b) w := fun a b => run_equalIn_int w 9998 e k k a b he
  rw [show (10000 : Nat) = 9999 + 1 from rfl, Op.equalIn]
  simp only [Sem.run_bind, run_underlying hu, Result.andThen_ok, hs]
  simp only [Std.Legacy.Range.forIn_eq_forIn_range', Std.Legacy.Range.size, Nat.sub_zero, Nat.add_sub_cancel, Nat.div_one, List.range'_succ, List.range'_zero, List.forIn_cons, List.forIn_nil]
  have p0 : ∀ (a b c d f g h i : Value) (w : World), (part e #[a, b, c, d, f, g, h, i] ((0) * 1)).run P w = .ok a w := fun a b c d f g h i w => run_part1 w ha rfl
  have p1 : ∀ (a b c d f g h i : Value) (w : World), (part e #[a, b, c, d, f, g, h, i] ((0 + 1) * 1)).run P w = .ok b w := fun a b c d f g h i w => run_part1 w ha rfl
  have p2 : ∀ (a b c d f g h i : Value) (w : World), (part e #[a, b, c, d, f, g, h, i] ((0 + 1 + 1) * 1)).run P w = .ok c w := fun a b c d f g h i w => run_part1 w ha rfl
  have p3 : ∀ (a b c d f g h i : Value) (w : World), (part e #[a, b, c, d, f, g, h, i] ((0 + 1 + 1 + 1) * 1)).run P w = .ok d w := fun a b c d f g h i w => run_part1 w ha rfl
  have p4 : ∀ (a b c d f g h i : Value) (w : World), (part e #[a, b, c, d, f, g, h, i] ((0 + 1 + 1 + 1 + 1) * 1)).run P w = .ok f w := fun a b c d f g h i w => run_part1 w ha rfl
  have p5 : ∀ (a b c d f g h i : Value) (w : World), (part e #[a, b, c, d, f, g, h, i] ((0 + 1 + 1 + 1 + 1 + 1) * 1)).run P w = .ok g w := fun a b c d f g h i w => run_part1 w ha rfl
  have p6 : ∀ (a b c d f g h i : Value) (w : World), (part e #[a, b, c, d, f, g, h, i] ((0 + 1 + 1 + 1 + 1 + 1 + 1) * 1)).run P w = .ok h w := fun a b c d f g h i w => run_part1 w ha rfl
  have p7 : ∀ (a b c d f g h i : Value) (w : World), (part e #[a, b, c, d, f, g, h, i] ((0 + 1 + 1 + 1 + 1 + 1 + 1 + 1) * 1)).run P w = .ok i w := fun a b c d f g h i w => run_part1 w ha rfl
  simp only [Sem.run_bind, p0, p1, p2, p3, p4, p5, p6, p7, Result.andThen_ok, hi]
  cases h0 : x0 == y0
  · simp [Sem.run_bind, p0, p1, p2, p3, p4, p5, p6, p7, hi, h0]
  cases h1 : x1 == y1
  · simp [Sem.run_bind, p0, p1, p2, p3, p4, p5, p6, p7, hi, h0, h1]
  cases h2 : x2 == y2
  · simp [Sem.run_bind, p0, p1, p2, p3, p4, p5, p6, p7, hi, h0, h1, h2]
  cases h3 : x3 == y3
  · simp [Sem.run_bind, p0, p1, p2, p3, p4, p5, p6, p7, hi, h0, h1, h2, h3]
  cases h4 : x4 == y4
  · simp [Sem.run_bind, p0, p1, p2, p3, p4, p5, p6, p7, hi, h0, h1, h2, h3, h4]
  cases h5 : x5 == y5
  · simp [Sem.run_bind, p0, p1, p2, p3, p4, p5, p6, p7, hi, h0, h1, h2, h3, h4, h5]
  cases h6 : x6 == y6
  · simp [Sem.run_bind, p0, p1, p2, p3, p4, p5, p6, p7, hi, h0, h1, h2, h3, h4, h5, h6]
  cases h7 : x7 == y7
  · simp [Sem.run_bind, p0, p1, p2, p3, p4, p5, p6, p7, hi, h0, h1, h2, h3, h4, h5, h6, h7]
  · simp [Sem.run_bind, p0, p1, p2, p3, p4, p5, p6, p7, hi, h0, h1, h2, h3, h4, h5, h6, h7]

theorem lim_eq4 (a b : Int) : (lim a 0 == lim b 0 && (lim a 1 == lim b 1 && (lim a 2 == lim b 2 && lim a 3 == lim b 3))) = (num (vI a) == num (vI b)) := by
  rw [lims a, lims b]
  have := W_lim a 0; have := W_lim a 1; have := W_lim a 2; have := W_lim a 3; have := W_lim b 0; have := W_lim b 1; have := W_lim b 2; have := W_lim b 3
  unfold W at *
  rw [Bool.eq_iff_iff]
  simp only [Bool.and_eq_true, beq_iff_eq]
  omega
theorem lim_eq8 (a b : Int) : (lim a 0 == lim b 0 && (lim a 1 == lim b 1 && (lim a 2 == lim b 2 && (lim a 3 == lim b 3 && (lim a 4 == lim b 4 && (lim a 5 == lim b 5 && (lim a 6 == lim b 6 && lim a 7 == lim b 7))))))) = (num (vW a) == num (vW b)) := by
  rw [show num (vW a) = _ from num8 .., show num (vW b) = _ from num8 ..]
  have := W_lim a 0; have := W_lim a 1; have := W_lim a 2; have := W_lim a 3; have := W_lim b 0; have := W_lim b 1; have := W_lim b 2; have := W_lim b 3
  have := W_lim a 4; have := W_lim a 5; have := W_lim a 6; have := W_lim a 7; have := W_lim b 4; have := W_lim b 5; have := W_lim b 6; have := W_lim b 7
  unfold W at *
  rw [Bool.eq_iff_iff]
  simp only [Bool.and_eq_true, beq_iff_eq]
  omega
section
variable {P : Program} {t e : TypeId} (hg : P.eqGuardType P.depth t = false) (he : P.underlying e = some (.int .u64)) (ha : ∀ w, (isAgg e).run P w = .ok false w) (hs : ∀ w, (sizeOf e).run P w = .ok 1 w)
include hg he ha hs
theorem xeq4 (hu : P.underlying t = some (.array 4 e)) (a b : Int) : PureRun P (xBin .eql t (vI a) (vI b)) (.bool (num (vI a) == num (vI b))) := by
  intro w
  have h := eq_arr4 hu he ha hs (lim a 0) (lim a 1) (lim a 2) (lim a 3) (lim b 0) (lim b 1) (lim b 2) (lim b 3) w
  rw [lim_eq4] at h
  have g : (eqGuard .eql t (.const (vI a)) (.const (vI b)) (vI a) (vI b)).run P w = .ok () w := run_eqGuard_agg (w := w) .eql t _ _ _ _ hg
  have q : (binOp .eql t (vI a) (vI b)).run P w = .ok (.bool (num (vI a) == num (vI b))) w := by
    show (binOp .eql t (.agg _) (.agg _)).run P w = _
    rw [run_eql_struct, h]; rfl
  simp [xBin, Sem.run_bind, g, q]
theorem xne4 (hu : P.underlying t = some (.array 4 e)) (a b : Int) : PureRun P (xBin .neq t (vI a) (vI b)) (.bool (num (vI a) != num (vI b))) := by
  intro w
  have h := eq_arr4 hu he ha hs (lim a 0) (lim a 1) (lim a 2) (lim a 3) (lim b 0) (lim b 1) (lim b 2) (lim b 3) w
  rw [lim_eq4] at h
  have g : (eqGuard .neq t (.const (vI a)) (.const (vI b)) (vI a) (vI b)).run P w = .ok () w := run_eqGuard_agg (w := w) .neq t _ _ _ _ hg
  have q : (binOp .neq t (vI a) (vI b)).run P w = .ok (.bool (num (vI a) != num (vI b))) w := by
    show (binOp .neq t (.agg _) (.agg _)).run P w = _
    simp only [binOp, Op.equal, Op.maxDepth, Sem.run_bind, h]; rfl
  simp [xBin, Sem.run_bind, g, q]
theorem xeq8 (hu : P.underlying t = some (.array 8 e)) (a b : Int) : PureRun P (xBin .eql t (vW a) (vW b)) (.bool (num (vW a) == num (vW b))) := by
  intro w
  have h := eq_arr8 hu he ha hs (lim a 0) (lim a 1) (lim a 2) (lim a 3) (lim a 4) (lim a 5) (lim a 6) (lim a 7) (lim b 0) (lim b 1) (lim b 2) (lim b 3) (lim b 4) (lim b 5) (lim b 6) (lim b 7) w
  rw [lim_eq8] at h
  have g : (eqGuard .eql t (.const (vW a)) (.const (vW b)) (vW a) (vW b)).run P w = .ok () w := run_eqGuard_agg (w := w) .eql t _ _ _ _ hg
  have q : (binOp .eql t (vW a) (vW b)).run P w = .ok (.bool (num (vW a) == num (vW b))) w := by
    show (binOp .eql t (.agg _) (.agg _)).run P w = _
    rw [run_eql_struct, h]; rfl
  simp [xBin, Sem.run_bind, g, q]
end
theorem eqz {n : Int} {b : Bool} (h : R4 n) (hq : (num (vI n) == num (vI 0)) = b) : (n == 0) = b := by rw [num_vI h, num_vI R4_zero] at hq; exact hq
def f_eq : List Value → Value := fun vs => .bool (num (varg vs 0) == num (varg vs 1))
def f_ne : List Value → Value := fun vs => .bool (num (varg vs 0) != num (varg vs 1))
end Go.Sx
