/- Contracts of this program's functions, and their proofs, printed by a program of the prover's own (see the claim's other texts for what the words mean). -/
import Derived.Test.YtohkmdnelbajiaaSxB12
import Derived.Test.YtohkmdnelbajiaaC5
set_option linter.unusedVariables false
set_option linter.unusedSimpArgs false
namespace Go.Proofs
open Go.Sx
theorem Try.xeq44 (a b : Int) : PureRun Try.prog (xBin .eql 44 (vI a) (vI b)) (.bool (num (vI a) == num (vI b))) := xeq4 (e := 27) (by kernel_rfl) (by kernel_rfl) (fun w => by kernel_rfl) (fun w => by kernel_rfl) (by kernel_rfl) a b
theorem Try.xeq56 (a b : Int) : PureRun Try.prog (xBin .eql 56 (vW a) (vW b)) (.bool (num (vW a) == num (vW b))) := xeq8 (e := 27) (by kernel_rfl) (by kernel_rfl) (fun w => by kernel_rfl) (fun w => by kernel_rfl) (by kernel_rfl) a b
theorem Try.xne44 (a b : Int) : PureRun Try.prog (xBin .neq 44 (vI a) (vI b)) (.bool (num (vI a) != num (vI b))) := xne4 (e := 27) (by kernel_rfl) (by kernel_rfl) (fun w => by kernel_rfl) (fun w => by kernel_rfl) (by kernel_rfl) a b
def wide_narrow_C : List Value → List Slot → Ctr := fun vs hs => ⟨Int × Int, fun zx => .tuple #[vI zx.1, .int .i64 zx.2], fun _ => hs, fun zx => R4 zx.1 ∧ zx = wNar (num (varg vs 1))⟩
set_option maxRecDepth 100000 in
theorem wide_narrow_vc (w : Int) : codeW Try.prog 20 none 2000 none (bodyOf Try.f81) (.reg [.sem [.nw 0], .sem [.nw 1], .sem []] (.reg [.sem [], .sem [.rd 0], .sem [], .sem [.rd 0], .sem [], .sem [], .sem [.rd 0], .sem [], .sem [], .sem [.rd 0], .sem [], .sem []] (.cond (.reg [.sem [], .sem [.wr 1, .wr 1, .wr 1, .wr 1], .sem []] (.done)) (.reg [.sem [], .sem [], .sem [.rd 0, .rd 0, .rd 0, .rd 0], .sem [.wr 1, .wr 1, .wr 1, .wr 1], .sem []] (.done)))))
    (init #[vW w] []) (finW Try.prog Try.f81 [.rd 1, .rd 1, .rd 1, .rd 1] [] (X := Int × Int) (fun zx => .tuple #[vI zx.1, .int .i64 zx.2]) (fun zx => []) (fun zx => (R4 zx.1 ∧ zx = wNar (num (vW w))))) =
    (∀ b1 : Nat, ∀ b2 : Nat, b1 = b1 ∧ (none : Option Nat) = none ∧ b1 = b1 ∧ (none : Option Nat) = none ∧ b1 = b1 ∧ (none : Option Nat) = none ∧ b1 = b1 ∧ (none : Option Nat) = none ∧ (((IntKind.u64.wrap ((BitVec.ofInt 64 (IntKind.u64.wrap ((BitVec.ofInt 64 (IntKind.u64.wrap ((BitVec.ofInt 64 (lim w 4) ||| BitVec.ofInt 64 (lim w 5) : BitVec 64).toNat : Int)) ||| BitVec.ofInt 64 (lim w 6) : BitVec 64).toNat : Int)) ||| BitVec.ofInt 64 (lim w 7) : BitVec 64).toNat : Int)) != (0 : Int)) = true → b2 = b2 ∧ (none : Option Nat) = none ∧ b2 = b2 ∧ (none : Option Nat) = none ∧ b2 = b2 ∧ (none : Option Nat) = none ∧ b2 = b2 ∧ (none : Option Nat) = none ∧ b2 = b2 ∧ (none : Option Nat) = none ∧ b2 = b2 ∧ (none : Option Nat) = none ∧ b2 = b2 ∧ (none : Option Nat) = none ∧ b2 = b2 ∧ (none : Option Nat) = none ∧ ∃ zx : Int × Int, (R4 zx.1 ∧ zx = wNar (num (vW w))) ∧ Value.tuple #[.agg #[.int .u64 0, .int .u64 0, .int .u64 0, .int .u64 0], .int .i64 2] = .tuple #[vI zx.1, .int .i64 zx.2] ∧ True) ∧ (((IntKind.u64.wrap ((BitVec.ofInt 64 (IntKind.u64.wrap ((BitVec.ofInt 64 (IntKind.u64.wrap ((BitVec.ofInt 64 (lim w 4) ||| BitVec.ofInt 64 (lim w 5) : BitVec 64).toNat : Int)) ||| BitVec.ofInt 64 (lim w 6) : BitVec 64).toNat : Int)) ||| BitVec.ofInt 64 (lim w 7) : BitVec 64).toNat : Int)) != (0 : Int)) = false → b1 = b1 ∧ (none : Option Nat) = none ∧ b1 = b1 ∧ (none : Option Nat) = none ∧ b1 = b1 ∧ (none : Option Nat) = none ∧ b1 = b1 ∧ (none : Option Nat) = none ∧ b2 = b2 ∧ (none : Option Nat) = none ∧ b2 = b2 ∧ (none : Option Nat) = none ∧ b2 = b2 ∧ (none : Option Nat) = none ∧ b2 = b2 ∧ (none : Option Nat) = none ∧ b2 = b2 ∧ (none : Option Nat) = none ∧ b2 = b2 ∧ (none : Option Nat) = none ∧ b2 = b2 ∧ (none : Option Nat) = none ∧ b2 = b2 ∧ (none : Option Nat) = none ∧ ∃ zx : Int × Int, (R4 zx.1 ∧ zx = wNar (num (vW w))) ∧ Value.tuple #[vI w, .int .i64 0] = .tuple #[vI zx.1, .int .i64 zx.2] ∧ True)) := by kernel_rfl
set_option maxRecDepth 100000 in
theorem wide_narrow (w : Int) (r_w : R8 w) : CallT Try.prog 81 #[vW w] [] (Int × Int) (fun zx => .tuple #[vI zx.1, .int .i64 zx.2]) (fun zx => []) (fun zx => (R4 zx.1 ∧ zx = wNar (num (vW w)))) := by
  refine call_of (c := bodyOf Try.f81) (n := 20) (fn := Try.f81) Try.mixed Try.func81 (by kernel_rfl) (by kernel_rfl) (by kernel_rfl) 2000 _ [.rd 1, .rd 1, .rd 1, .rd 1] [] rfl rfl (Eq.mpr (wide_narrow_vc w) ?_)
  intro b1
  intro b2
  refine ⟨rfl, rfl, rfl, rfl, rfl, rfl, rfl, rfl, ?_⟩
  refine ⟨fun h1 => ?_, fun h1 => ?_⟩
  · refine ⟨rfl, rfl, rfl, rfl, rfl, rfl, rfl, rfl, ?_⟩
    refine ⟨rfl, rfl, rfl, rfl, rfl, rfl, rfl, rfl, ?_⟩
    exact fin2 (narrow_ov r_w (by assumption)) R4_zero vI_zero
  · refine ⟨rfl, rfl, rfl, rfl, rfl, rfl, rfl, rfl, rfl, rfl, rfl, rfl, rfl, rfl, rfl, rfl, ?_⟩
    refine ⟨rfl, rfl, rfl, rfl, rfl, rfl, rfl, rfl, ?_⟩
    exact fin2 (narrow_ok r_w (by assumption)).1 (narrow_ok r_w (by assumption)).2 rfl

def wide_Div_C : List Value → List Slot → Ctr := fun vs hs => ⟨Int × Int × Int, fun zx => .tuple #[vI zx.1, vI zx.2.1, .int .i64 zx.2.2], fun _ => hs, fun zx => R4 zx.1 ∧ R4 zx.2.1 ∧ zx = wDiv (num (varg vs 1)) (num (varg vs 2))⟩
set_option maxRecDepth 100000 in
theorem wide_Div_vc (a : Int) (d : Int) : codeW Try.prog 32 none 2000 none (bodyOf Try.f45) (.reg [.sem [.nw 0], .sem [.nw 1], .sem [.nw 2], .sem [.nw 3], .sem []] (.reg [.sem [.nw 4]] (.reg [.sem [], .sem [], .sem [.rd 0, .rd 0, .rd 0, .rd 0, .wr 4, .wr 4, .wr 4, .wr 4]] (.reg [.sem [.rd 4, .rd 4, .rd 4, .rd 4, .rd 4, .rd 4, .rd 4, .rd 4], .sem [.rd 1, .rd 1, .rd 1, .rd 1], .callr [] wide_Divide_C, .sem [], .sem [], .sem [], .sem [], .sem [.nw 5], .sem [.wr 5, .wr 5, .wr 5, .wr 5, .wr 5, .wr 5, .wr 5, .wr 5], .sem [.wr 3, .wr 3, .wr 3, .wr 3], .sem []] (.reg [.sem [], .sem []] (.cond (.reg [.sem [], .sem [], .sem [], .sem [.wr 2, .wr 2, .wr 2, .wr 2], .sem [.wr 3, .wr 3, .wr 3, .wr 3], .sem []] (.done)) (.reg [.sem [.rd 5, .rd 5, .rd 5, .rd 5, .rd 5, .rd 5, .rd 5, .rd 5], .callr [] wide_narrow_C, .sem [], .sem [], .sem [], .sem [.wr 2, .wr 2, .wr 2, .wr 2], .sem []] (.reg [.sem [.rd 2, .rd 2, .rd 2, .rd 2], .sem [.rd 3, .rd 3, .rd 3, .rd 3], .sem [], .sem [.wr 2, .wr 2, .wr 2, .wr 2], .sem [.wr 3, .wr 3, .wr 3, .wr 3], .sem []] (.done)))))))))
    (init #[vI a, vI d] []) (finW Try.prog Try.f45 [.rd 2, .rd 2, .rd 2, .rd 2, .rd 3, .rd 3, .rd 3, .rd 3] [] (X := Int × Int × Int) (fun zx => .tuple #[vI zx.1, vI zx.2.1, .int .i64 zx.2.2]) (fun zx => []) (fun zx => (R4 zx.1 ∧ R4 zx.2.1 ∧ zx = wDiv (num (vI a)) (num (vI d))))) =
    (∀ b1 : Nat, ∀ b2 : Nat, ∀ b3 : Nat, ∀ b4 : Nat, ∀ b5 : Nat, b1 = b1 ∧ (none : Option Nat) = none ∧ b1 = b1 ∧ (none : Option Nat) = none ∧ b1 = b1 ∧ (none : Option Nat) = none ∧ b1 = b1 ∧ (none : Option Nat) = none ∧ b5 = b5 ∧ (none : Option Nat) = none ∧ b5 = b5 ∧ (none : Option Nat) = none ∧ b5 = b5 ∧ (none : Option Nat) = none ∧ b5 = b5 ∧ (none : Option Nat) = none ∧ b5 = b5 ∧ (none : Option Nat) = none ∧ b5 = b5 ∧ (none : Option Nat) = none ∧ b5 = b5 ∧ (none : Option Nat) = none ∧ b5 = b5 ∧ (none : Option Nat) = none ∧ b5 = b5 ∧ (none : Option Nat) = none ∧ b5 = b5 ∧ (none : Option Nat) = none ∧ b5 = b5 ∧ (none : Option Nat) = none ∧ b5 = b5 ∧ (none : Option Nat) = none ∧ b2 = b2 ∧ (none : Option Nat) = none ∧ b2 = b2 ∧ (none : Option Nat) = none ∧ b2 = b2 ∧ (none : Option Nat) = none ∧ b2 = b2 ∧ (none : Option Nat) = none ∧ (CallT Try.prog 32 #[.agg #[.int .u64 (lim a 0), .int .u64 (lim a 1), .int .u64 (lim a 2), .int .u64 (lim a 3), .int .u64 0, .int .u64 0, .int .u64 0, .int .u64 0], vI d] [] (Int × Int × Int) (fun zx => .tuple #[vW zx.1, vI zx.2.1, .int .i64 zx.2.2]) (fun _ => []) (fun zx => R8 zx.1 ∧ R4 zx.2.1 ∧ zx = wDiv (num (.agg #[.int .u64 (lim a 0), .int .u64 (lim a 1), .int .u64 (lim a 2), .int .u64 (lim a 3), .int .u64 0, .int .u64 0, .int .u64 0, .int .u64 0])) (num (vI d)))) ∧ (∃ zx : Int × Int × Int, (fun zx => R8 zx.1 ∧ R4 zx.2.1 ∧ zx = wDiv (num (.agg #[.int .u64 (lim a 0), .int .u64 (lim a 1), .int .u64 (lim a 2), .int .u64 (lim a 3), .int .u64 0, .int .u64 0, .int .u64 0, .int .u64 0])) (num (vI d))) zx) ∧ ∀ x6 : Int × Int × Int, (R8 x6.1 ∧ R4 x6.2.1 ∧ x6 = wDiv (num (.agg #[.int .u64 (lim a 0), .int .u64 (lim a 1), .int .u64 (lim a 2), .int .u64 (lim a 3), .int .u64 0, .int .u64 0, .int .u64 0, .int .u64 0])) (num (vI d))) → ∀ b7 : Nat, b7 = b7 ∧ (none : Option Nat) = none ∧ b7 = b7 ∧ (none : Option Nat) = none ∧ b7 = b7 ∧ (none : Option Nat) = none ∧ b7 = b7 ∧ (none : Option Nat) = none ∧ b7 = b7 ∧ (none : Option Nat) = none ∧ b7 = b7 ∧ (none : Option Nat) = none ∧ b7 = b7 ∧ (none : Option Nat) = none ∧ b7 = b7 ∧ (none : Option Nat) = none ∧ b4 = b4 ∧ (none : Option Nat) = none ∧ b4 = b4 ∧ (none : Option Nat) = none ∧ b4 = b4 ∧ (none : Option Nat) = none ∧ b4 = b4 ∧ (none : Option Nat) = none ∧ ((x6.2.2 != (0 : Int)) = true → b3 = b3 ∧ (none : Option Nat) = none ∧ b3 = b3 ∧ (none : Option Nat) = none ∧ b3 = b3 ∧ (none : Option Nat) = none ∧ b3 = b3 ∧ (none : Option Nat) = none ∧ b4 = b4 ∧ (none : Option Nat) = none ∧ b4 = b4 ∧ (none : Option Nat) = none ∧ b4 = b4 ∧ (none : Option Nat) = none ∧ b4 = b4 ∧ (none : Option Nat) = none ∧ b3 = b3 ∧ (none : Option Nat) = none ∧ b3 = b3 ∧ (none : Option Nat) = none ∧ b3 = b3 ∧ (none : Option Nat) = none ∧ b3 = b3 ∧ (none : Option Nat) = none ∧ b4 = b4 ∧ (none : Option Nat) = none ∧ b4 = b4 ∧ (none : Option Nat) = none ∧ b4 = b4 ∧ (none : Option Nat) = none ∧ b4 = b4 ∧ (none : Option Nat) = none ∧ ∃ zx : Int × Int × Int, (R4 zx.1 ∧ R4 zx.2.1 ∧ zx = wDiv (num (vI a)) (num (vI d))) ∧ Value.tuple #[.agg #[.int .u64 0, .int .u64 0, .int .u64 0, .int .u64 0], .agg #[.int .u64 0, .int .u64 0, .int .u64 0, .int .u64 0], .int .i64 x6.2.2] = .tuple #[vI zx.1, vI zx.2.1, .int .i64 zx.2.2] ∧ True) ∧ ((x6.2.2 != (0 : Int)) = false → b7 = b7 ∧ (none : Option Nat) = none ∧ b7 = b7 ∧ (none : Option Nat) = none ∧ b7 = b7 ∧ (none : Option Nat) = none ∧ b7 = b7 ∧ (none : Option Nat) = none ∧ b7 = b7 ∧ (none : Option Nat) = none ∧ b7 = b7 ∧ (none : Option Nat) = none ∧ b7 = b7 ∧ (none : Option Nat) = none ∧ b7 = b7 ∧ (none : Option Nat) = none ∧ (CallT Try.prog 81 #[vW x6.1] [] (Int × Int) (fun zx => .tuple #[vI zx.1, .int .i64 zx.2]) (fun _ => []) (fun zx => R4 zx.1 ∧ zx = wNar (num (vW x6.1)))) ∧ (∃ zx : Int × Int, (fun zx => R4 zx.1 ∧ zx = wNar (num (vW x6.1))) zx) ∧ ∀ x8 : Int × Int, (R4 x8.1 ∧ x8 = wNar (num (vW x6.1))) → b3 = b3 ∧ (none : Option Nat) = none ∧ b3 = b3 ∧ (none : Option Nat) = none ∧ b3 = b3 ∧ (none : Option Nat) = none ∧ b3 = b3 ∧ (none : Option Nat) = none ∧ b3 = b3 ∧ (none : Option Nat) = none ∧ b3 = b3 ∧ (none : Option Nat) = none ∧ b3 = b3 ∧ (none : Option Nat) = none ∧ b3 = b3 ∧ (none : Option Nat) = none ∧ b4 = b4 ∧ (none : Option Nat) = none ∧ b4 = b4 ∧ (none : Option Nat) = none ∧ b4 = b4 ∧ (none : Option Nat) = none ∧ b4 = b4 ∧ (none : Option Nat) = none ∧ b3 = b3 ∧ (none : Option Nat) = none ∧ b3 = b3 ∧ (none : Option Nat) = none ∧ b3 = b3 ∧ (none : Option Nat) = none ∧ b3 = b3 ∧ (none : Option Nat) = none ∧ b4 = b4 ∧ (none : Option Nat) = none ∧ b4 = b4 ∧ (none : Option Nat) = none ∧ b4 = b4 ∧ (none : Option Nat) = none ∧ b4 = b4 ∧ (none : Option Nat) = none ∧ b3 = b3 ∧ (none : Option Nat) = none ∧ b3 = b3 ∧ (none : Option Nat) = none ∧ b3 = b3 ∧ (none : Option Nat) = none ∧ b3 = b3 ∧ (none : Option Nat) = none ∧ b4 = b4 ∧ (none : Option Nat) = none ∧ b4 = b4 ∧ (none : Option Nat) = none ∧ b4 = b4 ∧ (none : Option Nat) = none ∧ b4 = b4 ∧ (none : Option Nat) = none ∧ ∃ zx : Int × Int × Int, (R4 zx.1 ∧ R4 zx.2.1 ∧ zx = wDiv (num (vI a)) (num (vI d))) ∧ Value.tuple #[vI x8.1, vI x6.2.1, .int .i64 x8.2] = .tuple #[vI zx.1, vI zx.2.1, .int .i64 zx.2.2] ∧ True)) := by kernel_rfl
set_option maxRecDepth 100000 in
theorem wide_Div (a : Int) (d : Int) (r_a : R4 a) (r_d : R4 d) : CallT Try.prog 45 #[vI a, vI d] [] (Int × Int × Int) (fun zx => .tuple #[vI zx.1, vI zx.2.1, .int .i64 zx.2.2]) (fun zx => []) (fun zx => (R4 zx.1 ∧ R4 zx.2.1 ∧ zx = wDiv (num (vI a)) (num (vI d)))) := by
  refine call_of (c := bodyOf Try.f45) (n := 32) (fn := Try.f45) Try.mixed Try.func45 (by kernel_rfl) (by kernel_rfl) (by kernel_rfl) 2000 _ [.rd 2, .rd 2, .rd 2, .rd 2, .rd 3, .rd 3, .rd 3, .rd 3] [] rfl rfl (Eq.mpr (wide_Div_vc a d) ?_)
  intro b1
  intro b2
  intro b3
  intro b4
  intro b5
  refine ⟨rfl, rfl, rfl, rfl, rfl, rfl, rfl, rfl, rfl, rfl, rfl, rfl, rfl, rfl, rfl, rfl, ?_⟩
  refine ⟨rfl, rfl, rfl, rfl, rfl, rfl, rfl, rfl, rfl, rfl, rfl, rfl, rfl, rfl, rfl, rfl, rfl, rfl, rfl, rfl, rfl, rfl, rfl, rfl, ?_⟩
  refine ⟨?_, ?_⟩
  ·   have hraw := wide_Divide (num (.agg #[.int .u64 (lim a 0), .int .u64 (lim a 1), .int .u64 (lim a 2), .int .u64 (lim a 3), .int .u64 0, .int .u64 0, .int .u64 0, .int .u64 0])) d (R8_num8 (by first | assumption | exact W_lim _ _ | (unfold W; decide)) (by first | assumption | exact W_lim _ _ | (unfold W; decide)) (by first | assumption | exact W_lim _ _ | (unfold W; decide)) (by first | assumption | exact W_lim _ _ | (unfold W; decide)) (by first | assumption | exact W_lim _ _ | (unfold W; decide)) (by first | assumption | exact W_lim _ _ | (unfold W; decide)) (by first | assumption | exact W_lim _ _ | (unfold W; decide)) (by first | assumption | exact W_lim _ _ | (unfold W; decide))) (by assumption)
      rw [vW_num8 (by first | assumption | exact W_lim _ _ | (unfold W; decide)) (by first | assumption | exact W_lim _ _ | (unfold W; decide)) (by first | assumption | exact W_lim _ _ | (unfold W; decide)) (by first | assumption | exact W_lim _ _ | (unfold W; decide)) (by first | assumption | exact W_lim _ _ | (unfold W; decide)) (by first | assumption | exact W_lim _ _ | (unfold W; decide)) (by first | assumption | exact W_lim _ _ | (unfold W; decide)) (by first | assumption | exact W_lim _ _ | (unfold W; decide))] at hraw
      exact hraw
  refine ⟨⟨wDiv _ _, wDiv_R8 (by first | exact R8_num _ | exact R8_num8 (by first | assumption | exact W_lim _ _ | (unfold W; decide)) (by first | assumption | exact W_lim _ _ | (unfold W; decide)) (by first | assumption | exact W_lim _ _ | (unfold W; decide)) (by first | assumption | exact W_lim _ _ | (unfold W; decide)) (by first | assumption | exact W_lim _ _ | (unfold W; decide)) (by first | assumption | exact W_lim _ _ | (unfold W; decide)) (by first | assumption | exact W_lim _ _ | (unfold W; decide)) (by first | assumption | exact W_lim _ _ | (unfold W; decide))) (R4_num _), wDiv_R4 (R4_num _), rfl⟩, ?_⟩
  intro x6
  intro h1
  obtain ⟨rh1_1, h1⟩ := h1
  obtain ⟨rh1_21, h1⟩ := h1
  try simp only [num_vI (n := d) (by assumption)] at h1
  intro b7
  refine ⟨rfl, rfl, rfl, rfl, rfl, rfl, rfl, rfl, rfl, rfl, rfl, rfl, rfl, rfl, rfl, rfl, rfl, rfl, rfl, rfl, rfl, rfl, rfl, rfl, ?_⟩
  rw [show num (.agg #[.int .u64 (lim a 0), .int .u64 (lim a 1), .int .u64 (lim a 2), .int .u64 (lim a 3), .int .u64 0, .int .u64 0, .int .u64 0, .int .u64 0]) = a from by rw [num84, num_vI r_a]] at h1
  refine ⟨fun h2 => ?_, fun h2 => ?_⟩
  · refine ⟨rfl, rfl, rfl, rfl, rfl, rfl, rfl, rfl, rfl, rfl, rfl, rfl, rfl, rfl, rfl, rfl, ?_⟩
    refine ⟨rfl, rfl, rfl, rfl, rfl, rfl, rfl, rfl, rfl, rfl, rfl, rfl, rfl, rfl, rfl, rfl, ?_⟩
    have hq := quo_err (by assumption) (by assumption)
    exact fin3q (by rw [num_vI r_a, num_vI r_d]; exact hq) R4_zero R4_zero vI_zero vI_zero
  · refine ⟨rfl, rfl, rfl, rfl, rfl, rfl, rfl, rfl, rfl, rfl, rfl, rfl, rfl, rfl, rfl, rfl, wide_narrow x6.1 (by assumption), ⟨_, wNar_R (R8_num _), rfl⟩, ?_⟩
    intro x8
    intro h3
    obtain ⟨rh3_1, h3⟩ := h3
    try simp only [num_vW (n := x6.1) (by assumption)] at h3
    refine ⟨rfl, rfl, rfl, rfl, rfl, rfl, rfl, rfl, ?_⟩
    refine ⟨rfl, rfl, rfl, rfl, rfl, rfl, rfl, rfl, rfl, rfl, rfl, rfl, rfl, rfl, rfl, rfl, rfl, rfl, rfl, rfl, rfl, rfl, rfl, rfl, rfl, rfl, rfl, rfl, rfl, rfl, rfl, rfl, ?_⟩
    refine ⟨rfl, rfl, rfl, rfl, rfl, rfl, rfl, rfl, rfl, rfl, rfl, rfl, rfl, rfl, rfl, rfl, ?_⟩
    have hq := quo_ok r_a (by assumption) (by assumption) r_d (by assumption)
    exact fin3q (by rw [num_vI r_a, num_vI r_d]; exact hq) (by assumption) (by assumption) rfl rfl

def wide_MulDiv_C : List Value → List Slot → Ctr := fun vs hs => ⟨Int × Int, fun zx => .tuple #[vI zx.1, .int .i64 zx.2], fun _ => hs, fun zx => R4 zx.1 ∧ zx = wMulDiv (num (varg vs 1)) (num (varg vs 2)) (num (varg vs 3))⟩
set_option maxRecDepth 100000 in
theorem wide_MulDiv_vc (a : Int) (b : Int) (d : Int) : codeW Try.prog 28 none 2000 none (bodyOf Try.f34) (.reg [.sem [.nw 0], .sem [.nw 1], .sem [.nw 2], .sem [.nw 3], .sem []] (.reg [.sem [.rd 0, .rd 0, .rd 0, .rd 0], .sem [.rd 1, .rd 1, .rd 1, .rd 1], .callr [] wide_Product_C, .sem [.rd 2, .rd 2, .rd 2, .rd 2], .callr [] wide_Divide_C, .sem [], .sem [], .sem [], .sem [], .sem [.nw 4], .sem [.nw 5], .sem [.wr 4, .wr 4, .wr 4, .wr 4, .wr 4, .wr 4, .wr 4, .wr 4], .sem [.wr 5, .wr 5, .wr 5, .wr 5], .sem []] (.reg [.sem [], .sem []] (.cond (.reg [.sem [], .sem [], .sem [.wr 3, .wr 3, .wr 3, .wr 3], .sem []] (.done)) (.reg [.sem [.rd 4, .rd 4, .rd 4, .rd 4, .rd 4, .rd 4, .rd 4, .rd 4], .callr [] wide_narrow_C, .sem [], .sem [], .sem [.wr 3, .wr 3, .wr 3, .wr 3], .sem []] (.done))))))
    (init #[vI a, vI b, vI d] []) (finW Try.prog Try.f34 [.rd 3, .rd 3, .rd 3, .rd 3] [] (X := Int × Int) (fun zx => .tuple #[vI zx.1, .int .i64 zx.2]) (fun zx => []) (fun zx => (R4 zx.1 ∧ zx = wMulDiv (num (vI a)) (num (vI b)) (num (vI d))))) =
    (∀ b1 : Nat, ∀ b2 : Nat, ∀ b3 : Nat, ∀ b4 : Nat, b1 = b1 ∧ (none : Option Nat) = none ∧ b1 = b1 ∧ (none : Option Nat) = none ∧ b1 = b1 ∧ (none : Option Nat) = none ∧ b1 = b1 ∧ (none : Option Nat) = none ∧ b2 = b2 ∧ (none : Option Nat) = none ∧ b2 = b2 ∧ (none : Option Nat) = none ∧ b2 = b2 ∧ (none : Option Nat) = none ∧ b2 = b2 ∧ (none : Option Nat) = none ∧ (CallT Try.prog 29 #[vI a, vI b] [] Int (fun zx => vW zx) (fun _ => []) (fun zx => R8 zx ∧ zx = (num (vI a)) * (num (vI b)))) ∧ (∃ zx : Int, (fun zx => R8 zx ∧ zx = (num (vI a)) * (num (vI b))) zx) ∧ ∀ x5 : Int, (R8 x5 ∧ x5 = (num (vI a)) * (num (vI b))) → b3 = b3 ∧ (none : Option Nat) = none ∧ b3 = b3 ∧ (none : Option Nat) = none ∧ b3 = b3 ∧ (none : Option Nat) = none ∧ b3 = b3 ∧ (none : Option Nat) = none ∧ (CallT Try.prog 32 #[vW x5, vI d] [] (Int × Int × Int) (fun zx => .tuple #[vW zx.1, vI zx.2.1, .int .i64 zx.2.2]) (fun _ => []) (fun zx => R8 zx.1 ∧ R4 zx.2.1 ∧ zx = wDiv (num (vW x5)) (num (vI d)))) ∧ (∃ zx : Int × Int × Int, (fun zx => R8 zx.1 ∧ R4 zx.2.1 ∧ zx = wDiv (num (vW x5)) (num (vI d))) zx) ∧ ∀ x6 : Int × Int × Int, (R8 x6.1 ∧ R4 x6.2.1 ∧ x6 = wDiv (num (vW x5)) (num (vI d))) → ∀ b7 : Nat, ∀ b8 : Nat, b7 = b7 ∧ (none : Option Nat) = none ∧ b7 = b7 ∧ (none : Option Nat) = none ∧ b7 = b7 ∧ (none : Option Nat) = none ∧ b7 = b7 ∧ (none : Option Nat) = none ∧ b7 = b7 ∧ (none : Option Nat) = none ∧ b7 = b7 ∧ (none : Option Nat) = none ∧ b7 = b7 ∧ (none : Option Nat) = none ∧ b7 = b7 ∧ (none : Option Nat) = none ∧ b8 = b8 ∧ (none : Option Nat) = none ∧ b8 = b8 ∧ (none : Option Nat) = none ∧ b8 = b8 ∧ (none : Option Nat) = none ∧ b8 = b8 ∧ (none : Option Nat) = none ∧ ((x6.2.2 != (0 : Int)) = true → b4 = b4 ∧ (none : Option Nat) = none ∧ b4 = b4 ∧ (none : Option Nat) = none ∧ b4 = b4 ∧ (none : Option Nat) = none ∧ b4 = b4 ∧ (none : Option Nat) = none ∧ b4 = b4 ∧ (none : Option Nat) = none ∧ b4 = b4 ∧ (none : Option Nat) = none ∧ b4 = b4 ∧ (none : Option Nat) = none ∧ b4 = b4 ∧ (none : Option Nat) = none ∧ ∃ zx : Int × Int, (R4 zx.1 ∧ zx = wMulDiv (num (vI a)) (num (vI b)) (num (vI d))) ∧ Value.tuple #[.agg #[.int .u64 0, .int .u64 0, .int .u64 0, .int .u64 0], .int .i64 x6.2.2] = .tuple #[vI zx.1, .int .i64 zx.2] ∧ True) ∧ ((x6.2.2 != (0 : Int)) = false → b7 = b7 ∧ (none : Option Nat) = none ∧ b7 = b7 ∧ (none : Option Nat) = none ∧ b7 = b7 ∧ (none : Option Nat) = none ∧ b7 = b7 ∧ (none : Option Nat) = none ∧ b7 = b7 ∧ (none : Option Nat) = none ∧ b7 = b7 ∧ (none : Option Nat) = none ∧ b7 = b7 ∧ (none : Option Nat) = none ∧ b7 = b7 ∧ (none : Option Nat) = none ∧ (CallT Try.prog 81 #[vW x6.1] [] (Int × Int) (fun zx => .tuple #[vI zx.1, .int .i64 zx.2]) (fun _ => []) (fun zx => R4 zx.1 ∧ zx = wNar (num (vW x6.1)))) ∧ (∃ zx : Int × Int, (fun zx => R4 zx.1 ∧ zx = wNar (num (vW x6.1))) zx) ∧ ∀ x9 : Int × Int, (R4 x9.1 ∧ x9 = wNar (num (vW x6.1))) → b4 = b4 ∧ (none : Option Nat) = none ∧ b4 = b4 ∧ (none : Option Nat) = none ∧ b4 = b4 ∧ (none : Option Nat) = none ∧ b4 = b4 ∧ (none : Option Nat) = none ∧ b4 = b4 ∧ (none : Option Nat) = none ∧ b4 = b4 ∧ (none : Option Nat) = none ∧ b4 = b4 ∧ (none : Option Nat) = none ∧ b4 = b4 ∧ (none : Option Nat) = none ∧ ∃ zx : Int × Int, (R4 zx.1 ∧ zx = wMulDiv (num (vI a)) (num (vI b)) (num (vI d))) ∧ Value.tuple #[vI x9.1, .int .i64 x9.2] = .tuple #[vI zx.1, .int .i64 zx.2] ∧ True)) := by kernel_rfl
set_option maxRecDepth 100000 in
theorem wide_MulDiv (a : Int) (b : Int) (d : Int) (r_a : R4 a) (r_b : R4 b) (r_d : R4 d) : CallT Try.prog 34 #[vI a, vI b, vI d] [] (Int × Int) (fun zx => .tuple #[vI zx.1, .int .i64 zx.2]) (fun zx => []) (fun zx => (R4 zx.1 ∧ zx = wMulDiv (num (vI a)) (num (vI b)) (num (vI d)))) := by
  refine call_of (c := bodyOf Try.f34) (n := 28) (fn := Try.f34) Try.mixed Try.func34 (by kernel_rfl) (by kernel_rfl) (by kernel_rfl) 2000 _ [.rd 3, .rd 3, .rd 3, .rd 3] [] rfl rfl (Eq.mpr (wide_MulDiv_vc a b d) ?_)
  intro b1
  intro b2
  intro b3
  intro b4
  refine ⟨rfl, rfl, rfl, rfl, rfl, rfl, rfl, rfl, rfl, rfl, rfl, rfl, rfl, rfl, rfl, rfl, wide_Product a b (by assumption) (by assumption), ⟨_, prod_R (R4_num a) (R4_num b), rfl⟩, ?_⟩
  intro x5
  intro h1
  obtain ⟨rh1_, h1⟩ := h1
  try simp only [num_vI (n := a) (by assumption), num_vI (n := b) (by assumption)] at h1
  refine ⟨rfl, rfl, rfl, rfl, rfl, rfl, rfl, rfl, wide_Divide x5 d (by assumption) (by assumption), ⟨wDiv _ _, wDiv_R8 (by first | exact R8_num _ | exact by assumption) (R4_num _), wDiv_R4 (R4_num _), rfl⟩, ?_⟩
  intro x6
  intro h2
  obtain ⟨rh2_1, h2⟩ := h2
  obtain ⟨rh2_21, h2⟩ := h2
  try simp only [num_vW (n := x5) (by assumption), num_vI (n := d) (by assumption)] at h2
  intro b7
  intro b8
  refine ⟨rfl, rfl, rfl, rfl, rfl, rfl, rfl, rfl, rfl, rfl, rfl, rfl, rfl, rfl, rfl, rfl, rfl, rfl, rfl, rfl, rfl, rfl, rfl, rfl, ?_⟩
  refine ⟨fun h3 => ?_, fun h3 => ?_⟩
  · refine ⟨rfl, rfl, rfl, rfl, rfl, rfl, rfl, rfl, ?_⟩
    refine ⟨rfl, rfl, rfl, rfl, rfl, rfl, rfl, rfl, ?_⟩
    have hq := (md_err (d := d) (by assumption) (by assumption) (by assumption)).1
    exact fin2 (by rw [num_vI r_a, num_vI r_b, num_vI r_d]; exact hq) R4_zero vI_zero
  · refine ⟨rfl, rfl, rfl, rfl, rfl, rfl, rfl, rfl, rfl, rfl, rfl, rfl, rfl, rfl, rfl, rfl, wide_narrow x6.1 (by assumption), ⟨_, wNar_R (R8_num _), rfl⟩, ?_⟩
    intro x9
    intro h4
    obtain ⟨rh4_1, h4⟩ := h4
    try simp only [num_vW (n := x6.1) (by assumption)] at h4
    refine ⟨rfl, rfl, rfl, rfl, rfl, rfl, rfl, rfl, ?_⟩
    refine ⟨rfl, rfl, rfl, rfl, rfl, rfl, rfl, rfl, ?_⟩
    have hq := md_ok (d := d) (by assumption) (by assumption) (by assumption) (by assumption)
    exact fin2 (by rw [num_vI r_a, num_vI r_b, num_vI r_d]; exact hq) (by assumption) rfl

def wide_MulDivUp_C : List Value → List Slot → Ctr := fun vs hs => ⟨Int × Int, fun zx => .tuple #[vI zx.1, .int .i64 zx.2], fun _ => hs, fun zx => R4 zx.1 ∧ zx = wMulDivUp (num (varg vs 1)) (num (varg vs 2)) (num (varg vs 3))⟩
set_option maxRecDepth 100000 in
theorem wide_MulDivUp_vc (a : Int) (b : Int) (d : Int) : codeW Try.prog 44 none 2000 none (bodyOf Try.f35) (.reg [.sem [.nw 0], .sem [.nw 1], .sem [.nw 2], .sem [.nw 3], .sem []] (.reg [.sem [.rd 0, .rd 0, .rd 0, .rd 0], .sem [.rd 1, .rd 1, .rd 1, .rd 1], .callr [] wide_Product_C, .sem [.rd 2, .rd 2, .rd 2, .rd 2], .callr [] wide_Divide_C, .sem [], .sem [], .sem [], .sem [], .sem [.nw 4], .sem [.nw 5], .sem [.wr 4, .wr 4, .wr 4, .wr 4, .wr 4, .wr 4, .wr 4, .wr 4], .sem [.wr 5, .wr 5, .wr 5, .wr 5], .sem []] (.reg [.sem [], .sem []] (.cond (.reg [.sem [], .sem [], .sem [.wr 3, .wr 3, .wr 3, .wr 3], .sem []] (.done)) (.reg [.sem [.rd 4, .rd 4, .rd 4, .rd 4, .rd 4, .rd 4, .rd 4, .rd 4], .callr [] wide_narrow_C, .sem [], .sem [], .sem [], .sem [.nw 6], .sem [.wr 6, .wr 6, .wr 6, .wr 6], .sem []] (.caseP (fun s => (ci (s.fr 10)) != (0 : Int)) (.reg [.sem [], .gen [] (one (.bool true)), .sem [], .no, .no, .no, .sem []] (.condT (.reg [.sem [.rd 6, .rd 6, .rd 6, .rd 6], .sem [], .sem [.wr 3, .wr 3, .wr 3, .wr 3], .sem []] (.done)))) (.reg [.sem [], .gen [] (one (.bool false)), .sem [], .sem [.rd 5, .rd 5, .rd 5, .rd 5], .sem [], .eq (f_eq), .sem []] (.cond (.reg [.sem [.rd 6, .rd 6, .rd 6, .rd 6], .sem [], .sem [.wr 3, .wr 3, .wr 3, .wr 3], .sem []] (.done)) (.reg [.sem [.rd 6, .rd 6, .rd 6, .rd 6], .callr [] huge_Of_C, .callr [] huge_Add_C, .sem [], .sem [], .sem [.wr 3, .wr 3, .wr 3, .wr 3], .sem []] (.done))))))))))
    (init #[vI a, vI b, vI d] []) (finW Try.prog Try.f35 [.rd 3, .rd 3, .rd 3, .rd 3] [] (X := Int × Int) (fun zx => .tuple #[vI zx.1, .int .i64 zx.2]) (fun zx => []) (fun zx => (R4 zx.1 ∧ zx = wMulDivUp (num (vI a)) (num (vI b)) (num (vI d))))) =
    (∀ b1 : Nat, ∀ b2 : Nat, ∀ b3 : Nat, ∀ b4 : Nat, b1 = b1 ∧ (none : Option Nat) = none ∧ b1 = b1 ∧ (none : Option Nat) = none ∧ b1 = b1 ∧ (none : Option Nat) = none ∧ b1 = b1 ∧ (none : Option Nat) = none ∧ b2 = b2 ∧ (none : Option Nat) = none ∧ b2 = b2 ∧ (none : Option Nat) = none ∧ b2 = b2 ∧ (none : Option Nat) = none ∧ b2 = b2 ∧ (none : Option Nat) = none ∧ (CallT Try.prog 29 #[vI a, vI b] [] Int (fun zx => vW zx) (fun _ => []) (fun zx => R8 zx ∧ zx = (num (vI a)) * (num (vI b)))) ∧ (∃ zx : Int, (fun zx => R8 zx ∧ zx = (num (vI a)) * (num (vI b))) zx) ∧ ∀ x5 : Int, (R8 x5 ∧ x5 = (num (vI a)) * (num (vI b))) → b3 = b3 ∧ (none : Option Nat) = none ∧ b3 = b3 ∧ (none : Option Nat) = none ∧ b3 = b3 ∧ (none : Option Nat) = none ∧ b3 = b3 ∧ (none : Option Nat) = none ∧ (CallT Try.prog 32 #[vW x5, vI d] [] (Int × Int × Int) (fun zx => .tuple #[vW zx.1, vI zx.2.1, .int .i64 zx.2.2]) (fun _ => []) (fun zx => R8 zx.1 ∧ R4 zx.2.1 ∧ zx = wDiv (num (vW x5)) (num (vI d)))) ∧ (∃ zx : Int × Int × Int, (fun zx => R8 zx.1 ∧ R4 zx.2.1 ∧ zx = wDiv (num (vW x5)) (num (vI d))) zx) ∧ ∀ x6 : Int × Int × Int, (R8 x6.1 ∧ R4 x6.2.1 ∧ x6 = wDiv (num (vW x5)) (num (vI d))) → ∀ b7 : Nat, ∀ b8 : Nat, b7 = b7 ∧ (none : Option Nat) = none ∧ b7 = b7 ∧ (none : Option Nat) = none ∧ b7 = b7 ∧ (none : Option Nat) = none ∧ b7 = b7 ∧ (none : Option Nat) = none ∧ b7 = b7 ∧ (none : Option Nat) = none ∧ b7 = b7 ∧ (none : Option Nat) = none ∧ b7 = b7 ∧ (none : Option Nat) = none ∧ b7 = b7 ∧ (none : Option Nat) = none ∧ b8 = b8 ∧ (none : Option Nat) = none ∧ b8 = b8 ∧ (none : Option Nat) = none ∧ b8 = b8 ∧ (none : Option Nat) = none ∧ b8 = b8 ∧ (none : Option Nat) = none ∧ ((x6.2.2 != (0 : Int)) = true → b4 = b4 ∧ (none : Option Nat) = none ∧ b4 = b4 ∧ (none : Option Nat) = none ∧ b4 = b4 ∧ (none : Option Nat) = none ∧ b4 = b4 ∧ (none : Option Nat) = none ∧ b4 = b4 ∧ (none : Option Nat) = none ∧ b4 = b4 ∧ (none : Option Nat) = none ∧ b4 = b4 ∧ (none : Option Nat) = none ∧ b4 = b4 ∧ (none : Option Nat) = none ∧ ∃ zx : Int × Int, (R4 zx.1 ∧ zx = wMulDivUp (num (vI a)) (num (vI b)) (num (vI d))) ∧ Value.tuple #[.agg #[.int .u64 0, .int .u64 0, .int .u64 0, .int .u64 0], .int .i64 x6.2.2] = .tuple #[vI zx.1, .int .i64 zx.2] ∧ True) ∧ ((x6.2.2 != (0 : Int)) = false → b7 = b7 ∧ (none : Option Nat) = none ∧ b7 = b7 ∧ (none : Option Nat) = none ∧ b7 = b7 ∧ (none : Option Nat) = none ∧ b7 = b7 ∧ (none : Option Nat) = none ∧ b7 = b7 ∧ (none : Option Nat) = none ∧ b7 = b7 ∧ (none : Option Nat) = none ∧ b7 = b7 ∧ (none : Option Nat) = none ∧ b7 = b7 ∧ (none : Option Nat) = none ∧ (CallT Try.prog 81 #[vW x6.1] [] (Int × Int) (fun zx => .tuple #[vI zx.1, .int .i64 zx.2]) (fun _ => []) (fun zx => R4 zx.1 ∧ zx = wNar (num (vW x6.1)))) ∧ (∃ zx : Int × Int, (fun zx => R4 zx.1 ∧ zx = wNar (num (vW x6.1))) zx) ∧ ∀ x9 : Int × Int, (R4 x9.1 ∧ x9 = wNar (num (vW x6.1))) → ∀ b10 : Nat, b10 = b10 ∧ (none : Option Nat) = none ∧ b10 = b10 ∧ (none : Option Nat) = none ∧ b10 = b10 ∧ (none : Option Nat) = none ∧ b10 = b10 ∧ (none : Option Nat) = none ∧ ((x9.2 != (0 : Int)) = true → (∃ _ : Unit, True ∧ Value.bool (x9.2 != (0 : Int)) = .bool true) ∧ ∀ _ : Unit, (True) → true = !false ∧ true = !false ∧ true = !false ∧ (true = true) ∧ b10 = b10 ∧ (none : Option Nat) = none ∧ b10 = b10 ∧ (none : Option Nat) = none ∧ b10 = b10 ∧ (none : Option Nat) = none ∧ b10 = b10 ∧ (none : Option Nat) = none ∧ b4 = b4 ∧ (none : Option Nat) = none ∧ b4 = b4 ∧ (none : Option Nat) = none ∧ b4 = b4 ∧ (none : Option Nat) = none ∧ b4 = b4 ∧ (none : Option Nat) = none ∧ b4 = b4 ∧ (none : Option Nat) = none ∧ b4 = b4 ∧ (none : Option Nat) = none ∧ b4 = b4 ∧ (none : Option Nat) = none ∧ b4 = b4 ∧ (none : Option Nat) = none ∧ ∃ zx : Int × Int, (R4 zx.1 ∧ zx = wMulDivUp (num (vI a)) (num (vI b)) (num (vI d))) ∧ Value.tuple #[vI x9.1, .int .i64 x9.2] = .tuple #[vI zx.1, .int .i64 zx.2] ∧ True) ∧ ((x9.2 != (0 : Int)) = false → (∃ _ : Unit, True ∧ Value.bool (x9.2 != (0 : Int)) = .bool false) ∧ ∀ _ : Unit, (True) → false = false ∧ b8 = b8 ∧ (none : Option Nat) = none ∧ b8 = b8 ∧ (none : Option Nat) = none ∧ b8 = b8 ∧ (none : Option Nat) = none ∧ b8 = b8 ∧ (none : Option Nat) = none ∧ false = false ∧ false = false ∧ (PureRun Try.prog (xBin .eql 44 (vI x6.2.1) (vI 0)) (.bool (num (vI x6.2.1) == num (vI 0)))) ∧ ((num (vI x6.2.1) == num (vI 0)) = true → b10 = b10 ∧ (none : Option Nat) = none ∧ b10 = b10 ∧ (none : Option Nat) = none ∧ b10 = b10 ∧ (none : Option Nat) = none ∧ b10 = b10 ∧ (none : Option Nat) = none ∧ b4 = b4 ∧ (none : Option Nat) = none ∧ b4 = b4 ∧ (none : Option Nat) = none ∧ b4 = b4 ∧ (none : Option Nat) = none ∧ b4 = b4 ∧ (none : Option Nat) = none ∧ b4 = b4 ∧ (none : Option Nat) = none ∧ b4 = b4 ∧ (none : Option Nat) = none ∧ b4 = b4 ∧ (none : Option Nat) = none ∧ b4 = b4 ∧ (none : Option Nat) = none ∧ ∃ zx : Int × Int, (R4 zx.1 ∧ zx = wMulDivUp (num (vI a)) (num (vI b)) (num (vI d))) ∧ Value.tuple #[vI x9.1, .int .i64 x9.2] = .tuple #[vI zx.1, .int .i64 zx.2] ∧ True) ∧ ((num (vI x6.2.1) == num (vI 0)) = false → b10 = b10 ∧ (none : Option Nat) = none ∧ b10 = b10 ∧ (none : Option Nat) = none ∧ b10 = b10 ∧ (none : Option Nat) = none ∧ b10 = b10 ∧ (none : Option Nat) = none ∧ (CallT Try.prog 75 #[.int .u64 1] [] Unit (fun _ => vI (1 : Int)) (fun _ => []) (fun _ => True)) ∧ (∃ zx : Unit, (fun _ => True) zx) ∧ ∀ _ : Unit, (True) → (CallT Try.prog 47 #[vI x9.1, vI (1 : Int)] [] (Int × Int) (fun zx => .tuple #[vI zx.1, .int .i64 zx.2]) (fun _ => []) (fun zx => R4 zx.1 ∧ zx = hAdd (num (vI x9.1)) (num (vI (1 : Int))))) ∧ (∃ zx : Int × Int, (fun zx => R4 zx.1 ∧ zx = hAdd (num (vI x9.1)) (num (vI (1 : Int)))) zx) ∧ ∀ x11 : Int × Int, (R4 x11.1 ∧ x11 = hAdd (num (vI x9.1)) (num (vI (1 : Int)))) → b4 = b4 ∧ (none : Option Nat) = none ∧ b4 = b4 ∧ (none : Option Nat) = none ∧ b4 = b4 ∧ (none : Option Nat) = none ∧ b4 = b4 ∧ (none : Option Nat) = none ∧ b4 = b4 ∧ (none : Option Nat) = none ∧ b4 = b4 ∧ (none : Option Nat) = none ∧ b4 = b4 ∧ (none : Option Nat) = none ∧ b4 = b4 ∧ (none : Option Nat) = none ∧ ∃ zx : Int × Int, (R4 zx.1 ∧ zx = wMulDivUp (num (vI a)) (num (vI b)) (num (vI d))) ∧ Value.tuple #[vI x11.1, .int .i64 x11.2] = .tuple #[vI zx.1, .int .i64 zx.2] ∧ True)))) := by kernel_rfl
set_option maxRecDepth 100000 in
theorem wide_MulDivUp (a : Int) (b : Int) (d : Int) (r_a : R4 a) (r_b : R4 b) (r_d : R4 d) : CallT Try.prog 35 #[vI a, vI b, vI d] [] (Int × Int) (fun zx => .tuple #[vI zx.1, .int .i64 zx.2]) (fun zx => []) (fun zx => (R4 zx.1 ∧ zx = wMulDivUp (num (vI a)) (num (vI b)) (num (vI d)))) := by
  refine call_of (c := bodyOf Try.f35) (n := 44) (fn := Try.f35) Try.mixed Try.func35 (by kernel_rfl) (by kernel_rfl) (by kernel_rfl) 2000 _ [.rd 3, .rd 3, .rd 3, .rd 3] [] rfl rfl (Eq.mpr (wide_MulDivUp_vc a b d) ?_)
  intro b1
  intro b2
  intro b3
  intro b4
  refine ⟨rfl, rfl, rfl, rfl, rfl, rfl, rfl, rfl, rfl, rfl, rfl, rfl, rfl, rfl, rfl, rfl, wide_Product a b (by assumption) (by assumption), ⟨_, prod_R (R4_num a) (R4_num b), rfl⟩, ?_⟩
  intro x5
  intro h1
  obtain ⟨rh1_, h1⟩ := h1
  try simp only [num_vI (n := a) (by assumption), num_vI (n := b) (by assumption)] at h1
  refine ⟨rfl, rfl, rfl, rfl, rfl, rfl, rfl, rfl, wide_Divide x5 d (by assumption) (by assumption), ⟨wDiv _ _, wDiv_R8 (by first | exact R8_num _ | exact by assumption) (R4_num _), wDiv_R4 (R4_num _), rfl⟩, ?_⟩
  intro x6
  intro h2
  obtain ⟨rh2_1, h2⟩ := h2
  obtain ⟨rh2_21, h2⟩ := h2
  try simp only [num_vW (n := x5) (by assumption), num_vI (n := d) (by assumption)] at h2
  intro b7
  intro b8
  refine ⟨rfl, rfl, rfl, rfl, rfl, rfl, rfl, rfl, rfl, rfl, rfl, rfl, rfl, rfl, rfl, rfl, rfl, rfl, rfl, rfl, rfl, rfl, rfl, rfl, ?_⟩
  refine ⟨fun h3 => ?_, fun h3 => ?_⟩
  · refine ⟨rfl, rfl, rfl, rfl, rfl, rfl, rfl, rfl, ?_⟩
    refine ⟨rfl, rfl, rfl, rfl, rfl, rfl, rfl, rfl, ?_⟩
    have hq := (md_err (d := d) (by assumption) (by assumption) (by assumption)).2
    exact fin2 (by rw [num_vI r_a, num_vI r_b, num_vI r_d]; exact hq) R4_zero vI_zero
  · refine ⟨rfl, rfl, rfl, rfl, rfl, rfl, rfl, rfl, rfl, rfl, rfl, rfl, rfl, rfl, rfl, rfl, wide_narrow x6.1 (by assumption), ⟨_, wNar_R (R8_num _), rfl⟩, ?_⟩
    intro x9
    intro h4
    obtain ⟨rh4_1, h4⟩ := h4
    try simp only [num_vW (n := x6.1) (by assumption)] at h4
    intro b10
    refine ⟨rfl, rfl, rfl, rfl, rfl, rfl, rfl, rfl, ?_⟩
    refine ⟨fun h5 => ?_, fun h5 => ?_⟩
    · refine ⟨⟨(), trivial, congrArg Value.bool h5⟩, ?_⟩
      intro _
      intro _
      refine ⟨rfl, rfl, rfl, ?_⟩
      refine ⟨rfl, ?_⟩
      refine ⟨rfl, rfl, rfl, rfl, rfl, rfl, rfl, rfl, rfl, rfl, rfl, rfl, rfl, rfl, rfl, rfl, ?_⟩
      refine ⟨rfl, rfl, rfl, rfl, rfl, rfl, rfl, rfl, ?_⟩
      have hq := mu_err (d := d) (by assumption) (by assumption) (by assumption) (by assumption) (by first | exact .inl (by assumption) | exact .inr (eqz (by assumption) (by assumption)))
      exact fin2 (by rw [num_vI r_a, num_vI r_b, num_vI r_d]; exact hq) (by assumption) rfl
    · refine ⟨⟨(), trivial, congrArg Value.bool h5⟩, ?_⟩
      intro _
      intro _
      refine ⟨rfl, rfl, rfl, rfl, rfl, rfl, rfl, rfl, rfl, rfl, rfl, Try.xeq44 x6.2.1 0, ?_⟩
      refine ⟨fun h6 => ?_, fun h6 => ?_⟩
      · refine ⟨rfl, rfl, rfl, rfl, rfl, rfl, rfl, rfl, rfl, rfl, rfl, rfl, rfl, rfl, rfl, rfl, ?_⟩
        refine ⟨rfl, rfl, rfl, rfl, rfl, rfl, rfl, rfl, ?_⟩
        have hq := mu_err (d := d) (by assumption) (by assumption) (by assumption) (by assumption) (by first | exact .inl (by assumption) | exact .inr (eqz (by assumption) (by assumption)))
        exact fin2 (by rw [num_vI r_a, num_vI r_b, num_vI r_d]; exact hq) (by assumption) rfl
      · refine ⟨rfl, rfl, rfl, rfl, rfl, rfl, rfl, rfl, huge_Of (1 : Int) (by first | assumption | exact W_lim _ _ | (unfold W; decide)), ⟨(), trivial⟩, ?_⟩
        intro _
        intro _
        refine ⟨huge_Add x9.1 (1 : Int) (by assumption) (by unfold R4; decide), ⟨hAdd (num (vI x9.1)) (num (vI (1 : Int))), hAdd_R (R4_num _) (R4_num _), rfl⟩, ?_⟩
        intro x11
        intro h7
        obtain ⟨rh7_1, h7⟩ := h7
        try simp only [num_vI (n := x9.1) (by assumption), num_vI (n := (1 : Int)) (by unfold R4; decide)] at h7
        refine ⟨rfl, rfl, rfl, rfl, rfl, rfl, rfl, rfl, ?_⟩
        refine ⟨rfl, rfl, rfl, rfl, rfl, rfl, rfl, rfl, ?_⟩
        have hq := mu_ok (d := d) (by assumption) (by assumption) (by assumption) (by assumption) (by assumption) (eqz (by assumption) (by assumption)) (by assumption)
        exact fin2 (by rw [num_vI r_a, num_vI r_b, num_vI r_d]; exact hq) (by assumption) rfl

end Go.Proofs
