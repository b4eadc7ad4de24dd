/- Contracts of this program's functions, and their proofs, printed by a program of the prover's own (see the claim's other texts for what the words mean). -/
import Derived.Test.YtohkmdnelbajiaaSxB21
import Derived.Test.YtohkmdnelbajiaaC10
set_option linter.unusedVariables false
set_option linter.unusedSimpArgs false
namespace Go.Proofs
open Go.Sx
def law3_WideBack_C : List Value → List Slot → Ctr := fun vs hs => ⟨Unit, fun _ => .bool true, fun _ => hs, fun _ => True⟩
set_option maxRecDepth 100000 in
theorem law3_WideBack_vc (a : Int) (b : Int) : codeW Try.prog 105 none 2000 none (bodyOf Try.f9) (.reg [.sem [.nw 0], .sem [.nw 1], .sem []] (.reg [.callr [] law3_lives_C, .sem []] (.condF (.reg [.sem [], .sem [.nw 2], .sem [.wr 2, .wr 2, .wr 2, .wr 2]] (.reg [.sem [.rd 0, .rd 0, .rd 0, .rd 0], .sem [.rd 1, .rd 1, .rd 1, .rd 1], .callr [] wide_Div_C, .sem [], .sem [], .sem [], .sem [], .sem [.nw 3], .sem [.nw 4], .sem [.wr 3, .wr 3, .wr 3, .wr 3], .sem [.wr 4, .wr 4, .wr 4, .wr 4], .sem []] (.reg [.sem [.rd 1, .rd 1, .rd 1, .rd 1], .sem [.rd 2, .rd 2, .rd 2, .rd 2], .eq (f_eq)] (.cond (.reg [.sem [], .gen [] (one (.bool true)), .sem [], .sem [.rd 3, .rd 3, .rd 3, .rd 3], .sem [.rd 2, .rd 2, .rd 2, .rd 2], .specr [] (fun _ hs => ⟨Unit, fun _ => .bool true, fun _ => hs, fun _ => True⟩), .sem [], .sem [], .sem [.rd 4, .rd 4, .rd 4, .rd 4], .sem [.rd 2, .rd 2, .rd 2, .rd 2], .specr [] (fun _ hs => ⟨Unit, fun _ => .bool true, fun _ => hs, fun _ => True⟩), .sem [], .sem []] (.done)) (.reg [.sem [.rd 0, .rd 0, .rd 0, .rd 0], .sem [.rd 1, .rd 1, .rd 1, .rd 1], .sem [.rd 1, .rd 1, .rd 1, .rd 1], .callr [] wide_MulDiv_C, .sem [], .sem [], .sem [], .sem [.nw 5], .sem [.wr 5, .wr 5, .wr 5, .wr 5], .sem []] (.reg [.sem [.rd 0, .rd 0, .rd 0, .rd 0], .sem [.rd 1, .rd 1, .rd 1, .rd 1], .sem [.rd 1, .rd 1, .rd 1, .rd 1], .callr [] wide_MulDivUp_C, .sem [], .sem [], .sem [], .sem [.nw 6], .sem [.wr 6, .wr 6, .wr 6, .wr 6], .sem []] (.reg [.sem [], .gen [] (one (.bool false)), .sem [], .sem [], .gen [] (one (.bool false)), .sem [], .sem [], .sem [.rd 5, .rd 5, .rd 5, .rd 5], .sem [.rd 0, .rd 0, .rd 0, .rd 0], .specr [] (fun _ hs => ⟨Unit, fun _ => .bool false, fun _ => hs, fun _ => True⟩), .sem [], .sem [], .sem [.rd 6, .rd 6, .rd 6, .rd 6], .sem [.rd 0, .rd 0, .rd 0, .rd 0], .specr [] (fun _ hs => ⟨Unit, fun _ => .bool false, fun _ => hs, fun _ => True⟩), .sem []] (.condF (.reg [.sem [.rd 3, .rd 3, .rd 3, .rd 3], .sem [.rd 1, .rd 1, .rd 1, .rd 1], .callr [] huge_Mul_C, .sem [], .sem [], .sem [], .sem [.nw 7], .sem [.wr 7, .wr 7, .wr 7, .wr 7], .sem []] (.reg [.sem [.rd 7, .rd 7, .rd 7, .rd 7], .sem [.rd 4, .rd 4, .rd 4, .rd 4], .callr [] huge_Add_C, .sem [], .sem [], .sem [], .sem [.nw 8], .sem [.wr 8, .wr 8, .wr 8, .wr 8], .sem []] (.reg [.sem [], .gen [] (one (.bool true)), .sem [], .sem [], .gen [] (one (.bool true)), .sem [], .sem [], .sem [], .gen [] (one (.bool true)), .sem [], .sem [], .sem [.rd 8, .rd 8, .rd 8, .rd 8], .sem [.rd 0, .rd 0, .rd 0, .rd 0], .specr [] (fun _ hs => ⟨Unit, fun _ => .bool true, fun _ => hs, fun _ => True⟩), .sem [], .sem [], .sem [.rd 4, .rd 4, .rd 4, .rd 4], .sem [.rd 1, .rd 1, .rd 1, .rd 1], .callr [] huge_Cmp_C, .gen [] (one (.bool true)), .sem [], .sem []] (.done)))))))))))))))
    (init #[vI a, vI b] []) (finW Try.prog Try.f9 [] [] (X := Unit) (fun _ => .bool true) (fun _ => []) (fun _ => True)) =
    (∀ b1 : Nat, ∀ b2 : Nat, (CallT Try.prog 28 #[] [] Unit (fun _ => .bool true) (fun _ => []) (fun _ => True)) ∧ (∃ zx : Unit, (fun _ => True) zx) ∧ ∀ _ : Unit, (True) → (false = false) ∧ ∀ b3 : Nat, b3 = b3 ∧ (none : Option Nat) = none ∧ b3 = b3 ∧ (none : Option Nat) = none ∧ b3 = b3 ∧ (none : Option Nat) = none ∧ b3 = b3 ∧ (none : Option Nat) = none ∧ b1 = b1 ∧ (none : Option Nat) = none ∧ b1 = b1 ∧ (none : Option Nat) = none ∧ b1 = b1 ∧ (none : Option Nat) = none ∧ b1 = b1 ∧ (none : Option Nat) = none ∧ b2 = b2 ∧ (none : Option Nat) = none ∧ b2 = b2 ∧ (none : Option Nat) = none ∧ b2 = b2 ∧ (none : Option Nat) = none ∧ b2 = b2 ∧ (none : Option Nat) = none ∧ (CallT Try.prog 45 #[vI a, vI b] [] (Int × Int × Int) (fun zx => .tuple #[vI zx.1, vI zx.2.1, .int .i64 zx.2.2]) (fun _ => []) (fun zx => R4 zx.1 ∧ R4 zx.2.1 ∧ zx = wDiv (num (vI a)) (num (vI b)))) ∧ (∃ zx : Int × Int × Int, (fun zx => R4 zx.1 ∧ R4 zx.2.1 ∧ zx = wDiv (num (vI a)) (num (vI b))) zx) ∧ ∀ x4 : Int × Int × Int, (R4 x4.1 ∧ R4 x4.2.1 ∧ x4 = wDiv (num (vI a)) (num (vI b))) → ∀ b5 : Nat, ∀ b6 : Nat, b5 = b5 ∧ (none : Option Nat) = none ∧ b5 = b5 ∧ (none : Option Nat) = none ∧ b5 = b5 ∧ (none : Option Nat) = none ∧ b5 = b5 ∧ (none : Option Nat) = none ∧ b6 = b6 ∧ (none : Option Nat) = none ∧ b6 = b6 ∧ (none : Option Nat) = none ∧ b6 = b6 ∧ (none : Option Nat) = none ∧ b6 = b6 ∧ (none : Option Nat) = none ∧ b2 = b2 ∧ (none : Option Nat) = none ∧ b2 = b2 ∧ (none : Option Nat) = none ∧ b2 = b2 ∧ (none : Option Nat) = none ∧ b2 = b2 ∧ (none : Option Nat) = none ∧ b3 = b3 ∧ (none : Option Nat) = none ∧ b3 = b3 ∧ (none : Option Nat) = none ∧ b3 = b3 ∧ (none : Option Nat) = none ∧ b3 = b3 ∧ (none : Option Nat) = none ∧ (PureRun Try.prog (xBin .eql 44 (vI b) (vI 0)) (.bool (num (vI b) == num (vI 0)))) ∧ ((num (vI b) == num (vI 0)) = true → (∃ _ : Unit, True ∧ Value.bool (x4.2.2 == (3 : Int)) = .bool true) ∧ ∀ _ : Unit, (True) → true = true ∧ b5 = b5 ∧ (none : Option Nat) = none ∧ b5 = b5 ∧ (none : Option Nat) = none ∧ b5 = b5 ∧ (none : Option Nat) = none ∧ b5 = b5 ∧ (none : Option Nat) = none ∧ true = true ∧ b3 = b3 ∧ (none : Option Nat) = none ∧ b3 = b3 ∧ (none : Option Nat) = none ∧ b3 = b3 ∧ (none : Option Nat) = none ∧ b3 = b3 ∧ (none : Option Nat) = none ∧ true = true ∧ (OpT Try.prog (xBin .eql 44 (vI x4.1) (vI 0)) [] Unit (fun _ => .bool true) (fun _ => []) (fun _ => True)) ∧ (∃ zx : Unit, (fun _ => True) zx) ∧ ∀ _ : Unit, (True) → true = true ∧ b6 = b6 ∧ (none : Option Nat) = none ∧ b6 = b6 ∧ (none : Option Nat) = none ∧ b6 = b6 ∧ (none : Option Nat) = none ∧ b6 = b6 ∧ (none : Option Nat) = none ∧ true = true ∧ b3 = b3 ∧ (none : Option Nat) = none ∧ b3 = b3 ∧ (none : Option Nat) = none ∧ b3 = b3 ∧ (none : Option Nat) = none ∧ b3 = b3 ∧ (none : Option Nat) = none ∧ true = true ∧ (OpT Try.prog (xBin .eql 44 (vI x4.2.1) (vI 0)) [] Unit (fun _ => .bool true) (fun _ => []) (fun _ => True)) ∧ (∃ zx : Unit, (fun _ => True) zx) ∧ ∀ _ : Unit, (True) → ∃ _ : Unit, (True) ∧ Value.bool true = .bool true ∧ True) ∧ ((num (vI b) == num (vI 0)) = false → b1 = b1 ∧ (none : Option Nat) = none ∧ b1 = b1 ∧ (none : Option Nat) = none ∧ b1 = b1 ∧ (none : Option Nat) = none ∧ b1 = b1 ∧ (none : Option Nat) = none ∧ b2 = b2 ∧ (none : Option Nat) = none ∧ b2 = b2 ∧ (none : Option Nat) = none ∧ b2 = b2 ∧ (none : Option Nat) = none ∧ b2 = b2 ∧ (none : Option Nat) = none ∧ b2 = b2 ∧ (none : Option Nat) = none ∧ b2 = b2 ∧ (none : Option Nat) = none ∧ b2 = b2 ∧ (none : Option Nat) = none ∧ b2 = b2 ∧ (none : Option Nat) = none ∧ (CallT Try.prog 34 #[vI a, vI b, vI b] [] (Int × Int) (fun zx => .tuple #[vI zx.1, .int .i64 zx.2]) (fun _ => []) (fun zx => R4 zx.1 ∧ zx = wMulDiv (num (vI a)) (num (vI b)) (num (vI b)))) ∧ (∃ zx : Int × Int, (fun zx => R4 zx.1 ∧ zx = wMulDiv (num (vI a)) (num (vI b)) (num (vI b))) zx) ∧ ∀ x7 : Int × Int, (R4 x7.1 ∧ x7 = wMulDiv (num (vI a)) (num (vI b)) (num (vI b))) → ∀ b8 : Nat, b8 = b8 ∧ (none : Option Nat) = none ∧ b8 = b8 ∧ (none : Option Nat) = none ∧ b8 = b8 ∧ (none : Option Nat) = none ∧ b8 = b8 ∧ (none : Option Nat) = none ∧ b1 = b1 ∧ (none : Option Nat) = none ∧ b1 = b1 ∧ (none : Option Nat) = none ∧ b1 = b1 ∧ (none : Option Nat) = none ∧ b1 = b1 ∧ (none : Option Nat) = none ∧ b2 = b2 ∧ (none : Option Nat) = none ∧ b2 = b2 ∧ (none : Option Nat) = none ∧ b2 = b2 ∧ (none : Option Nat) = none ∧ b2 = b2 ∧ (none : Option Nat) = none ∧ b2 = b2 ∧ (none : Option Nat) = none ∧ b2 = b2 ∧ (none : Option Nat) = none ∧ b2 = b2 ∧ (none : Option Nat) = none ∧ b2 = b2 ∧ (none : Option Nat) = none ∧ (CallT Try.prog 35 #[vI a, vI b, vI b] [] (Int × Int) (fun zx => .tuple #[vI zx.1, .int .i64 zx.2]) (fun _ => []) (fun zx => R4 zx.1 ∧ zx = wMulDivUp (num (vI a)) (num (vI b)) (num (vI b)))) ∧ (∃ zx : Int × Int, (fun zx => R4 zx.1 ∧ zx = wMulDivUp (num (vI a)) (num (vI b)) (num (vI b))) zx) ∧ ∀ x9 : Int × Int, (R4 x9.1 ∧ x9 = wMulDivUp (num (vI a)) (num (vI b)) (num (vI b))) → ∀ b10 : Nat, b10 = b10 ∧ (none : Option Nat) = none ∧ b10 = b10 ∧ (none : Option Nat) = none ∧ b10 = b10 ∧ (none : Option Nat) = none ∧ b10 = b10 ∧ (none : Option Nat) = none ∧ (∃ _ : Unit, True ∧ Value.bool (x7.2 != (0 : Int)) = .bool false) ∧ ∀ _ : Unit, (True) → false = false ∧ false = false ∧ (∃ _ : Unit, True ∧ Value.bool (x9.2 != (0 : Int)) = .bool false) ∧ ∀ _ : Unit, (True) → false = false ∧ b8 = b8 ∧ (none : Option Nat) = none ∧ b8 = b8 ∧ (none : Option Nat) = none ∧ b8 = b8 ∧ (none : Option Nat) = none ∧ b8 = b8 ∧ (none : Option Nat) = none ∧ false = false ∧ b1 = b1 ∧ (none : Option Nat) = none ∧ b1 = b1 ∧ (none : Option Nat) = none ∧ b1 = b1 ∧ (none : Option Nat) = none ∧ b1 = b1 ∧ (none : Option Nat) = none ∧ false = false ∧ (OpT Try.prog (xBin .neq 44 (vI x7.1) (vI a)) [] Unit (fun _ => .bool false) (fun _ => []) (fun _ => True)) ∧ (∃ zx : Unit, (fun _ => True) zx) ∧ ∀ _ : Unit, (True) → false = false ∧ b10 = b10 ∧ (none : Option Nat) = none ∧ b10 = b10 ∧ (none : Option Nat) = none ∧ b10 = b10 ∧ (none : Option Nat) = none ∧ b10 = b10 ∧ (none : Option Nat) = none ∧ false = false ∧ b1 = b1 ∧ (none : Option Nat) = none ∧ b1 = b1 ∧ (none : Option Nat) = none ∧ b1 = b1 ∧ (none : Option Nat) = none ∧ b1 = b1 ∧ (none : Option Nat) = none ∧ false = false ∧ (OpT Try.prog (xBin .neq 44 (vI x9.1) (vI a)) [] Unit (fun _ => .bool false) (fun _ => []) (fun _ => True)) ∧ (∃ zx : Unit, (fun _ => True) zx) ∧ ∀ _ : Unit, (True) → (false = false) ∧ b5 = b5 ∧ (none : Option Nat) = none ∧ b5 = b5 ∧ (none : Option Nat) = none ∧ b5 = b5 ∧ (none : Option Nat) = none ∧ b5 = b5 ∧ (none : Option Nat) = none ∧ b2 = b2 ∧ (none : Option Nat) = none ∧ b2 = b2 ∧ (none : Option Nat) = none ∧ b2 = b2 ∧ (none : Option Nat) = none ∧ b2 = b2 ∧ (none : Option Nat) = none ∧ (CallT Try.prog 46 #[vI x4.1, vI b] [] (Int × Int) (fun zx => .tuple #[vI zx.1, .int .i64 zx.2]) (fun _ => []) (fun zx => R4 zx.1 ∧ zx = hMul (num (vI x4.1)) (num (vI b)))) ∧ (∃ zx : Int × Int, (fun zx => R4 zx.1 ∧ zx = hMul (num (vI x4.1)) (num (vI b))) zx) ∧ ∀ x11 : Int × Int, (R4 x11.1 ∧ x11 = hMul (num (vI x4.1)) (num (vI b))) → ∀ b12 : Nat, b12 = b12 ∧ (none : Option Nat) = none ∧ b12 = b12 ∧ (none : Option Nat) = none ∧ b12 = b12 ∧ (none : Option Nat) = none ∧ b12 = b12 ∧ (none : Option Nat) = none ∧ b12 = b12 ∧ (none : Option Nat) = none ∧ b12 = b12 ∧ (none : Option Nat) = none ∧ b12 = b12 ∧ (none : Option Nat) = none ∧ b12 = b12 ∧ (none : Option Nat) = none ∧ b6 = b6 ∧ (none : Option Nat) = none ∧ b6 = b6 ∧ (none : Option Nat) = none ∧ b6 = b6 ∧ (none : Option Nat) = none ∧ b6 = b6 ∧ (none : Option Nat) = none ∧ (CallT Try.prog 47 #[vI x11.1, vI x4.2.1] [] (Int × Int) (fun zx => .tuple #[vI zx.1, .int .i64 zx.2]) (fun _ => []) (fun zx => R4 zx.1 ∧ zx = hAdd (num (vI x11.1)) (num (vI x4.2.1)))) ∧ (∃ zx : Int × Int, (fun zx => R4 zx.1 ∧ zx = hAdd (num (vI x11.1)) (num (vI x4.2.1))) zx) ∧ ∀ x13 : Int × Int, (R4 x13.1 ∧ x13 = hAdd (num (vI x11.1)) (num (vI x4.2.1))) → ∀ b14 : Nat, b14 = b14 ∧ (none : Option Nat) = none ∧ b14 = b14 ∧ (none : Option Nat) = none ∧ b14 = b14 ∧ (none : Option Nat) = none ∧ b14 = b14 ∧ (none : Option Nat) = none ∧ (∃ _ : Unit, True ∧ Value.bool (x4.2.2 == (0 : Int)) = .bool true) ∧ ∀ _ : Unit, (True) → true = true ∧ true = true ∧ (∃ _ : Unit, True ∧ Value.bool (x11.2 == (0 : Int)) = .bool true) ∧ ∀ _ : Unit, (True) → true = true ∧ true = true ∧ (∃ _ : Unit, True ∧ Value.bool (x13.2 == (0 : Int)) = .bool true) ∧ ∀ _ : Unit, (True) → true = true ∧ b14 = b14 ∧ (none : Option Nat) = none ∧ b14 = b14 ∧ (none : Option Nat) = none ∧ b14 = b14 ∧ (none : Option Nat) = none ∧ b14 = b14 ∧ (none : Option Nat) = none ∧ true = true ∧ b1 = b1 ∧ (none : Option Nat) = none ∧ b1 = b1 ∧ (none : Option Nat) = none ∧ b1 = b1 ∧ (none : Option Nat) = none ∧ b1 = b1 ∧ (none : Option Nat) = none ∧ true = true ∧ (OpT Try.prog (xBin .eql 44 (vI x13.1) (vI a)) [] Unit (fun _ => .bool true) (fun _ => []) (fun _ => True)) ∧ (∃ zx : Unit, (fun _ => True) zx) ∧ ∀ _ : Unit, (True) → true = true ∧ b6 = b6 ∧ (none : Option Nat) = none ∧ b6 = b6 ∧ (none : Option Nat) = none ∧ b6 = b6 ∧ (none : Option Nat) = none ∧ b6 = b6 ∧ (none : Option Nat) = none ∧ true = true ∧ b2 = b2 ∧ (none : Option Nat) = none ∧ b2 = b2 ∧ (none : Option Nat) = none ∧ b2 = b2 ∧ (none : Option Nat) = none ∧ b2 = b2 ∧ (none : Option Nat) = none ∧ true = true ∧ (CallT Try.prog 48 #[vI x4.2.1, vI b] [] Unit (fun _ => .int .i64 (hCmp (num (vI x4.2.1)) (num (vI b)))) (fun _ => []) (fun _ => True)) ∧ (∃ zx : Unit, (fun _ => True) zx) ∧ ∀ _ : Unit, (True) → true = true ∧ (∃ _ : Unit, True ∧ Value.bool (decide ((hCmp (num (vI x4.2.1)) (num (vI b))) < (0 : Int))) = .bool true) ∧ ∀ _ : Unit, (True) → ∃ _ : Unit, (True) ∧ Value.bool true = .bool true ∧ True)) := by kernel_rfl
set_option maxRecDepth 100000 in
theorem law3_WideBack (a : Int) (b : Int) (r_a : R4 a) (r_b : R4 b) : CallT Try.prog 9 #[vI a, vI b] [] Unit (fun _ => .bool true) (fun _ => []) (fun _ => True) := by
  refine call_of (c := bodyOf Try.f9) (n := 105) (fn := Try.f9) Try.mixed Try.func9 (by kernel_rfl) (by kernel_rfl) (by kernel_rfl) 2000 _ [] [] rfl rfl (Eq.mpr (law3_WideBack_vc a b) ?_)
  intro b1
  intro b2
  refine ⟨law3_lives, ⟨(), trivial⟩, ?_⟩
  intro _
  intro _
  refine ⟨rfl, ?_⟩
  intro b3
  refine ⟨rfl, rfl, rfl, rfl, rfl, rfl, rfl, rfl, ?_⟩
  refine ⟨rfl, rfl, rfl, rfl, rfl, rfl, rfl, rfl, rfl, rfl, rfl, rfl, rfl, rfl, rfl, rfl, wide_Div a b (by assumption) (by assumption), ⟨_, wDiv_R (R4_num _) (R4_num _), wDiv_R4 (R4_num _), rfl⟩, ?_⟩
  intro x4
  intro h1
  obtain ⟨rh1_1, h1⟩ := h1
  obtain ⟨rh1_21, h1⟩ := h1
  try simp only [num_vI (n := a) (by assumption), num_vI (n := b) (by assumption)] at h1
  have h1 := h1
  intro b5
  intro b6
  refine ⟨rfl, rfl, rfl, rfl, rfl, rfl, rfl, rfl, rfl, rfl, rfl, rfl, rfl, rfl, rfl, rfl, ?_⟩
  refine ⟨rfl, rfl, rfl, rfl, rfl, rfl, rfl, rfl, rfl, rfl, rfl, rfl, rfl, rfl, rfl, rfl, Try.xeq44 b 0, ?_⟩
  refine ⟨fun h2 => ?_, fun h2 => ?_⟩
  · have hz : b = 0 := beq_iff_eq.1 (eqz r_b (by assumption))
    rw [hz] at h1
    have hw := h1.trans (show wDiv a 0 = (0, 0, 3) from rfl)
    refine ⟨⟨(), trivial, congrArg Value.bool (by rw [hw]; rfl)⟩, ?_⟩
    intro _
    intro _
    refine ⟨rfl, rfl, rfl, rfl, rfl, rfl, rfl, rfl, rfl, rfl, rfl, rfl, rfl, rfl, rfl, rfl, rfl, rfl, rfl, OpT.ofPure (Try.xeq44 x4.1 0) (congrArg Value.bool ((by rw [hw]; exact beq_self_eq_true _))), ⟨(), trivial⟩, ?_⟩
    intro _
    intro _
    refine ⟨rfl, rfl, rfl, rfl, rfl, rfl, rfl, rfl, rfl, rfl, rfl, rfl, rfl, rfl, rfl, rfl, rfl, rfl, rfl, OpT.ofPure (Try.xeq44 x4.2.1 0) (congrArg Value.bool ((by rw [hw]; exact beq_self_eq_true _))), ⟨(), trivial⟩, ?_⟩
    intro _
    intro _
    exact ⟨(), trivial, rfl, trivial⟩
  · have hnz : ¬ b = 0 := ne_of_beq_false (eqz r_b (by assumption))
    have bpos : 0 < b := by have := r_b.1; omega
    have hw := h1.trans (if_neg hnz)
    refine ⟨rfl, rfl, rfl, rfl, rfl, rfl, rfl, rfl, rfl, rfl, rfl, rfl, rfl, rfl, rfl, rfl, rfl, rfl, rfl, rfl, rfl, rfl, rfl, rfl, wide_MulDiv a b b (by assumption) (by assumption) (by assumption), ⟨_, wMulDiv_R (R4_num _) (R4_num _) (R4_num _), rfl⟩, ?_⟩
    intro x7
    intro h3
    obtain ⟨rh3_1, h3⟩ := h3
    try simp only [num_vI (n := a) (by assumption), num_vI (n := b) (by assumption), num_vI (n := b) (by assumption)] at h3
    have h2 := h3
    intro b8
    refine ⟨rfl, rfl, rfl, rfl, rfl, rfl, rfl, rfl, ?_⟩
    refine ⟨rfl, rfl, rfl, rfl, rfl, rfl, rfl, rfl, rfl, rfl, rfl, rfl, rfl, rfl, rfl, rfl, rfl, rfl, rfl, rfl, rfl, rfl, rfl, rfl, wide_MulDivUp a b b (by assumption) (by assumption) (by assumption), ⟨_, wMulDivUp_R (R4_num _) (R4_num _) (R4_num _), rfl⟩, ?_⟩
    intro x9
    intro h4
    obtain ⟨rh4_1, h4⟩ := h4
    try simp only [num_vI (n := a) (by assumption), num_vI (n := b) (by assumption), num_vI (n := b) (by assumption)] at h4
    have h3 := h4
    intro b10
    refine ⟨rfl, rfl, rfl, rfl, rfl, rfl, rfl, rfl, ?_⟩
    rw [wMulDiv_back r_a hnz] at h2
    rw [wMulDivUp_back r_a hnz] at h3
    refine ⟨⟨(), trivial, congrArg Value.bool (by rw [h2]; rfl)⟩, ?_⟩
    intro _
    intro _
    refine ⟨rfl, rfl, ⟨(), trivial, congrArg Value.bool (by rw [h3]; rfl)⟩, ?_⟩
    intro _
    intro _
    refine ⟨rfl, rfl, rfl, rfl, rfl, rfl, rfl, rfl, rfl, rfl, rfl, rfl, rfl, rfl, rfl, rfl, rfl, rfl, rfl, OpT.ofPure (Try.xne44 x7.1 a) (congrArg Value.bool ((by rw [h2]; exact bne_eq_false_iff_eq.2 rfl))), ⟨(), trivial⟩, ?_⟩
    intro _
    intro _
    refine ⟨rfl, rfl, rfl, rfl, rfl, rfl, rfl, rfl, rfl, rfl, rfl, rfl, rfl, rfl, rfl, rfl, rfl, rfl, rfl, OpT.ofPure (Try.xne44 x9.1 a) (congrArg Value.bool ((by rw [h3]; exact bne_eq_false_iff_eq.2 rfl))), ⟨(), trivial⟩, ?_⟩
    intro _
    intro _
    refine ⟨rfl, ?_⟩
    refine ⟨rfl, rfl, rfl, rfl, rfl, rfl, rfl, rfl, rfl, rfl, rfl, rfl, rfl, rfl, rfl, rfl, huge_Mul x4.1 b (by assumption) (by assumption), ⟨hMul (num (vI x4.1)) (num (vI b)), hMul_R (R4_num _) (R4_num _), rfl⟩, ?_⟩
    intro x11
    intro h5
    obtain ⟨rh5_1, h5⟩ := h5
    try simp only [num_vI (n := x4.1) (by assumption), num_vI (n := b) (by assumption)] at h5
    have h4 := h5
    intro b12
    refine ⟨rfl, rfl, rfl, rfl, rfl, rfl, rfl, rfl, ?_⟩
    rw [hw] at h4
    rw [hMul_back r_a bpos] at h4
    refine ⟨rfl, rfl, rfl, rfl, rfl, rfl, rfl, rfl, rfl, rfl, rfl, rfl, rfl, rfl, rfl, rfl, huge_Add x11.1 x4.2.1 (by assumption) (by assumption), ⟨hAdd (num (vI x11.1)) (num (vI x4.2.1)), hAdd_R (R4_num _) (R4_num _), rfl⟩, ?_⟩
    intro x13
    intro h6
    obtain ⟨rh6_1, h6⟩ := h6
    try simp only [num_vI (n := x11.1) (by assumption), num_vI (n := x4.2.1) (by assumption)] at h6
    have h5 := h6
    intro b14
    refine ⟨rfl, rfl, rfl, rfl, rfl, rfl, rfl, rfl, ?_⟩
    rw [h4, hw] at h5
    rw [hAdd_back r_a bpos] at h5
    refine ⟨⟨(), trivial, congrArg Value.bool (by rw [hw]; rfl)⟩, ?_⟩
    intro _
    intro _
    refine ⟨rfl, rfl, ⟨(), trivial, congrArg Value.bool (by rw [h4]; rfl)⟩, ?_⟩
    intro _
    intro _
    refine ⟨rfl, rfl, ⟨(), trivial, congrArg Value.bool (by rw [h5]; rfl)⟩, ?_⟩
    intro _
    intro _
    refine ⟨rfl, rfl, rfl, rfl, rfl, rfl, rfl, rfl, rfl, rfl, rfl, rfl, rfl, rfl, rfl, rfl, rfl, rfl, rfl, OpT.ofPure (Try.xeq44 x13.1 a) (congrArg Value.bool ((by rw [h5]; exact beq_self_eq_true _))), ⟨(), trivial⟩, ?_⟩
    intro _
    intro _
    refine ⟨rfl, rfl, rfl, rfl, rfl, rfl, rfl, rfl, rfl, rfl, rfl, rfl, rfl, rfl, rfl, rfl, rfl, rfl, rfl, huge_Cmp x4.2.1 b (by assumption) (by assumption), ⟨(), trivial⟩, ?_⟩
    intro _
    intro _
    refine ⟨rfl, ⟨(), trivial, congrArg Value.bool (by rw [hw, num_vI r_b]; show decide (hCmp (num (vI (a % b))) b < 0) = true; rw [num_vI (rem_R4 r_b bpos)]; exact hCmp_back bpos)⟩, ?_⟩
    intro _
    intro _
    exact ⟨(), trivial, rfl, trivial⟩

end Go.Proofs
