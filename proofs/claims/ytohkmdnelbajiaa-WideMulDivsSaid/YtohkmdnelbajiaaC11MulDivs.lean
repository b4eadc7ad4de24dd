/- Contracts of this program's functions, and their proofs, printed by a program of the prover's own (see the claim's other texts for what the words mean). -/
import Derived.Test.YtohkmdnelbajiaaSxB21
import Derived.Test.YtohkmdnelbajiaaC10
set_option linter.unusedVariables false
set_option linter.unusedSimpArgs false
namespace Go.Proofs
open Go.Sx
def law3_WideMulDivs_C : List Value → List Slot → Ctr := fun vs hs => ⟨Unit, fun _ => .bool true, fun _ => hs, fun _ => True⟩
set_option maxRecDepth 100000 in
theorem law3_WideMulDivs_vc (a : Int) (b : Int) (d : Int) : codeW Try.prog 63 none 2000 none (bodyOf Try.f7) (.reg [.sem [.nw 0], .sem [.nw 1], .sem [.nw 2], .sem []] (.reg [.callr [] law3_lives_C, .sem []] (.condF (.reg [.sem [.rd 0, .rd 0, .rd 0, .rd 0], .sem [.rd 1, .rd 1, .rd 1, .rd 1], .sem [.rd 2, .rd 2, .rd 2, .rd 2], .callr [] wide_MulDiv_C, .sem [], .sem [], .sem [], .sem [.nw 3], .sem [.wr 3, .wr 3, .wr 3, .wr 3], .sem []] (.reg [.sem [.rd 0, .rd 0, .rd 0, .rd 0], .sem [.rd 1, .rd 1, .rd 1, .rd 1], .sem [.rd 2, .rd 2, .rd 2, .rd 2], .callr [] wide_MulDivUp_C, .sem [], .sem [], .sem [], .sem [.nw 4], .sem [.wr 4, .wr 4, .wr 4, .wr 4], .sem []] (.reg [.sem [.rd 0, .rd 0, .rd 0, .rd 0], .sem [.rd 1, .rd 1, .rd 1, .rd 1], .sem [.rd 2, .rd 2, .rd 2, .rd 2], .callr [] ref3_MulDiv_C, .sem [], .sem [], .sem [], .sem [.nw 5], .sem [.wr 5, .wr 5, .wr 5, .wr 5], .sem []] (.reg [.sem [.rd 0, .rd 0, .rd 0, .rd 0], .sem [.rd 1, .rd 1, .rd 1, .rd 1], .sem [.rd 2, .rd 2, .rd 2, .rd 2], .callr [] ref3_MulDiv_C, .sem [], .sem [], .sem [], .sem [.nw 6], .sem [.wr 6, .wr 6, .wr 6, .wr 6], .sem []] (.reg [.sem [.rd 3, .rd 3, .rd 3, .rd 3], .sem [.rd 5, .rd 5, .rd 5, .rd 5], .specr [] (fun _ hs => ⟨Unit, fun _ => .bool true, fun _ => hs, fun _ => True⟩), .sem [], .sem [], .sem [], .gen [] (one (.bool true)), .sem [], .sem [], .sem [.rd 4, .rd 4, .rd 4, .rd 4], .sem [.rd 6, .rd 6, .rd 6, .rd 6], .specr [] (fun _ hs => ⟨Unit, fun _ => .bool true, fun _ => hs, fun _ => True⟩), .sem [], .sem [], .sem [], .sem [], .gen [] (one (.bool true)), .sem [], .sem []] (.done)))))))))
    (init #[vI a, vI b, vI d] []) (finW Try.prog Try.f7 [] [] (X := Unit) (fun _ => .bool true) (fun _ => []) (fun _ => True)) =
    (∀ b1 : Nat, ∀ b2 : Nat, ∀ b3 : Nat, (CallT Try.prog 28 #[] [] Unit (fun _ => .bool true) (fun _ => []) (fun _ => True)) ∧ (∃ zx : Unit, (fun _ => True) zx) ∧ ∀ _ : Unit, (True) → (false = false) ∧ b1 = b1 ∧ (none : Option Nat) = none ∧ b1 = b1 ∧ (none : Option Nat) = none ∧ b1 = b1 ∧ (none : Option Nat) = none ∧ b1 = b1 ∧ (none : Option Nat) = none ∧ b2 = b2 ∧ (none : Option Nat) = none ∧ b2 = b2 ∧ (none : Option Nat) = none ∧ b2 = b2 ∧ (none : Option Nat) = none ∧ b2 = b2 ∧ (none : Option Nat) = none ∧ b3 = b3 ∧ (none : Option Nat) = none ∧ b3 = b3 ∧ (none : Option Nat) = none ∧ b3 = b3 ∧ (none : Option Nat) = none ∧ b3 = b3 ∧ (none : Option Nat) = none ∧ (CallT Try.prog 34 #[vI a, vI b, vI d] [] (Int × Int) (fun zx => .tuple #[vI zx.1, .int .i64 zx.2]) (fun _ => []) (fun zx => R4 zx.1 ∧ zx = wMulDiv (num (vI a)) (num (vI b)) (num (vI d)))) ∧ (∃ zx : Int × Int, (fun zx => R4 zx.1 ∧ zx = wMulDiv (num (vI a)) (num (vI b)) (num (vI d))) zx) ∧ ∀ x4 : Int × Int, (R4 x4.1 ∧ x4 = wMulDiv (num (vI a)) (num (vI b)) (num (vI d))) → ∀ b5 : Nat, b5 = b5 ∧ (none : Option Nat) = none ∧ b5 = b5 ∧ (none : Option Nat) = none ∧ b5 = b5 ∧ (none : Option Nat) = none ∧ b5 = b5 ∧ (none : Option Nat) = none ∧ b1 = b1 ∧ (none : Option Nat) = none ∧ b1 = b1 ∧ (none : Option Nat) = none ∧ b1 = b1 ∧ (none : Option Nat) = none ∧ b1 = b1 ∧ (none : Option Nat) = none ∧ b2 = b2 ∧ (none : Option Nat) = none ∧ b2 = b2 ∧ (none : Option Nat) = none ∧ b2 = b2 ∧ (none : Option Nat) = none ∧ b2 = b2 ∧ (none : Option Nat) = none ∧ b3 = b3 ∧ (none : Option Nat) = none ∧ b3 = b3 ∧ (none : Option Nat) = none ∧ b3 = b3 ∧ (none : Option Nat) = none ∧ b3 = b3 ∧ (none : Option Nat) = none ∧ (CallT Try.prog 35 #[vI a, vI b, vI d] [] (Int × Int) (fun zx => .tuple #[vI zx.1, .int .i64 zx.2]) (fun _ => []) (fun zx => R4 zx.1 ∧ zx = wMulDivUp (num (vI a)) (num (vI b)) (num (vI d)))) ∧ (∃ zx : Int × Int, (fun zx => R4 zx.1 ∧ zx = wMulDivUp (num (vI a)) (num (vI b)) (num (vI d))) zx) ∧ ∀ x6 : Int × Int, (R4 x6.1 ∧ x6 = wMulDivUp (num (vI a)) (num (vI b)) (num (vI d))) → ∀ b7 : Nat, b7 = b7 ∧ (none : Option Nat) = none ∧ b7 = b7 ∧ (none : Option Nat) = none ∧ b7 = b7 ∧ (none : Option Nat) = none ∧ b7 = b7 ∧ (none : Option Nat) = none ∧ b1 = b1 ∧ (none : Option Nat) = none ∧ b1 = b1 ∧ (none : Option Nat) = none ∧ b1 = b1 ∧ (none : Option Nat) = none ∧ b1 = b1 ∧ (none : Option Nat) = none ∧ b2 = b2 ∧ (none : Option Nat) = none ∧ b2 = b2 ∧ (none : Option Nat) = none ∧ b2 = b2 ∧ (none : Option Nat) = none ∧ b2 = b2 ∧ (none : Option Nat) = none ∧ b3 = b3 ∧ (none : Option Nat) = none ∧ b3 = b3 ∧ (none : Option Nat) = none ∧ b3 = b3 ∧ (none : Option Nat) = none ∧ b3 = b3 ∧ (none : Option Nat) = none ∧ (CallT Try.prog 36 #[vI a, vI b, vI d, .bool false] [] (Int × Int) (fun zx => .tuple #[vI zx.1, .int .i64 zx.2]) (fun _ => []) (fun zx => R4 zx.1 ∧ zx = rMulDiv (num (vI a)) (num (vI b)) (num (vI d)) false)) ∧ (∃ zx : Int × Int, (fun zx => R4 zx.1 ∧ zx = rMulDiv (num (vI a)) (num (vI b)) (num (vI d)) false) zx) ∧ ∀ x8 : Int × Int, (R4 x8.1 ∧ x8 = rMulDiv (num (vI a)) (num (vI b)) (num (vI d)) false) → ∀ b9 : Nat, b9 = b9 ∧ (none : Option Nat) = none ∧ b9 = b9 ∧ (none : Option Nat) = none ∧ b9 = b9 ∧ (none : Option Nat) = none ∧ b9 = b9 ∧ (none : Option Nat) = none ∧ b1 = b1 ∧ (none : Option Nat) = none ∧ b1 = b1 ∧ (none : Option Nat) = none ∧ b1 = b1 ∧ (none : Option Nat) = none ∧ b1 = b1 ∧ (none : Option Nat) = none ∧ b2 = b2 ∧ (none : Option Nat) = none ∧ b2 = b2 ∧ (none : Option Nat) = none ∧ b2 = b2 ∧ (none : Option Nat) = none ∧ b2 = b2 ∧ (none : Option Nat) = none ∧ b3 = b3 ∧ (none : Option Nat) = none ∧ b3 = b3 ∧ (none : Option Nat) = none ∧ b3 = b3 ∧ (none : Option Nat) = none ∧ b3 = b3 ∧ (none : Option Nat) = none ∧ (CallT Try.prog 36 #[vI a, vI b, vI d, .bool true] [] (Int × Int) (fun zx => .tuple #[vI zx.1, .int .i64 zx.2]) (fun _ => []) (fun zx => R4 zx.1 ∧ zx = rMulDiv (num (vI a)) (num (vI b)) (num (vI d)) true)) ∧ (∃ zx : Int × Int, (fun zx => R4 zx.1 ∧ zx = rMulDiv (num (vI a)) (num (vI b)) (num (vI d)) true) zx) ∧ ∀ x10 : Int × Int, (R4 x10.1 ∧ x10 = rMulDiv (num (vI a)) (num (vI b)) (num (vI d)) true) → ∀ b11 : Nat, b11 = b11 ∧ (none : Option Nat) = none ∧ b11 = b11 ∧ (none : Option Nat) = none ∧ b11 = b11 ∧ (none : Option Nat) = none ∧ b11 = b11 ∧ (none : Option Nat) = none ∧ b5 = b5 ∧ (none : Option Nat) = none ∧ b5 = b5 ∧ (none : Option Nat) = none ∧ b5 = b5 ∧ (none : Option Nat) = none ∧ b5 = b5 ∧ (none : Option Nat) = none ∧ b9 = b9 ∧ (none : Option Nat) = none ∧ b9 = b9 ∧ (none : Option Nat) = none ∧ b9 = b9 ∧ (none : Option Nat) = none ∧ b9 = b9 ∧ (none : Option Nat) = none ∧ (OpT Try.prog (xBin .eql 44 (vI x4.1) (vI x8.1)) [] Unit (fun _ => .bool true) (fun _ => []) (fun _ => True)) ∧ (∃ zx : Unit, (fun _ => True) zx) ∧ ∀ _ : Unit, (True) → true = true ∧ true = true ∧ true = true ∧ (∃ _ : Unit, True ∧ Value.bool (x4.2 == x8.2) = .bool true) ∧ ∀ _ : Unit, (True) → true = true ∧ b7 = b7 ∧ (none : Option Nat) = none ∧ b7 = b7 ∧ (none : Option Nat) = none ∧ b7 = b7 ∧ (none : Option Nat) = none ∧ b7 = b7 ∧ (none : Option Nat) = none ∧ true = true ∧ b11 = b11 ∧ (none : Option Nat) = none ∧ b11 = b11 ∧ (none : Option Nat) = none ∧ b11 = b11 ∧ (none : Option Nat) = none ∧ b11 = b11 ∧ (none : Option Nat) = none ∧ true = true ∧ (OpT Try.prog (xBin .eql 44 (vI x6.1) (vI x10.1)) [] Unit (fun _ => .bool true) (fun _ => []) (fun _ => True)) ∧ (∃ zx : Unit, (fun _ => True) zx) ∧ ∀ _ : Unit, (True) → true = true ∧ true = true ∧ true = true ∧ (∃ _ : Unit, True ∧ Value.bool (x6.2 == x10.2) = .bool true) ∧ ∀ _ : Unit, (True) → ∃ _ : Unit, (True) ∧ Value.bool true = .bool true ∧ True) := by kernel_rfl
set_option maxRecDepth 100000 in
theorem law3_WideMulDivs (a : Int) (b : Int) (d : Int) (r_a : R4 a) (r_b : R4 b) (r_d : R4 d) : CallT Try.prog 7 #[vI a, vI b, vI d] [] Unit (fun _ => .bool true) (fun _ => []) (fun _ => True) := by
  refine call_of (c := bodyOf Try.f7) (n := 63) (fn := Try.f7) Try.mixed Try.func7 (by kernel_rfl) (by kernel_rfl) (by kernel_rfl) 2000 _ [] [] rfl rfl (Eq.mpr (law3_WideMulDivs_vc a b d) ?_)
  have e1 : rMulDiv a b d false = wMulDiv a b d := rfl
  have e2 : rMulDiv a b d true = wMulDivUp a b d := rfl
  intro b1
  intro b2
  intro b3
  refine ⟨law3_lives, ⟨(), trivial⟩, ?_⟩
  intro _
  intro _
  refine ⟨rfl, ?_⟩
  refine ⟨rfl, rfl, rfl, rfl, rfl, rfl, rfl, rfl, rfl, rfl, rfl, rfl, rfl, rfl, rfl, rfl, rfl, rfl, rfl, rfl, rfl, rfl, rfl, rfl, wide_MulDiv a b d (by assumption) (by assumption) (by assumption), ⟨_, wMulDiv_R (R4_num _) (R4_num _) (R4_num _), rfl⟩, ?_⟩
  intro x4
  intro h1
  obtain ⟨rh1_1, h1⟩ := h1
  try simp only [num_vI (n := a) (by assumption), num_vI (n := b) (by assumption), num_vI (n := d) (by assumption)] at h1
  have h1 := h1
  intro b5
  refine ⟨rfl, rfl, rfl, rfl, rfl, rfl, rfl, rfl, ?_⟩
  refine ⟨rfl, rfl, rfl, rfl, rfl, rfl, rfl, rfl, rfl, rfl, rfl, rfl, rfl, rfl, rfl, rfl, rfl, rfl, rfl, rfl, rfl, rfl, rfl, rfl, wide_MulDivUp a b d (by assumption) (by assumption) (by assumption), ⟨_, wMulDivUp_R (R4_num _) (R4_num _) (R4_num _), rfl⟩, ?_⟩
  intro x6
  intro h2
  obtain ⟨rh2_1, h2⟩ := h2
  try simp only [num_vI (n := a) (by assumption), num_vI (n := b) (by assumption), num_vI (n := d) (by assumption)] at h2
  have h2 := h2
  intro b7
  refine ⟨rfl, rfl, rfl, rfl, rfl, rfl, rfl, rfl, ?_⟩
  refine ⟨rfl, rfl, rfl, rfl, rfl, rfl, rfl, rfl, rfl, rfl, rfl, rfl, rfl, rfl, rfl, rfl, rfl, rfl, rfl, rfl, rfl, rfl, rfl, rfl, ref3_MulDiv a b d false (by assumption) (by assumption) (by assumption), ⟨_, rMulDiv_R (by first | exact R4_num _ | exact by assumption) (by first | exact R4_num _ | exact by assumption) (by first | exact R4_num _ | exact by assumption) _, rfl⟩, ?_⟩
  intro x8
  intro h3
  obtain ⟨rh3_1, h3⟩ := h3
  try simp only [num_vI (n := a) (by assumption), num_vI (n := b) (by assumption), num_vI (n := d) (by assumption)] at h3
  have h3 := h3
  intro b9
  refine ⟨rfl, rfl, rfl, rfl, rfl, rfl, rfl, rfl, ?_⟩
  refine ⟨rfl, rfl, rfl, rfl, rfl, rfl, rfl, rfl, rfl, rfl, rfl, rfl, rfl, rfl, rfl, rfl, rfl, rfl, rfl, rfl, rfl, rfl, rfl, rfl, ref3_MulDiv a b d true (by assumption) (by assumption) (by assumption), ⟨_, rMulDiv_R (by first | exact R4_num _ | exact by assumption) (by first | exact R4_num _ | exact by assumption) (by first | exact R4_num _ | exact by assumption) _, rfl⟩, ?_⟩
  intro x10
  intro h4
  obtain ⟨rh4_1, h4⟩ := h4
  try simp only [num_vI (n := a) (by assumption), num_vI (n := b) (by assumption), num_vI (n := d) (by assumption)] at h4
  have h4 := h4
  intro b11
  refine ⟨rfl, rfl, rfl, rfl, rfl, rfl, rfl, rfl, ?_⟩
  refine ⟨rfl, rfl, rfl, rfl, rfl, rfl, rfl, rfl, rfl, rfl, rfl, rfl, rfl, rfl, rfl, rfl, OpT.ofPure (Try.xeq44 x4.1 x8.1) (congrArg Value.bool ((by rw [h1, h3, e1]; exact beq_self_eq_true _))), ⟨(), trivial⟩, ?_⟩
  intro _
  intro _
  refine ⟨rfl, rfl, rfl, ⟨(), trivial, congrArg Value.bool (by rw [h1, h3, e1]; exact beq_self_eq_true _)⟩, ?_⟩
  intro _
  intro _
  refine ⟨rfl, rfl, rfl, rfl, rfl, rfl, rfl, rfl, rfl, rfl, rfl, rfl, rfl, rfl, rfl, rfl, rfl, rfl, rfl, OpT.ofPure (Try.xeq44 x6.1 x10.1) (congrArg Value.bool ((by rw [h2, h4, e2]; exact beq_self_eq_true _))), ⟨(), trivial⟩, ?_⟩
  intro _
  intro _
  refine ⟨rfl, rfl, rfl, ⟨(), trivial, congrArg Value.bool (by rw [h2, h4, e2]; exact beq_self_eq_true _)⟩, ?_⟩
  intro _
  intro _
  exact ⟨(), trivial, rfl, trivial⟩

end Go.Proofs
