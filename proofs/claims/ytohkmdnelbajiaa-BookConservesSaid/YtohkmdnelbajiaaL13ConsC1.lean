/- Contracts of this program's functions, and their proofs, printed by a program of the prover's own (see the claim's other texts for what the words mean). -/
import Derived.Test.YtohkmdnelbajiaaSxB4
import Derived.Test.YtohkmdnelbajiaaSxB5
import Derived.Test.YtohkmdnelbajiaaSxB6
import Derived.Test.YtohkmdnelbajiaaSxB9
import Derived.Test.YtohkmdnelbajiaaSxB10
import Derived.Test.YtohkmdnelbajiaaSxB12
import Derived.Test.YtohkmdnelbajiaaSxB16
import Derived.Test.YtohkmdnelbajiaaSxB17
import Derived.Test.YtohkmdnelbajiaaSxF3
import Derived.Test.YtohkmdnelbajiaaSxF4
import Derived.Test.YtohkmdnelbajiaaSxD4
import Derived.Test.YtohkmdnelbajiaaSxD3
import Derived.Test.YtohkmdnelbajiaaProg
set_option linter.unusedVariables false
set_option linter.unusedSimpArgs false
namespace Go.Proofs
open Go.Sx
theorem Try.mixed : Try.prog.follows .mixedOrders = true := by kernel_rfl
def limb_bit_C : List Value → List Slot → Ctr := fun vs hs => ⟨Unit, fun _ => .int .u64 (bit (cb (varg vs 1))), fun _ => hs, fun _ => True⟩
set_option maxRecDepth 100000 in
theorem limb_bit_vc (b : Bool) : codeW Try.prog 4 none 2000 none (bodyOf Try.f102) (.reg [.sem []] (.reg [.sem []] (.cond (.reg [.sem []] (.done)) (.reg [.sem []] (.done)))))
    (init #[.bool b] []) (finW Try.prog Try.f102 [] [] (X := Unit) (fun _ => .int .u64 (bit b)) (fun _ => []) (fun _ => True)) =
    ((b = true → ∃ _ : Unit, (True) ∧ Value.int .u64 1 = .int .u64 (bit b) ∧ True) ∧ (b = false → ∃ _ : Unit, (True) ∧ Value.int .u64 0 = .int .u64 (bit b) ∧ True)) := by kernel_rfl
set_option maxRecDepth 100000 in
theorem limb_bit (b : Bool)  : CallT Try.prog 102 #[.bool b] [] Unit (fun _ => .int .u64 (bit b)) (fun _ => []) (fun _ => True) := by
  refine call_of (c := bodyOf Try.f102) (n := 4) (fn := Try.f102) Try.mixed Try.func102 (by kernel_rfl) (by kernel_rfl) (by kernel_rfl) 2000 _ [] [] rfl rfl (Eq.mpr (limb_bit_vc b) ?_)
  refine ⟨fun h1 => ?_, fun h1 => ?_⟩
  · refine ⟨(), trivial, ?_, trivial⟩
    simp [bit, *]
  · refine ⟨(), trivial, ?_, trivial⟩
    simp [bit, *]

def limb_Add_C : List Value → List Slot → Ctr := fun vs hs => ⟨Int × Int, fun zx => .tuple #[.int .u64 zx.1, .int .u64 zx.2], fun _ => hs, fun zx => AddR (ci (varg vs 1)) (ci (varg vs 2)) (ci (varg vs 3)) zx.1 zx.2⟩
set_option maxRecDepth 100000 in
theorem limb_Add_vc (a : Int) (b : Int) (c : Int) : codeW Try.prog 26 none 2000 none (bodyOf Try.f86) (.reg [.sem [], .sem []] (.reg [.sem [], .sem [], .sem [], .sem []] (.reg [.sem [], .sem [], .sem [], .callr [] limb_bit_C, .sem []] (.reg [.sem [], .sem []] (.cond (.reg [.sem [], .sem [], .sem []] (.reg [.sem [], .sem [], .sem [], .callr [] limb_bit_C, .sem [], .sem []] (.reg [.sem [], .sem [], .sem [], .sem []] (.done)))) (.reg [.sem [], .sem [], .sem [], .sem []] (.done)))))))
    (init #[.int .u64 a, .int .u64 b, .int .u64 c] []) (finW Try.prog Try.f86 [] [] (X := Int × Int) (fun zx => .tuple #[.int .u64 zx.1, .int .u64 zx.2]) (fun zx => []) (fun zx => (AddR a b c zx.1 zx.2))) =
    ((CallT Try.prog 102 #[.bool (decide ((IntKind.u64.wrap (a + b)) < a))] [] Unit (fun _ => .int .u64 (bit (decide ((IntKind.u64.wrap (a + b)) < a)))) (fun _ => []) (fun _ => True)) ∧ (∃ zx : Unit, (fun _ => True) zx) ∧ ∀ _ : Unit, (True) → ((c != (0 : Int)) = true → (CallT Try.prog 102 #[.bool ((IntKind.u64.wrap ((IntKind.u64.wrap (a + b)) + 1)) == (0 : Int))] [] Unit (fun _ => .int .u64 (bit ((IntKind.u64.wrap ((IntKind.u64.wrap (a + b)) + 1)) == (0 : Int)))) (fun _ => []) (fun _ => True)) ∧ (∃ zx : Unit, (fun _ => True) zx) ∧ ∀ _ : Unit, (True) → ∃ zx : Int × Int, (AddR a b c zx.1 zx.2) ∧ Value.tuple #[.int .u64 (IntKind.u64.wrap ((IntKind.u64.wrap (a + b)) + 1)), .int .u64 (IntKind.u64.wrap ((BitVec.ofInt 64 (bit (decide ((IntKind.u64.wrap (a + b)) < a))) ||| BitVec.ofInt 64 (bit ((IntKind.u64.wrap ((IntKind.u64.wrap (a + b)) + 1)) == (0 : Int))) : BitVec 64).toNat : Int))] = .tuple #[.int .u64 zx.1, .int .u64 zx.2] ∧ True) ∧ ((c != (0 : Int)) = false → ∃ zx : Int × Int, (AddR a b c zx.1 zx.2) ∧ Value.tuple #[.int .u64 (IntKind.u64.wrap (a + b)), .int .u64 (bit (decide ((IntKind.u64.wrap (a + b)) < a)))] = .tuple #[.int .u64 zx.1, .int .u64 zx.2] ∧ True)) := by kernel_rfl
set_option maxRecDepth 100000 in
theorem limb_Add (a : Int) (b : Int) (c : Int) (ha : W a) (hb : W b) : CallT Try.prog 86 #[.int .u64 a, .int .u64 b, .int .u64 c] [] (Int × Int) (fun zx => .tuple #[.int .u64 zx.1, .int .u64 zx.2]) (fun zx => []) (fun zx => (AddR a b c zx.1 zx.2)) := by
  refine call_of (c := bodyOf Try.f86) (n := 26) (fn := Try.f86) Try.mixed Try.func86 (by kernel_rfl) (by kernel_rfl) (by kernel_rfl) 2000 _ [] [] rfl rfl (Eq.mpr (limb_Add_vc a b c) ?_)
  refine ⟨limb_bit (decide ((IntKind.u64.wrap (a + b)) < a)), ⟨(), trivial⟩, ?_⟩
  intro _
  intro _
  refine ⟨fun h1 => ?_, fun h1 => ?_⟩
  · refine ⟨limb_bit ((IntKind.u64.wrap ((IntKind.u64.wrap (a + b)) + 1)) == (0 : Int)), ⟨(), trivial⟩, ?_⟩
    intro _
    intro _
    exact ⟨((IntKind.u64.wrap ((IntKind.u64.wrap (a + b)) + 1)), (IntKind.u64.wrap ((BitVec.ofInt 64 (bit (decide ((IntKind.u64.wrap (a + b)) < a))) ||| BitVec.ofInt 64 (bit ((IntKind.u64.wrap ((IntKind.u64.wrap (a + b)) + 1)) == (0 : Int))) : BitVec 64).toNat : Int))), add_fin ha hb (by first | exact .inl ⟨‹_›, rfl, rfl⟩ | exact .inr ⟨‹_›, rfl, rfl⟩), rfl, trivial⟩
  · exact ⟨((IntKind.u64.wrap (a + b)), (bit (decide ((IntKind.u64.wrap (a + b)) < a)))), add_fin ha hb (by first | exact .inl ⟨‹_›, rfl, rfl⟩ | exact .inr ⟨‹_›, rfl, rfl⟩), rfl, trivial⟩

def limb_Sub_C : List Value → List Slot → Ctr := fun vs hs => ⟨Int × Int, fun zx => .tuple #[.int .u64 zx.1, .int .u64 zx.2], fun _ => hs, fun zx => SubR (ci (varg vs 1)) (ci (varg vs 2)) (ci (varg vs 3)) zx.1 zx.2⟩
set_option maxRecDepth 100000 in
theorem limb_Sub_vc (a : Int) (b : Int) (c : Int) : codeW Try.prog 26 none 2000 none (bodyOf Try.f89) (.reg [.sem [], .sem []] (.reg [.sem [], .sem [], .sem [], .sem []] (.reg [.sem [], .sem [], .sem [], .callr [] limb_bit_C, .sem []] (.reg [.sem [], .sem []] (.cond (.reg [.sem [], .sem [], .sem [], .callr [] limb_bit_C, .sem [], .sem []] (.reg [.sem [], .sem [], .sem []] (.reg [.sem [], .sem [], .sem [], .sem []] (.done)))) (.reg [.sem [], .sem [], .sem [], .sem []] (.done)))))))
    (init #[.int .u64 a, .int .u64 b, .int .u64 c] []) (finW Try.prog Try.f89 [] [] (X := Int × Int) (fun zx => .tuple #[.int .u64 zx.1, .int .u64 zx.2]) (fun zx => []) (fun zx => (SubR a b c zx.1 zx.2))) =
    ((CallT Try.prog 102 #[.bool (decide (a < b))] [] Unit (fun _ => .int .u64 (bit (decide (a < b)))) (fun _ => []) (fun _ => True)) ∧ (∃ zx : Unit, (fun _ => True) zx) ∧ ∀ _ : Unit, (True) → ((c != (0 : Int)) = true → (CallT Try.prog 102 #[.bool ((IntKind.u64.wrap (a - b)) == (0 : Int))] [] Unit (fun _ => .int .u64 (bit ((IntKind.u64.wrap (a - b)) == (0 : Int)))) (fun _ => []) (fun _ => True)) ∧ (∃ zx : Unit, (fun _ => True) zx) ∧ ∀ _ : Unit, (True) → ∃ zx : Int × Int, (SubR a b c zx.1 zx.2) ∧ Value.tuple #[.int .u64 (IntKind.u64.wrap ((IntKind.u64.wrap (a - b)) - 1)), .int .u64 (IntKind.u64.wrap ((BitVec.ofInt 64 (bit (decide (a < b))) ||| BitVec.ofInt 64 (bit ((IntKind.u64.wrap (a - b)) == (0 : Int))) : BitVec 64).toNat : Int))] = .tuple #[.int .u64 zx.1, .int .u64 zx.2] ∧ True) ∧ ((c != (0 : Int)) = false → ∃ zx : Int × Int, (SubR a b c zx.1 zx.2) ∧ Value.tuple #[.int .u64 (IntKind.u64.wrap (a - b)), .int .u64 (bit (decide (a < b)))] = .tuple #[.int .u64 zx.1, .int .u64 zx.2] ∧ True)) := by kernel_rfl
set_option maxRecDepth 100000 in
theorem limb_Sub (a : Int) (b : Int) (c : Int) (ha : W a) (hb : W b) : CallT Try.prog 89 #[.int .u64 a, .int .u64 b, .int .u64 c] [] (Int × Int) (fun zx => .tuple #[.int .u64 zx.1, .int .u64 zx.2]) (fun zx => []) (fun zx => (SubR a b c zx.1 zx.2)) := by
  refine call_of (c := bodyOf Try.f89) (n := 26) (fn := Try.f89) Try.mixed Try.func89 (by kernel_rfl) (by kernel_rfl) (by kernel_rfl) 2000 _ [] [] rfl rfl (Eq.mpr (limb_Sub_vc a b c) ?_)
  refine ⟨limb_bit (decide (a < b)), ⟨(), trivial⟩, ?_⟩
  intro _
  intro _
  refine ⟨fun h1 => ?_, fun h1 => ?_⟩
  · refine ⟨limb_bit ((IntKind.u64.wrap (a - b)) == (0 : Int)), ⟨(), trivial⟩, ?_⟩
    intro _
    intro _
    exact ⟨((IntKind.u64.wrap ((IntKind.u64.wrap (a - b)) - 1)), (IntKind.u64.wrap ((BitVec.ofInt 64 (bit (decide (a < b))) ||| BitVec.ofInt 64 (bit ((IntKind.u64.wrap (a - b)) == (0 : Int))) : BitVec 64).toNat : Int))), sub_fin ha hb (by first | exact .inl ⟨‹_›, rfl, rfl⟩ | exact .inr ⟨‹_›, rfl, rfl⟩), rfl, trivial⟩
  · exact ⟨((IntKind.u64.wrap (a - b)), (bit (decide (a < b)))), sub_fin ha hb (by first | exact .inl ⟨‹_›, rfl, rfl⟩ | exact .inr ⟨‹_›, rfl, rfl⟩), rfl, trivial⟩

def huge_chainAdd_C : List Value → List Slot → Ctr := fun vs hs => ⟨Int × Int, fun zx => .tuple #[vI zx.1, .int .i64 zx.2], fun _ => hs, fun zx => R4 zx.1 ∧ zx = hAdd (num (varg vs 1)) (num (varg vs 2))⟩
set_option maxRecDepth 100000 in
theorem huge_chainAdd_vc (a : Int) (b : Int) : codeW Try.prog 33 none 2000 none (bodyOf Try.f85) (.reg [.sem [.nw 0], .sem [.nw 1], .sem [.nw 2], .sem []] (.reg [.sem [.nw 3]] (.reg [.sem []] (.reg [.sem []] (.reg [.sem []] (.condT (.reg [.sem [], .sem []] (.reg [.sem [], .sem [], .sem [], .sem [], .sem [.rd 0], .sem [], .sem [], .sem [.rd 1], .sem [], .callr [] limb_Add_C, .sem [], .sem [], .sem [], .sem [], .sem [.wr 3], .sem []] (.reg [.sem [], .sem []] (.reg [.sem []] (.condT (.reg [.sem [], .sem []] (.reg [.sem [], .sem [], .sem [], .sem [], .sem [.rd 0], .sem [], .sem [], .sem [.rd 1], .sem [], .callr [] limb_Add_C, .sem [], .sem [], .sem [], .sem [], .sem [.wr 3], .sem []] (.reg [.sem [], .sem []] (.reg [.sem []] (.condT (.reg [.sem [], .sem []] (.reg [.sem [], .sem [], .sem [], .sem [], .sem [.rd 0], .sem [], .sem [], .sem [.rd 1], .sem [], .callr [] limb_Add_C, .sem [], .sem [], .sem [], .sem [], .sem [.wr 3], .sem []] (.reg [.sem [], .sem []] (.reg [.sem []] (.condT (.reg [.sem [], .sem []] (.reg [.sem [], .sem [], .sem [], .sem [], .sem [.rd 0], .sem [], .sem [], .sem [.rd 1], .sem [], .callr [] limb_Add_C, .sem [], .sem [], .sem [], .sem [], .sem [.wr 3], .sem []] (.reg [.sem [], .sem []] (.reg [.sem []] (.condF (.reg [.sem [], .sem []] (.cond (.reg [.sem [], .sem [.wr 2, .wr 2, .wr 2, .wr 2], .sem []] (.done)) (.reg [.sem [.rd 3, .rd 3, .rd 3, .rd 3], .sem [.wr 2, .wr 2, .wr 2, .wr 2], .sem []] (.done))))))))))))))))))))))))))))))
    (init #[vI a, vI b, .func (.func 86) #[] #[]] []) (finW Try.prog Try.f85 [.rd 2, .rd 2, .rd 2, .rd 2] [] (X := Int × Int) (fun zx => .tuple #[vI zx.1, .int .i64 zx.2]) (fun zx => []) (fun zx => (R4 zx.1 ∧ zx = hAdd (num (vI a)) (num (vI b))))) =
    (∀ b1 : Nat, ∀ b2 : Nat, ∀ b3 : Nat, ∀ b4 : Nat, (true = true) ∧ b1 = b1 ∧ (none : Option Nat) = none ∧ b2 = b2 ∧ (none : Option Nat) = none ∧ (CallT Try.prog 86 #[.int .u64 (lim a 0), .int .u64 (lim b 0), .int .u64 0] [] (Int × Int) (fun zx => .tuple #[.int .u64 zx.1, .int .u64 zx.2]) (fun _ => []) (fun zx => AddR (lim a 0) (lim b 0) (0 : Int) zx.1 zx.2)) ∧ (∃ zx : Int × Int, (fun zx => AddR (lim a 0) (lim b 0) (0 : Int) zx.1 zx.2) zx) ∧ ∀ x5 : Int × Int, (AddR (lim a 0) (lim b 0) (0 : Int) x5.1 x5.2) → b4 = b4 ∧ (none : Option Nat) = none ∧ (true = true) ∧ b1 = b1 ∧ (none : Option Nat) = none ∧ b2 = b2 ∧ (none : Option Nat) = none ∧ (CallT Try.prog 86 #[.int .u64 (lim a 1), .int .u64 (lim b 1), .int .u64 x5.2] [] (Int × Int) (fun zx => .tuple #[.int .u64 zx.1, .int .u64 zx.2]) (fun _ => []) (fun zx => AddR (lim a 1) (lim b 1) x5.2 zx.1 zx.2)) ∧ (∃ zx : Int × Int, (fun zx => AddR (lim a 1) (lim b 1) x5.2 zx.1 zx.2) zx) ∧ ∀ x6 : Int × Int, (AddR (lim a 1) (lim b 1) x5.2 x6.1 x6.2) → b4 = b4 ∧ (none : Option Nat) = none ∧ (true = true) ∧ b1 = b1 ∧ (none : Option Nat) = none ∧ b2 = b2 ∧ (none : Option Nat) = none ∧ (CallT Try.prog 86 #[.int .u64 (lim a 2), .int .u64 (lim b 2), .int .u64 x6.2] [] (Int × Int) (fun zx => .tuple #[.int .u64 zx.1, .int .u64 zx.2]) (fun _ => []) (fun zx => AddR (lim a 2) (lim b 2) x6.2 zx.1 zx.2)) ∧ (∃ zx : Int × Int, (fun zx => AddR (lim a 2) (lim b 2) x6.2 zx.1 zx.2) zx) ∧ ∀ x7 : Int × Int, (AddR (lim a 2) (lim b 2) x6.2 x7.1 x7.2) → b4 = b4 ∧ (none : Option Nat) = none ∧ (true = true) ∧ b1 = b1 ∧ (none : Option Nat) = none ∧ b2 = b2 ∧ (none : Option Nat) = none ∧ (CallT Try.prog 86 #[.int .u64 (lim a 3), .int .u64 (lim b 3), .int .u64 x7.2] [] (Int × Int) (fun zx => .tuple #[.int .u64 zx.1, .int .u64 zx.2]) (fun _ => []) (fun zx => AddR (lim a 3) (lim b 3) x7.2 zx.1 zx.2)) ∧ (∃ zx : Int × Int, (fun zx => AddR (lim a 3) (lim b 3) x7.2 zx.1 zx.2) zx) ∧ ∀ x8 : Int × Int, (AddR (lim a 3) (lim b 3) x7.2 x8.1 x8.2) → b4 = b4 ∧ (none : Option Nat) = none ∧ (false = false) ∧ ((x8.2 != (0 : Int)) = true → b3 = b3 ∧ (none : Option Nat) = none ∧ b3 = b3 ∧ (none : Option Nat) = none ∧ b3 = b3 ∧ (none : Option Nat) = none ∧ b3 = b3 ∧ (none : Option Nat) = none ∧ b3 = b3 ∧ (none : Option Nat) = none ∧ b3 = b3 ∧ (none : Option Nat) = none ∧ b3 = b3 ∧ (none : Option Nat) = none ∧ b3 = b3 ∧ (none : Option Nat) = none ∧ ∃ zx : Int × Int, (R4 zx.1 ∧ zx = hAdd (num (vI a)) (num (vI b))) ∧ Value.tuple #[.agg #[.int .u64 0, .int .u64 0, .int .u64 0, .int .u64 0], .int .i64 2] = .tuple #[vI zx.1, .int .i64 zx.2] ∧ True) ∧ ((x8.2 != (0 : Int)) = false → b4 = b4 ∧ (none : Option Nat) = none ∧ b4 = b4 ∧ (none : Option Nat) = none ∧ b4 = b4 ∧ (none : Option Nat) = none ∧ b4 = b4 ∧ (none : Option Nat) = none ∧ b3 = b3 ∧ (none : Option Nat) = none ∧ b3 = b3 ∧ (none : Option Nat) = none ∧ b3 = b3 ∧ (none : Option Nat) = none ∧ b3 = b3 ∧ (none : Option Nat) = none ∧ b3 = b3 ∧ (none : Option Nat) = none ∧ b3 = b3 ∧ (none : Option Nat) = none ∧ b3 = b3 ∧ (none : Option Nat) = none ∧ b3 = b3 ∧ (none : Option Nat) = none ∧ ∃ zx : Int × Int, (R4 zx.1 ∧ zx = hAdd (num (vI a)) (num (vI b))) ∧ Value.tuple #[.agg #[.int .u64 x5.1, .int .u64 x6.1, .int .u64 x7.1, .int .u64 x8.1], .int .i64 0] = .tuple #[vI zx.1, .int .i64 zx.2] ∧ True)) := by kernel_rfl
set_option maxRecDepth 100000 in
theorem huge_chainAdd (a : Int) (b : Int) (r_a : R4 a) (r_b : R4 b) : CallT Try.prog 85 #[vI a, vI b, .func (.func 86) #[] #[]] [] (Int × Int) (fun zx => .tuple #[vI zx.1, .int .i64 zx.2]) (fun zx => []) (fun zx => (R4 zx.1 ∧ zx = hAdd (num (vI a)) (num (vI b)))) := by
  refine call_of (c := bodyOf Try.f85) (n := 33) (fn := Try.f85) Try.mixed Try.func85 (by kernel_rfl) (by kernel_rfl) (by kernel_rfl) 2000 _ [.rd 2, .rd 2, .rd 2, .rd 2] [] rfl rfl (Eq.mpr (huge_chainAdd_vc a b) ?_)
  intro b1
  intro b2
  intro b3
  intro b4
  refine ⟨rfl, ?_⟩
  refine ⟨rfl, rfl, rfl, rfl, limb_Add (lim a 0) (lim b 0) (0 : Int) (by first | assumption | exact W_lim _ _ | (unfold W; decide)) (by first | assumption | exact W_lim _ _ | (unfold W; decide)), wit_add (by first | assumption | exact W_lim _ _ | (unfold W; decide)) (by first | assumption | exact W_lim _ _ | (unfold W; decide)), ?_⟩
  intro x5
  intro h1
  have wh1 := h1.s
  refine ⟨rfl, rfl, ?_⟩
  refine ⟨rfl, ?_⟩
  refine ⟨rfl, rfl, rfl, rfl, limb_Add (lim a 1) (lim b 1) x5.2 (by first | assumption | exact W_lim _ _ | (unfold W; decide)) (by first | assumption | exact W_lim _ _ | (unfold W; decide)), wit_add (by first | assumption | exact W_lim _ _ | (unfold W; decide)) (by first | assumption | exact W_lim _ _ | (unfold W; decide)), ?_⟩
  intro x6
  intro h2
  have wh2 := h2.s
  refine ⟨rfl, rfl, ?_⟩
  refine ⟨rfl, ?_⟩
  refine ⟨rfl, rfl, rfl, rfl, limb_Add (lim a 2) (lim b 2) x6.2 (by first | assumption | exact W_lim _ _ | (unfold W; decide)) (by first | assumption | exact W_lim _ _ | (unfold W; decide)), wit_add (by first | assumption | exact W_lim _ _ | (unfold W; decide)) (by first | assumption | exact W_lim _ _ | (unfold W; decide)), ?_⟩
  intro x7
  intro h3
  have wh3 := h3.s
  refine ⟨rfl, rfl, ?_⟩
  refine ⟨rfl, ?_⟩
  refine ⟨rfl, rfl, rfl, rfl, limb_Add (lim a 3) (lim b 3) x7.2 (by first | assumption | exact W_lim _ _ | (unfold W; decide)) (by first | assumption | exact W_lim _ _ | (unfold W; decide)), wit_add (by first | assumption | exact W_lim _ _ | (unfold W; decide)) (by first | assumption | exact W_lim _ _ | (unfold W; decide)), ?_⟩
  intro x8
  intro h4
  have wh4 := h4.s
  refine ⟨rfl, rfl, ?_⟩
  refine ⟨rfl, ?_⟩
  refine ⟨fun h5 => ?_, fun h5 => ?_⟩
  · refine ⟨rfl, rfl, rfl, rfl, rfl, rfl, rfl, rfl, ?_⟩
    refine ⟨rfl, rfl, rfl, rfl, rfl, rfl, rfl, rfl, ?_⟩
    exact fin2 (chain_add_ov (by assumption) (by assumption) (by assumption) (by assumption) ‹_›) R4_zero vI_zero
  · refine ⟨rfl, rfl, rfl, rfl, rfl, rfl, rfl, rfl, rfl, rfl, rfl, rfl, rfl, rfl, rfl, rfl, ?_⟩
    refine ⟨rfl, rfl, rfl, rfl, rfl, rfl, rfl, rfl, ?_⟩
    exact fin2 (chain_add_ok (by assumption) (by assumption) (by assumption) (by assumption) ‹_›) (R4_num4 (by assumption) (by assumption) (by assumption) (by assumption)) (vI_num4 (by assumption) (by assumption) (by assumption) (by assumption))

def huge_chainSub_C : List Value → List Slot → Ctr := fun vs hs => ⟨Int × Int, fun zx => .tuple #[vI zx.1, .int .i64 zx.2], fun _ => hs, fun zx => R4 zx.1 ∧ zx = hSub (num (varg vs 1)) (num (varg vs 2))⟩
set_option maxRecDepth 100000 in
theorem huge_chainSub_vc (a : Int) (b : Int) : codeW Try.prog 33 none 2000 none (bodyOf Try.f85) (.reg [.sem [.nw 0], .sem [.nw 1], .sem [.nw 2], .sem []] (.reg [.sem [.nw 3]] (.reg [.sem []] (.reg [.sem []] (.reg [.sem []] (.condT (.reg [.sem [], .sem []] (.reg [.sem [], .sem [], .sem [], .sem [], .sem [.rd 0], .sem [], .sem [], .sem [.rd 1], .sem [], .callr [] limb_Sub_C, .sem [], .sem [], .sem [], .sem [], .sem [.wr 3], .sem []] (.reg [.sem [], .sem []] (.reg [.sem []] (.condT (.reg [.sem [], .sem []] (.reg [.sem [], .sem [], .sem [], .sem [], .sem [.rd 0], .sem [], .sem [], .sem [.rd 1], .sem [], .callr [] limb_Sub_C, .sem [], .sem [], .sem [], .sem [], .sem [.wr 3], .sem []] (.reg [.sem [], .sem []] (.reg [.sem []] (.condT (.reg [.sem [], .sem []] (.reg [.sem [], .sem [], .sem [], .sem [], .sem [.rd 0], .sem [], .sem [], .sem [.rd 1], .sem [], .callr [] limb_Sub_C, .sem [], .sem [], .sem [], .sem [], .sem [.wr 3], .sem []] (.reg [.sem [], .sem []] (.reg [.sem []] (.condT (.reg [.sem [], .sem []] (.reg [.sem [], .sem [], .sem [], .sem [], .sem [.rd 0], .sem [], .sem [], .sem [.rd 1], .sem [], .callr [] limb_Sub_C, .sem [], .sem [], .sem [], .sem [], .sem [.wr 3], .sem []] (.reg [.sem [], .sem []] (.reg [.sem []] (.condF (.reg [.sem [], .sem []] (.cond (.reg [.sem [], .sem [.wr 2, .wr 2, .wr 2, .wr 2], .sem []] (.done)) (.reg [.sem [.rd 3, .rd 3, .rd 3, .rd 3], .sem [.wr 2, .wr 2, .wr 2, .wr 2], .sem []] (.done))))))))))))))))))))))))))))))
    (init #[vI a, vI b, .func (.func 89) #[] #[]] []) (finW Try.prog Try.f85 [.rd 2, .rd 2, .rd 2, .rd 2] [] (X := Int × Int) (fun zx => .tuple #[vI zx.1, .int .i64 zx.2]) (fun zx => []) (fun zx => (R4 zx.1 ∧ zx = hSub (num (vI a)) (num (vI b))))) =
    (∀ b1 : Nat, ∀ b2 : Nat, ∀ b3 : Nat, ∀ b4 : Nat, (true = true) ∧ b1 = b1 ∧ (none : Option Nat) = none ∧ b2 = b2 ∧ (none : Option Nat) = none ∧ (CallT Try.prog 89 #[.int .u64 (lim a 0), .int .u64 (lim b 0), .int .u64 0] [] (Int × Int) (fun zx => .tuple #[.int .u64 zx.1, .int .u64 zx.2]) (fun _ => []) (fun zx => SubR (lim a 0) (lim b 0) (0 : Int) zx.1 zx.2)) ∧ (∃ zx : Int × Int, (fun zx => SubR (lim a 0) (lim b 0) (0 : Int) zx.1 zx.2) zx) ∧ ∀ x5 : Int × Int, (SubR (lim a 0) (lim b 0) (0 : Int) x5.1 x5.2) → b4 = b4 ∧ (none : Option Nat) = none ∧ (true = true) ∧ b1 = b1 ∧ (none : Option Nat) = none ∧ b2 = b2 ∧ (none : Option Nat) = none ∧ (CallT Try.prog 89 #[.int .u64 (lim a 1), .int .u64 (lim b 1), .int .u64 x5.2] [] (Int × Int) (fun zx => .tuple #[.int .u64 zx.1, .int .u64 zx.2]) (fun _ => []) (fun zx => SubR (lim a 1) (lim b 1) x5.2 zx.1 zx.2)) ∧ (∃ zx : Int × Int, (fun zx => SubR (lim a 1) (lim b 1) x5.2 zx.1 zx.2) zx) ∧ ∀ x6 : Int × Int, (SubR (lim a 1) (lim b 1) x5.2 x6.1 x6.2) → b4 = b4 ∧ (none : Option Nat) = none ∧ (true = true) ∧ b1 = b1 ∧ (none : Option Nat) = none ∧ b2 = b2 ∧ (none : Option Nat) = none ∧ (CallT Try.prog 89 #[.int .u64 (lim a 2), .int .u64 (lim b 2), .int .u64 x6.2] [] (Int × Int) (fun zx => .tuple #[.int .u64 zx.1, .int .u64 zx.2]) (fun _ => []) (fun zx => SubR (lim a 2) (lim b 2) x6.2 zx.1 zx.2)) ∧ (∃ zx : Int × Int, (fun zx => SubR (lim a 2) (lim b 2) x6.2 zx.1 zx.2) zx) ∧ ∀ x7 : Int × Int, (SubR (lim a 2) (lim b 2) x6.2 x7.1 x7.2) → b4 = b4 ∧ (none : Option Nat) = none ∧ (true = true) ∧ b1 = b1 ∧ (none : Option Nat) = none ∧ b2 = b2 ∧ (none : Option Nat) = none ∧ (CallT Try.prog 89 #[.int .u64 (lim a 3), .int .u64 (lim b 3), .int .u64 x7.2] [] (Int × Int) (fun zx => .tuple #[.int .u64 zx.1, .int .u64 zx.2]) (fun _ => []) (fun zx => SubR (lim a 3) (lim b 3) x7.2 zx.1 zx.2)) ∧ (∃ zx : Int × Int, (fun zx => SubR (lim a 3) (lim b 3) x7.2 zx.1 zx.2) zx) ∧ ∀ x8 : Int × Int, (SubR (lim a 3) (lim b 3) x7.2 x8.1 x8.2) → b4 = b4 ∧ (none : Option Nat) = none ∧ (false = false) ∧ ((x8.2 != (0 : Int)) = true → b3 = b3 ∧ (none : Option Nat) = none ∧ b3 = b3 ∧ (none : Option Nat) = none ∧ b3 = b3 ∧ (none : Option Nat) = none ∧ b3 = b3 ∧ (none : Option Nat) = none ∧ b3 = b3 ∧ (none : Option Nat) = none ∧ b3 = b3 ∧ (none : Option Nat) = none ∧ b3 = b3 ∧ (none : Option Nat) = none ∧ b3 = b3 ∧ (none : Option Nat) = none ∧ ∃ zx : Int × Int, (R4 zx.1 ∧ zx = hSub (num (vI a)) (num (vI b))) ∧ Value.tuple #[.agg #[.int .u64 0, .int .u64 0, .int .u64 0, .int .u64 0], .int .i64 2] = .tuple #[vI zx.1, .int .i64 zx.2] ∧ True) ∧ ((x8.2 != (0 : Int)) = false → b4 = b4 ∧ (none : Option Nat) = none ∧ b4 = b4 ∧ (none : Option Nat) = none ∧ b4 = b4 ∧ (none : Option Nat) = none ∧ b4 = b4 ∧ (none : Option Nat) = none ∧ b3 = b3 ∧ (none : Option Nat) = none ∧ b3 = b3 ∧ (none : Option Nat) = none ∧ b3 = b3 ∧ (none : Option Nat) = none ∧ b3 = b3 ∧ (none : Option Nat) = none ∧ b3 = b3 ∧ (none : Option Nat) = none ∧ b3 = b3 ∧ (none : Option Nat) = none ∧ b3 = b3 ∧ (none : Option Nat) = none ∧ b3 = b3 ∧ (none : Option Nat) = none ∧ ∃ zx : Int × Int, (R4 zx.1 ∧ zx = hSub (num (vI a)) (num (vI b))) ∧ Value.tuple #[.agg #[.int .u64 x5.1, .int .u64 x6.1, .int .u64 x7.1, .int .u64 x8.1], .int .i64 0] = .tuple #[vI zx.1, .int .i64 zx.2] ∧ True)) := by kernel_rfl
set_option maxRecDepth 100000 in
theorem huge_chainSub (a : Int) (b : Int) (r_a : R4 a) (r_b : R4 b) : CallT Try.prog 85 #[vI a, vI b, .func (.func 89) #[] #[]] [] (Int × Int) (fun zx => .tuple #[vI zx.1, .int .i64 zx.2]) (fun zx => []) (fun zx => (R4 zx.1 ∧ zx = hSub (num (vI a)) (num (vI b)))) := by
  refine call_of (c := bodyOf Try.f85) (n := 33) (fn := Try.f85) Try.mixed Try.func85 (by kernel_rfl) (by kernel_rfl) (by kernel_rfl) 2000 _ [.rd 2, .rd 2, .rd 2, .rd 2] [] rfl rfl (Eq.mpr (huge_chainSub_vc a b) ?_)
  intro b1
  intro b2
  intro b3
  intro b4
  refine ⟨rfl, ?_⟩
  refine ⟨rfl, rfl, rfl, rfl, limb_Sub (lim a 0) (lim b 0) (0 : Int) (by first | assumption | exact W_lim _ _ | (unfold W; decide)) (by first | assumption | exact W_lim _ _ | (unfold W; decide)), wit_sub (by first | assumption | exact W_lim _ _ | (unfold W; decide)) (by first | assumption | exact W_lim _ _ | (unfold W; decide)), ?_⟩
  intro x5
  intro h1
  have wh1 := h1.s
  refine ⟨rfl, rfl, ?_⟩
  refine ⟨rfl, ?_⟩
  refine ⟨rfl, rfl, rfl, rfl, limb_Sub (lim a 1) (lim b 1) x5.2 (by first | assumption | exact W_lim _ _ | (unfold W; decide)) (by first | assumption | exact W_lim _ _ | (unfold W; decide)), wit_sub (by first | assumption | exact W_lim _ _ | (unfold W; decide)) (by first | assumption | exact W_lim _ _ | (unfold W; decide)), ?_⟩
  intro x6
  intro h2
  have wh2 := h2.s
  refine ⟨rfl, rfl, ?_⟩
  refine ⟨rfl, ?_⟩
  refine ⟨rfl, rfl, rfl, rfl, limb_Sub (lim a 2) (lim b 2) x6.2 (by first | assumption | exact W_lim _ _ | (unfold W; decide)) (by first | assumption | exact W_lim _ _ | (unfold W; decide)), wit_sub (by first | assumption | exact W_lim _ _ | (unfold W; decide)) (by first | assumption | exact W_lim _ _ | (unfold W; decide)), ?_⟩
  intro x7
  intro h3
  have wh3 := h3.s
  refine ⟨rfl, rfl, ?_⟩
  refine ⟨rfl, ?_⟩
  refine ⟨rfl, rfl, rfl, rfl, limb_Sub (lim a 3) (lim b 3) x7.2 (by first | assumption | exact W_lim _ _ | (unfold W; decide)) (by first | assumption | exact W_lim _ _ | (unfold W; decide)), wit_sub (by first | assumption | exact W_lim _ _ | (unfold W; decide)) (by first | assumption | exact W_lim _ _ | (unfold W; decide)), ?_⟩
  intro x8
  intro h4
  have wh4 := h4.s
  refine ⟨rfl, rfl, ?_⟩
  refine ⟨rfl, ?_⟩
  refine ⟨fun h5 => ?_, fun h5 => ?_⟩
  · refine ⟨rfl, rfl, rfl, rfl, rfl, rfl, rfl, rfl, ?_⟩
    refine ⟨rfl, rfl, rfl, rfl, rfl, rfl, rfl, rfl, ?_⟩
    exact fin2 (chain_sub_ov (by assumption) (by assumption) (by assumption) (by assumption) ‹_›) R4_zero vI_zero
  · refine ⟨rfl, rfl, rfl, rfl, rfl, rfl, rfl, rfl, rfl, rfl, rfl, rfl, rfl, rfl, rfl, rfl, ?_⟩
    refine ⟨rfl, rfl, rfl, rfl, rfl, rfl, rfl, rfl, ?_⟩
    exact fin2 (chain_sub_ok (by assumption) (by assumption) (by assumption) (by assumption) ‹_›) (R4_num4 (by assumption) (by assumption) (by assumption) (by assumption)) (vI_num4 (by assumption) (by assumption) (by assumption) (by assumption))

def huge_Add_C : List Value → List Slot → Ctr := fun vs hs => ⟨Int × Int, fun zx => .tuple #[vI zx.1, .int .i64 zx.2], fun _ => hs, fun zx => R4 zx.1 ∧ zx = hAdd (num (varg vs 1)) (num (varg vs 2))⟩
set_option maxRecDepth 100000 in
theorem huge_Add_vc (a : Int) (b : Int) : codeW Try.prog 11 none 2000 none (bodyOf Try.f47) (.reg [.sem [.nw 0], .sem [.nw 1], .sem [.nw 2], .sem []] (.reg [.sem [.rd 0, .rd 0, .rd 0, .rd 0], .sem [.rd 1, .rd 1, .rd 1, .rd 1], .callr [] huge_chainAdd_C, .sem [], .sem [], .sem [.wr 2, .wr 2, .wr 2, .wr 2], .sem []] (.done)))
    (init #[vI a, vI b] []) (finW Try.prog Try.f47 [.rd 2, .rd 2, .rd 2, .rd 2] [] (X := Int × Int) (fun zx => .tuple #[vI zx.1, .int .i64 zx.2]) (fun zx => []) (fun zx => (R4 zx.1 ∧ zx = hAdd (num (vI a)) (num (vI b))))) =
    (∀ b1 : Nat, ∀ b2 : Nat, ∀ b3 : Nat, b1 = b1 ∧ (none : Option Nat) = none ∧ b1 = b1 ∧ (none : Option Nat) = none ∧ b1 = b1 ∧ (none : Option Nat) = none ∧ b1 = b1 ∧ (none : Option Nat) = none ∧ b2 = b2 ∧ (none : Option Nat) = none ∧ b2 = b2 ∧ (none : Option Nat) = none ∧ b2 = b2 ∧ (none : Option Nat) = none ∧ b2 = b2 ∧ (none : Option Nat) = none ∧ (CallT Try.prog 85 #[vI a, vI b, .func (.func 86) #[] #[]] [] (Int × Int) (fun zx => .tuple #[vI zx.1, .int .i64 zx.2]) (fun _ => []) (fun zx => R4 zx.1 ∧ zx = hAdd (num (vI a)) (num (vI b)))) ∧ (∃ zx : Int × Int, (fun zx => R4 zx.1 ∧ zx = hAdd (num (vI a)) (num (vI b))) zx) ∧ ∀ x4 : Int × Int, (R4 x4.1 ∧ x4 = hAdd (num (vI a)) (num (vI b))) → b3 = b3 ∧ (none : Option Nat) = none ∧ b3 = b3 ∧ (none : Option Nat) = none ∧ b3 = b3 ∧ (none : Option Nat) = none ∧ b3 = b3 ∧ (none : Option Nat) = none ∧ b3 = b3 ∧ (none : Option Nat) = none ∧ b3 = b3 ∧ (none : Option Nat) = none ∧ b3 = b3 ∧ (none : Option Nat) = none ∧ b3 = b3 ∧ (none : Option Nat) = none ∧ ∃ zx : Int × Int, (R4 zx.1 ∧ zx = hAdd (num (vI a)) (num (vI b))) ∧ Value.tuple #[vI x4.1, .int .i64 x4.2] = .tuple #[vI zx.1, .int .i64 zx.2] ∧ True) := by kernel_rfl
set_option maxRecDepth 100000 in
theorem huge_Add (a : Int) (b : Int) (r_a : R4 a) (r_b : R4 b) : CallT Try.prog 47 #[vI a, vI b] [] (Int × Int) (fun zx => .tuple #[vI zx.1, .int .i64 zx.2]) (fun zx => []) (fun zx => (R4 zx.1 ∧ zx = hAdd (num (vI a)) (num (vI b)))) := by
  refine call_of (c := bodyOf Try.f47) (n := 11) (fn := Try.f47) Try.mixed Try.func47 (by kernel_rfl) (by kernel_rfl) (by kernel_rfl) 2000 _ [.rd 2, .rd 2, .rd 2, .rd 2] [] rfl rfl (Eq.mpr (huge_Add_vc a b) ?_)
  intro b1
  intro b2
  intro b3
  refine ⟨rfl, rfl, rfl, rfl, rfl, rfl, rfl, rfl, rfl, rfl, rfl, rfl, rfl, rfl, rfl, rfl, huge_chainAdd a b (by assumption) (by assumption), ⟨hAdd (num (vI a)) (num (vI b)), hAdd_R (R4_num _) (R4_num _), rfl⟩, ?_⟩
  intro x4
  intro h1
  obtain ⟨rh1_1, h1⟩ := h1
  try simp only [num_vI (n := a) (by assumption), num_vI (n := b) (by assumption)] at h1
  refine ⟨rfl, rfl, rfl, rfl, rfl, rfl, rfl, rfl, ?_⟩
  refine ⟨rfl, rfl, rfl, rfl, rfl, rfl, rfl, rfl, ?_⟩
  exact ⟨_, ⟨rh1_1, by rw [num_vI r_a, num_vI r_b]; exact h1⟩, rfl, trivial⟩

def huge_Sub_C : List Value → List Slot → Ctr := fun vs hs => ⟨Int × Int, fun zx => .tuple #[vI zx.1, .int .i64 zx.2], fun _ => hs, fun zx => R4 zx.1 ∧ zx = hSub (num (varg vs 1)) (num (varg vs 2))⟩
set_option maxRecDepth 100000 in
theorem huge_Sub_vc (a : Int) (b : Int) : codeW Try.prog 11 none 2000 none (bodyOf Try.f54) (.reg [.sem [.nw 0], .sem [.nw 1], .sem [.nw 2], .sem []] (.reg [.sem [.rd 0, .rd 0, .rd 0, .rd 0], .sem [.rd 1, .rd 1, .rd 1, .rd 1], .callr [] huge_chainSub_C, .sem [], .sem [], .sem [.wr 2, .wr 2, .wr 2, .wr 2], .sem []] (.done)))
    (init #[vI a, vI b] []) (finW Try.prog Try.f54 [.rd 2, .rd 2, .rd 2, .rd 2] [] (X := Int × Int) (fun zx => .tuple #[vI zx.1, .int .i64 zx.2]) (fun zx => []) (fun zx => (R4 zx.1 ∧ zx = hSub (num (vI a)) (num (vI b))))) =
    (∀ b1 : Nat, ∀ b2 : Nat, ∀ b3 : Nat, b1 = b1 ∧ (none : Option Nat) = none ∧ b1 = b1 ∧ (none : Option Nat) = none ∧ b1 = b1 ∧ (none : Option Nat) = none ∧ b1 = b1 ∧ (none : Option Nat) = none ∧ b2 = b2 ∧ (none : Option Nat) = none ∧ b2 = b2 ∧ (none : Option Nat) = none ∧ b2 = b2 ∧ (none : Option Nat) = none ∧ b2 = b2 ∧ (none : Option Nat) = none ∧ (CallT Try.prog 85 #[vI a, vI b, .func (.func 89) #[] #[]] [] (Int × Int) (fun zx => .tuple #[vI zx.1, .int .i64 zx.2]) (fun _ => []) (fun zx => R4 zx.1 ∧ zx = hSub (num (vI a)) (num (vI b)))) ∧ (∃ zx : Int × Int, (fun zx => R4 zx.1 ∧ zx = hSub (num (vI a)) (num (vI b))) zx) ∧ ∀ x4 : Int × Int, (R4 x4.1 ∧ x4 = hSub (num (vI a)) (num (vI b))) → b3 = b3 ∧ (none : Option Nat) = none ∧ b3 = b3 ∧ (none : Option Nat) = none ∧ b3 = b3 ∧ (none : Option Nat) = none ∧ b3 = b3 ∧ (none : Option Nat) = none ∧ b3 = b3 ∧ (none : Option Nat) = none ∧ b3 = b3 ∧ (none : Option Nat) = none ∧ b3 = b3 ∧ (none : Option Nat) = none ∧ b3 = b3 ∧ (none : Option Nat) = none ∧ ∃ zx : Int × Int, (R4 zx.1 ∧ zx = hSub (num (vI a)) (num (vI b))) ∧ Value.tuple #[vI x4.1, .int .i64 x4.2] = .tuple #[vI zx.1, .int .i64 zx.2] ∧ True) := by kernel_rfl
set_option maxRecDepth 100000 in
theorem huge_Sub (a : Int) (b : Int) (r_a : R4 a) (r_b : R4 b) : CallT Try.prog 54 #[vI a, vI b] [] (Int × Int) (fun zx => .tuple #[vI zx.1, .int .i64 zx.2]) (fun zx => []) (fun zx => (R4 zx.1 ∧ zx = hSub (num (vI a)) (num (vI b)))) := by
  refine call_of (c := bodyOf Try.f54) (n := 11) (fn := Try.f54) Try.mixed Try.func54 (by kernel_rfl) (by kernel_rfl) (by kernel_rfl) 2000 _ [.rd 2, .rd 2, .rd 2, .rd 2] [] rfl rfl (Eq.mpr (huge_Sub_vc a b) ?_)
  intro b1
  intro b2
  intro b3
  refine ⟨rfl, rfl, rfl, rfl, rfl, rfl, rfl, rfl, rfl, rfl, rfl, rfl, rfl, rfl, rfl, rfl, huge_chainSub a b (by assumption) (by assumption), ⟨hSub (num (vI a)) (num (vI b)), hSub_R (R4_num _) (R4_num _), rfl⟩, ?_⟩
  intro x4
  intro h1
  obtain ⟨rh1_1, h1⟩ := h1
  try simp only [num_vI (n := a) (by assumption), num_vI (n := b) (by assumption)] at h1
  refine ⟨rfl, rfl, rfl, rfl, rfl, rfl, rfl, rfl, ?_⟩
  refine ⟨rfl, rfl, rfl, rfl, rfl, rfl, rfl, rfl, ?_⟩
  exact ⟨_, ⟨rh1_1, by rw [num_vI r_a, num_vI r_b]; exact h1⟩, rfl, trivial⟩

theorem Try.xeq44 (a b : Int) : PureRun Try.prog (xBin .eql 44 (vI a) (vI b)) (.bool (num (vI a) == num (vI b))) := xeq4 (e := 27) (by kernel_rfl) (by kernel_rfl) (fun w => by kernel_rfl) (fun w => by kernel_rfl) (by kernel_rfl) a b
theorem Try.sl41 : SlT Try.prog 41 3 (.int .i64 0) := SlT.of (by kernel_rfl) (by kernel_rfl) (by kernel_rfl) (by kernel_rfl) rfl
theorem Try.agg3 : ∀ w, (isAgg 3).run Try.prog w = .ok false w := fun w => by kernel_rfl
def ref1_at_C : List Value → List Slot → Ctr := fun vs hs => ⟨Int, fun zx => .int .i64 zx, fun _ => hs, fun zx => zx = dgt (rdv (varg vs 1) (sarg hs 0)) (ci (varg vs 2)).toNat⟩
set_option maxRecDepth 100000 in
theorem ref1_at_vc (a : Row) (i : Int) : codeW Try.prog 13 none 2000 none (bodyOf Try.f72) (.reg [.sem []] (.reg [.sem [], .sem [], .eq (f_len), .sem []] (.cond (.reg [.sem [], .sem [], .eq (f_idx), .specr [0] F_get, .sem []] (.done)) (.reg [.sem []] (.done)))))
    (init #[sv a, .int .i64 i] [(ss 3 a)]) (finW Try.prog Try.f72 [] [0] (X := Int) (fun zx => .int .i64 zx) (fun zx => [(ss 3 a)]) (fun zx => (zx = dgt (rdv (sv a) (ss 3 a)) i.toNat))) =
    ((PureRun Try.prog (do pure (.value (← Builtin.len_ #[41] 3 #[sv a]))) (.int .i64 ((vlen (sv a) : Nat) : Int))) ∧ ((decide (i < ((vlen (sv a) : Nat) : Int))) = true → (PureRun Try.prog (do pure (.value (← Instr.indexAt 41 (sv a) (.int .i64 i)))) (.pointer (some ⟨(vblk (sv a)), (Int.toNat i), none⟩))) ∧ (OpT Try.prog (do pure (.value (← Instr.loadAt 3 (.pointer (some ⟨(vblk (sv a)), (Int.toNat i), none⟩))))) [(ss 3 a)] Int (fun zx => .int .i64 zx) (fun _ => [(ss 3 a)]) (fun zx => (scells (ss 3 a))[(Int.toNat i)]? = some (.int .i64 zx))) ∧ (∃ zx : Int, (fun zx => (scells (ss 3 a))[(Int.toNat i)]? = some (.int .i64 zx)) zx) ∧ ∀ x1 : Int, ((scells (ss 3 a))[(Int.toNat i)]? = some (.int .i64 x1)) → ∃ zx : Int, (zx = dgt (rdv (sv a) (ss 3 a)) i.toNat) ∧ Value.int .i64 x1 = .int .i64 zx ∧ (ss 3 a) = (ss 3 a) ∧ True) ∧ ((decide (i < ((vlen (sv a) : Nat) : Int))) = false → ∃ zx : Int, (zx = dgt (rdv (sv a) (ss 3 a)) i.toNat) ∧ Value.int .i64 0 = .int .i64 zx ∧ (ss 3 a) = (ss 3 a) ∧ True)) := by kernel_rfl
set_option maxRecDepth 100000 in
theorem ref1_at (a : Row) (i : Int) (r_a : RowOK a) (hi : 0 ≤ i) : CallT Try.prog 72 #[sv a, .int .i64 i] [(ss 3 a)] Int (fun zx => .int .i64 zx) (fun zx => [(ss 3 a)]) (fun zx => (zx = dgt (rdv (sv a) (ss 3 a)) i.toNat)) := by
  refine call_of (c := bodyOf Try.f72) (n := 13) (fn := Try.f72) Try.mixed Try.func72 (by kernel_rfl) (by kernel_rfl) (by kernel_rfl) 2000 _ [] [0] rfl rfl (Eq.mpr (ref1_at_vc a i) ?_)
  have d_a := rdv_eq a 3
  have e_a := vlen_dg a
  refine ⟨xlen Try.sl41 3 a, ?_⟩
  refine ⟨fun h1 => ?_, fun h1 => ?_⟩
  · refine ⟨xidx Try.sl41 a .i64 i hi (by rw [← vlen_sv]; exact of_decide_eq_true (by assumption)), xgetR (e := 3) a 3 Try.agg3 (Int.toNat i) r_a (by rw [← vlen_dg]; have := of_decide_eq_true ‹_›; omega), wit_get (e := 3) a (Int.toNat i) r_a (by rw [← vlen_dg]; have := of_decide_eq_true ‹_›; omega), ?_⟩
    intro x1
    intro h2
    replace h2 := getR (e := 3) a (Int.toNat i) r_a (by rw [← vlen_dg]; have := of_decide_eq_true ‹_›; omega) h2
    exact ⟨_, by rw [d_a]; assumption, rfl, rfl, trivial⟩
  · exact ⟨0, by rw [d_a]; exact (dgt_out (by have := of_decide_eq_false ‹_›; omega)).symm, rfl, rfl, trivial⟩

def ref1_Trim_C : List Value → List Slot → Ctr := fun vs hs => ⟨Row, fun zx => sv zx, fun zx => [(ss 3 zx)], fun zx => RowOK zx ∧ ss 3 zx = (sarg hs 0) ∧ TrimR (rdv (varg vs 1) (sarg hs 0)) (dg zx)⟩
set_option maxRecDepth 100000 in
theorem ref1_Trim_vc (a : Row) : codeW Try.prog 21 none 2000 none (bodyOf Try.f68) (.reg [.sem []] (.reg [.sem [], .eq (f_len), .sem []] (.inv Nat (fun zx => [(0, sv a), (3, .int .i64 ((zx : Nat) : Int))]) (fun zx => [(0, (ss 3 a))]) (fun zx => TrimI (dg a) zx) (fun zx => zx) (fun x1 => .caseP (fun s => decide ((ci (s.fr 3)) > (0 : Int))) (.reg [.sem [], .gen [] (one (.bool true)), .sem [], .sem [], .sem [], .gen [] (fun vs => one (.int .i64 (ci (varg vs 0) - ci (varg vs 1))) vs), .eq (f_idx), .specr [0] F_get, .sem [], .sem []] (.cond (.reg [.sem [], .gen [] (fun vs => one (.int .i64 (ci (varg vs 0) - ci (varg vs 1))) vs), .sem []] (.done)) (.reg [.sem [], .sem [], .eq (f_take), .sem []] (.done)))) (.reg [.sem [], .gen [] (one (.bool false)), .sem [], .no, .no, .no, .no, .no, .no, .sem []] (.condF (.reg [.sem [], .sem [], .eq (f_take), .sem []] (.done))))))))
    (init #[sv a] [(ss 3 a)]) (finW Try.prog Try.f68 [] [0] (X := Row) (fun zx => sv zx) (fun zx => [(ss 3 zx)]) (fun zx => (RowOK zx ∧ ss 3 zx = (ss 3 a) ∧ TrimR (rdv (sv a) (ss 3 a)) (dg zx)))) =
    ((PureRun Try.prog (do pure (.value (← Builtin.len_ #[41] 3 #[sv a]))) (.int .i64 ((vlen (sv a) : Nat) : Int))) ∧ (∃ zx : Nat, (TrimI (dg a) zx) ∧ sv a = sv a ∧ Value.int .i64 ((vlen (sv a) : Nat) : Int) = .int .i64 ((zx : Nat) : Int) ∧ (ss 3 a) = (ss 3 a) ∧ True) ∧ ∀ x1 : Nat, ∀ jx1 : Nat → Value, (TrimI (dg a) x1) → ((decide (((x1 : Nat) : Int) > (0 : Int))) = true → (∃ _ : Unit, True ∧ Value.bool (decide (((x1 : Nat) : Int) > (0 : Int))) = .bool true) ∧ ∀ _ : Unit, (True) → true = true ∧ true = true ∧ true = true ∧ (∃ _ : Unit, True ∧ Value.int .i64 (IntKind.i64.wrap (((x1 : Nat) : Int) - 1)) = .int .i64 (((x1 : Nat) : Int) - 1)) ∧ ∀ _ : Unit, (True) → true = true ∧ (PureRun Try.prog (do pure (.value (← Instr.indexAt 41 (sv a) (.int .i64 (((x1 : Nat) : Int) - 1))))) (.pointer (some ⟨(vblk (sv a)), (Int.toNat (((x1 : Nat) : Int) - 1)), none⟩))) ∧ true = true ∧ (OpT Try.prog (do pure (.value (← Instr.loadAt 3 (.pointer (some ⟨(vblk (sv a)), (Int.toNat (((x1 : Nat) : Int) - 1)), none⟩))))) [(ss 3 a)] Int (fun zx => .int .i64 zx) (fun _ => [(ss 3 a)]) (fun zx => (scells (ss 3 a))[(Int.toNat (((x1 : Nat) : Int) - 1))]? = some (.int .i64 zx))) ∧ (∃ zx : Int, (fun zx => (scells (ss 3 a))[(Int.toNat (((x1 : Nat) : Int) - 1))]? = some (.int .i64 zx)) zx) ∧ ∀ x2 : Int, ((scells (ss 3 a))[(Int.toNat (((x1 : Nat) : Int) - 1))]? = some (.int .i64 x2)) → true = true ∧ ((x2 == (0 : Int)) = true → (∃ _ : Unit, True ∧ Value.int .i64 (IntKind.i64.wrap (((x1 : Nat) : Int) - 1)) = .int .i64 (((x1 : Nat) : Int) - 1)) ∧ ∀ _ : Unit, (True) → ∃ zy : Nat, (TrimI (dg a) zy) ∧ zy < x1 ∧ sv a = sv a ∧ Value.int .i64 (((x1 : Nat) : Int) - 1) = .int .i64 ((zy : Nat) : Int) ∧ (ss 3 a) = (ss 3 a) ∧ True) ∧ ((x2 == (0 : Int)) = false → (PureRun Try.prog (do pure (.value (← Instr.sliceAt 41 (sv a) none (some (.int .i64 ((x1 : Nat) : Int))) none))) ((vtake (sv a) (Int.toNat ((x1 : Nat) : Int))))) ∧ ∃ zx : Row, (RowOK zx ∧ ss 3 zx = (ss 3 a) ∧ TrimR (rdv (sv a) (ss 3 a)) (dg zx)) ∧ (vtake (sv a) (Int.toNat ((x1 : Nat) : Int))) = sv zx ∧ (ss 3 a) = (ss 3 zx) ∧ True)) ∧ ((decide (((x1 : Nat) : Int) > (0 : Int))) = false → (∃ _ : Unit, True ∧ Value.bool (decide (((x1 : Nat) : Int) > (0 : Int))) = .bool false) ∧ ∀ _ : Unit, (True) → false = !true ∧ false = !true ∧ false = !true ∧ false = !true ∧ false = !true ∧ false = !true ∧ (false = false) ∧ (PureRun Try.prog (do pure (.value (← Instr.sliceAt 41 (sv a) none (some (.int .i64 ((x1 : Nat) : Int))) none))) ((vtake (sv a) (Int.toNat ((x1 : Nat) : Int))))) ∧ ∃ zx : Row, (RowOK zx ∧ ss 3 zx = (ss 3 a) ∧ TrimR (rdv (sv a) (ss 3 a)) (dg zx)) ∧ (vtake (sv a) (Int.toNat ((x1 : Nat) : Int))) = sv zx ∧ (ss 3 a) = (ss 3 zx) ∧ True)) := by kernel_rfl
set_option maxRecDepth 100000 in
theorem ref1_Trim (a : Row) (r_a : RowOK a) (hl : (dg a).length ≤ 1073741824) : CallT Try.prog 68 #[sv a] [(ss 3 a)] Row (fun zx => sv zx) (fun zx => [(ss 3 zx)]) (fun zx => (RowOK zx ∧ ss 3 zx = (ss 3 a) ∧ TrimR (rdv (sv a) (ss 3 a)) (dg zx))) := by
  refine call_of (c := bodyOf Try.f68) (n := 21) (fn := Try.f68) Try.mixed Try.func68 (by kernel_rfl) (by kernel_rfl) (by kernel_rfl) 2000 _ [] [0] rfl rfl (Eq.mpr (ref1_Trim_vc a) ?_)
  have d_a := rdv_eq a 3
  have e_a := vlen_dg a
  refine ⟨xlen Try.sl41 3 a, ?_⟩
  refine ⟨?_, fun x1 jx1 h1 => ?_⟩
  · exact ⟨_, e_a ▸ trim_start _, rfl, rfl, rfl, trivial⟩
  · have L := h1
    have Ll := L.le
    refine ⟨fun h2 => ?_, fun h2 => ?_⟩
    · refine ⟨⟨(), trivial, congrArg Value.bool h2⟩, ?_⟩
      intro _
      intro _
      refine ⟨rfl, rfl, rfl, ⟨(), trivial, congrArg (Value.int .i64) (wrap_i64 _ (by simp only [decide_eq_true_eq, decide_eq_false_iff_not, gt_iff_lt, ge_iff_le, beq_iff_eq, beq_eq_false_iff_ne] at *; omega) (by simp only [decide_eq_true_eq, decide_eq_false_iff_not, gt_iff_lt, ge_iff_le, beq_iff_eq, beq_eq_false_iff_ne] at *; omega))⟩, ?_⟩
      intro _
      intro _
      refine ⟨rfl, xidx Try.sl41 a .i64 (((x1 : Nat) : Int) - 1) (by simp only [decide_eq_true_eq, decide_eq_false_iff_not, gt_iff_lt, ge_iff_le, beq_iff_eq, beq_eq_false_iff_ne] at *; omega) (by rw [← dg_len]; simp only [decide_eq_true_eq, decide_eq_false_iff_not, gt_iff_lt, ge_iff_le, beq_iff_eq, beq_eq_false_iff_ne] at *; omega), rfl, xgetR (e := 3) a 3 Try.agg3 (Int.toNat (((x1 : Nat) : Int) - 1)) r_a (by simp only [decide_eq_true_eq, decide_eq_false_iff_not, gt_iff_lt, ge_iff_le, beq_iff_eq, beq_eq_false_iff_ne] at *; omega), wit_get (e := 3) a (Int.toNat (((x1 : Nat) : Int) - 1)) r_a (by simp only [decide_eq_true_eq, decide_eq_false_iff_not, gt_iff_lt, ge_iff_le, beq_iff_eq, beq_eq_false_iff_ne] at *; omega), ?_⟩
      intro x2
      intro h3
      replace h3 := getR (e := 3) a (Int.toNat (((x1 : Nat) : Int) - 1)) r_a (by simp only [decide_eq_true_eq, decide_eq_false_iff_not, gt_iff_lt, ge_iff_le, beq_iff_eq, beq_eq_false_iff_ne] at *; omega) h3
      refine ⟨rfl, ?_⟩
      refine ⟨fun h4 => ?_, fun h4 => ?_⟩
      · refine ⟨⟨(), trivial, congrArg (Value.int .i64) (wrap_i64 _ (by simp only [decide_eq_true_eq, decide_eq_false_iff_not, gt_iff_lt, ge_iff_le, beq_iff_eq, beq_eq_false_iff_ne] at *; omega) (by simp only [decide_eq_true_eq, decide_eq_false_iff_not, gt_iff_lt, ge_iff_le, beq_iff_eq, beq_eq_false_iff_ne] at *; omega))⟩, ?_⟩
        intro _
        intro _
        have hd : dgt (dg a) (x1 - 1) = 0 := by
          simp only [decide_eq_true_eq, decide_eq_false_iff_not, gt_iff_lt, ge_iff_le, beq_iff_eq, beq_eq_false_iff_ne] at *
          have e1 : Int.toNat (((x1 : Nat) : Int) - 1) = x1 - 1 := by omega
          simp_all
        exact ⟨x1 - 1, trim_step L (by simp only [decide_eq_true_eq, decide_eq_false_iff_not, gt_iff_lt, ge_iff_le, beq_iff_eq, beq_eq_false_iff_ne] at *; omega) hd, (by simp only [decide_eq_true_eq, decide_eq_false_iff_not, gt_iff_lt, ge_iff_le, beq_iff_eq, beq_eq_false_iff_ne] at *; omega), rfl, congrArg (Value.int .i64) (by simp only [decide_eq_true_eq, decide_eq_false_iff_not, gt_iff_lt, ge_iff_le, beq_iff_eq, beq_eq_false_iff_ne] at *; omega), rfl, trivial⟩
      · refine ⟨xtake Try.sl41 a .i64 ((x1 : Nat) : Int) (by omega) (by rw [← dg_len]; omega), ?_⟩
        refine ⟨a.take x1, ⟨(r_a.take _).1, ss_take _ _ _, ?_⟩, vtake_sv a _ (by rw [← dg_len]; exact L.le), (ss_take _ _ _).symm, trivial⟩
        rw [d_a, (r_a.take _).2]
        refine trim_end L ?_
        simp only [decide_eq_true_eq, decide_eq_false_iff_not, gt_iff_lt, ge_iff_le, beq_iff_eq, beq_eq_false_iff_ne] at *
        first | exact .inl (by omega) | exact .inr (by rename_i hne; intro h0; simp_all) | exact .inr (by intro h0; simp_all)
    · refine ⟨⟨(), trivial, congrArg Value.bool h2⟩, ?_⟩
      intro _
      intro _
      refine ⟨rfl, rfl, rfl, rfl, rfl, rfl, ?_⟩
      refine ⟨rfl, ?_⟩
      refine ⟨xtake Try.sl41 a .i64 ((x1 : Nat) : Int) (by omega) (by rw [← dg_len]; omega), ?_⟩
      refine ⟨a.take x1, ⟨(r_a.take _).1, ss_take _ _ _, ?_⟩, vtake_sv a _ (by rw [← dg_len]; exact L.le), (ss_take _ _ _).symm, trivial⟩
      rw [d_a, (r_a.take _).2]
      refine trim_end L ?_
      simp only [decide_eq_true_eq, decide_eq_false_iff_not, gt_iff_lt, ge_iff_le, beq_iff_eq, beq_eq_false_iff_ne] at *
      first | exact .inl (by omega) | exact .inr (by rename_i hne; intro h0; simp_all) | exact .inr (by intro h0; simp_all)

def ref1_Cmp_C : List Value → List Slot → Ctr := fun vs hs => ⟨Int, fun zx => .int .i64 zx, fun _ => hs, fun zx => zx = hCmp (nv (rdv (varg vs 1) (sarg hs 0))) (nv (rdv (varg vs 2) (sarg hs 1)))⟩
set_option maxRecDepth 100000 in
theorem ref1_Cmp_vc (a : Row) (b : Row) : codeW Try.prog 30 none 2000 none (bodyOf Try.f27) (.reg [.sem []] (.reg [.sem [], .eq (f_len), .sem [], .eq (f_len), .sem [], .gen [] (fun vs => one (.int .i64 (ci (varg vs 0) - ci (varg vs 1))) vs), .sem []] (.inv Nat (fun zx => [(0, sv a), (1, sv b), (5, .int .i64 (((zx : Nat) : Int) - 1))]) (fun zx => [(0, (ss 3 a)), (1, (ss 3 b))]) (fun zx => CmpI (dg a) (dg b) zx) (fun zx => zx) (fun x1 => .reg [.sem [], .sem []] (.cond (.reg [.sem [], .sem [], .callr [0] ref1_at_C, .sem [], .sem [], .callr [1] ref1_at_C, .sem []] (.cond (.reg [.sem []] (.done)) (.reg [.sem [], .sem [], .callr [0] ref1_at_C, .sem [], .sem [], .callr [1] ref1_at_C, .sem []] (.cond (.reg [.sem []] (.done)) (.reg [.sem [], .gen [] (fun vs => one (.int .i64 (ci (varg vs 0) - ci (varg vs 1))) vs), .sem []] (.done)))))) (.reg [.sem []] (.done)))))))
    (init #[sv a, sv b] [(ss 3 a), (ss 3 b)]) (finW Try.prog Try.f27 [] [0, 1] (X := Int) (fun zx => .int .i64 zx) (fun zx => [(ss 3 a), (ss 3 b)]) (fun zx => (zx = hCmp (nv (rdv (sv a) (ss 3 a))) (nv (rdv (sv b) (ss 3 b)))))) =
    ((PureRun Try.prog (do pure (.value (← Builtin.len_ #[41] 3 #[sv a]))) (.int .i64 ((vlen (sv a) : Nat) : Int))) ∧ (PureRun Try.prog (do pure (.value (← Builtin.len_ #[41] 3 #[sv b]))) (.int .i64 ((vlen (sv b) : Nat) : Int))) ∧ (∃ _ : Unit, True ∧ Value.int .i64 (IntKind.i64.wrap ((if ((vlen (sv b) : Nat) : Int) > ((vlen (sv a) : Nat) : Int) then ((vlen (sv b) : Nat) : Int) else ((vlen (sv a) : Nat) : Int)) - 1)) = .int .i64 ((if ((vlen (sv b) : Nat) : Int) > ((vlen (sv a) : Nat) : Int) then ((vlen (sv b) : Nat) : Int) else ((vlen (sv a) : Nat) : Int)) - 1)) ∧ ∀ _ : Unit, (True) → (∃ zx : Nat, (CmpI (dg a) (dg b) zx) ∧ sv a = sv a ∧ sv b = sv b ∧ Value.int .i64 ((if ((vlen (sv b) : Nat) : Int) > ((vlen (sv a) : Nat) : Int) then ((vlen (sv b) : Nat) : Int) else ((vlen (sv a) : Nat) : Int)) - 1) = .int .i64 (((zx : Nat) : Int) - 1) ∧ (ss 3 a) = (ss 3 a) ∧ (ss 3 b) = (ss 3 b) ∧ True) ∧ ∀ x1 : Nat, ∀ jx1 : Nat → Value, (CmpI (dg a) (dg b) x1) → ((decide ((((x1 : Nat) : Int) - 1) ≥ (0 : Int))) = true → (CallT Try.prog 72 #[sv a, .int .i64 (((x1 : Nat) : Int) - 1)] [(ss 3 a)] Int (fun zx => .int .i64 zx) (fun _ => [(ss 3 a)]) (fun zx => zx = dgt (rdv (sv a) (ss 3 a)) (((x1 : Nat) : Int) - 1).toNat)) ∧ (∃ zx : Int, (fun zx => zx = dgt (rdv (sv a) (ss 3 a)) (((x1 : Nat) : Int) - 1).toNat) zx) ∧ ∀ x2 : Int, (x2 = dgt (rdv (sv a) (ss 3 a)) (((x1 : Nat) : Int) - 1).toNat) → (CallT Try.prog 72 #[sv b, .int .i64 (((x1 : Nat) : Int) - 1)] [(ss 3 b)] Int (fun zx => .int .i64 zx) (fun _ => [(ss 3 b)]) (fun zx => zx = dgt (rdv (sv b) (ss 3 b)) (((x1 : Nat) : Int) - 1).toNat)) ∧ (∃ zx : Int, (fun zx => zx = dgt (rdv (sv b) (ss 3 b)) (((x1 : Nat) : Int) - 1).toNat) zx) ∧ ∀ x3 : Int, (x3 = dgt (rdv (sv b) (ss 3 b)) (((x1 : Nat) : Int) - 1).toNat) → ((decide (x2 < x3)) = true → ∃ zx : Int, (zx = hCmp (nv (rdv (sv a) (ss 3 a))) (nv (rdv (sv b) (ss 3 b)))) ∧ Value.int .i64 (-1) = .int .i64 zx ∧ (ss 3 a) = (ss 3 a) ∧ (ss 3 b) = (ss 3 b) ∧ True) ∧ ((decide (x2 < x3)) = false → (CallT Try.prog 72 #[sv a, .int .i64 (((x1 : Nat) : Int) - 1)] [(ss 3 a)] Int (fun zx => .int .i64 zx) (fun _ => [(ss 3 a)]) (fun zx => zx = dgt (rdv (sv a) (ss 3 a)) (((x1 : Nat) : Int) - 1).toNat)) ∧ (∃ zx : Int, (fun zx => zx = dgt (rdv (sv a) (ss 3 a)) (((x1 : Nat) : Int) - 1).toNat) zx) ∧ ∀ x4 : Int, (x4 = dgt (rdv (sv a) (ss 3 a)) (((x1 : Nat) : Int) - 1).toNat) → (CallT Try.prog 72 #[sv b, .int .i64 (((x1 : Nat) : Int) - 1)] [(ss 3 b)] Int (fun zx => .int .i64 zx) (fun _ => [(ss 3 b)]) (fun zx => zx = dgt (rdv (sv b) (ss 3 b)) (((x1 : Nat) : Int) - 1).toNat)) ∧ (∃ zx : Int, (fun zx => zx = dgt (rdv (sv b) (ss 3 b)) (((x1 : Nat) : Int) - 1).toNat) zx) ∧ ∀ x5 : Int, (x5 = dgt (rdv (sv b) (ss 3 b)) (((x1 : Nat) : Int) - 1).toNat) → ((decide (x4 > x5)) = true → ∃ zx : Int, (zx = hCmp (nv (rdv (sv a) (ss 3 a))) (nv (rdv (sv b) (ss 3 b)))) ∧ Value.int .i64 1 = .int .i64 zx ∧ (ss 3 a) = (ss 3 a) ∧ (ss 3 b) = (ss 3 b) ∧ True) ∧ ((decide (x4 > x5)) = false → (∃ _ : Unit, True ∧ Value.int .i64 (IntKind.i64.wrap ((((x1 : Nat) : Int) - 1) - 1)) = .int .i64 ((((x1 : Nat) : Int) - 1) - 1)) ∧ ∀ _ : Unit, (True) → ∃ zy : Nat, (CmpI (dg a) (dg b) zy) ∧ zy < x1 ∧ sv a = sv a ∧ sv b = sv b ∧ Value.int .i64 ((((x1 : Nat) : Int) - 1) - 1) = .int .i64 (((zy : Nat) : Int) - 1) ∧ (ss 3 a) = (ss 3 a) ∧ (ss 3 b) = (ss 3 b) ∧ True))) ∧ ((decide ((((x1 : Nat) : Int) - 1) ≥ (0 : Int))) = false → ∃ zx : Int, (zx = hCmp (nv (rdv (sv a) (ss 3 a))) (nv (rdv (sv b) (ss 3 b)))) ∧ Value.int .i64 0 = .int .i64 zx ∧ (ss 3 a) = (ss 3 a) ∧ (ss 3 b) = (ss 3 b) ∧ True)) := by kernel_rfl
set_option maxRecDepth 100000 in
theorem ref1_Cmp (a : Row) (b : Row) (r_a : RowOK a) (r_b : RowOK b) (la : (dg a).length ≤ 65536) (lb : (dg b).length ≤ 65536) : CallT Try.prog 27 #[sv a, sv b] [(ss 3 a), (ss 3 b)] Int (fun zx => .int .i64 zx) (fun zx => [(ss 3 a), (ss 3 b)]) (fun zx => (zx = hCmp (nv (rdv (sv a) (ss 3 a))) (nv (rdv (sv b) (ss 3 b))))) := by
  refine call_of (c := bodyOf Try.f27) (n := 30) (fn := Try.f27) Try.mixed Try.func27 (by kernel_rfl) (by kernel_rfl) (by kernel_rfl) 2000 _ [] [0, 1] rfl rfl (Eq.mpr (ref1_Cmp_vc a b) ?_)
  have d_a := rdv_eq a 3
  have d_b := rdv_eq b 3
  have e_a := vlen_dg a
  have e_b := vlen_dg b
  refine ⟨xlen Try.sl41 3 a, xlen Try.sl41 3 b, ⟨(), trivial, congrArg (Value.int .i64) (wrap_i64 _ (by rw [e_a, e_b]; split <;> omega) (by rw [e_a, e_b]; split <;> omega))⟩, ?_⟩
  intro _
  intro _
  refine ⟨?_, fun x1 jx1 h1 => ?_⟩
  · exact ⟨_, cmp_start _ _, rfl, rfl, congrArg (Value.int .i64) (by rw [e_a, e_b]; split <;> omega), rfl, rfl, trivial⟩
  · have L := h1
    have Ll := L.le
    refine ⟨fun h2 => ?_, fun h2 => ?_⟩
    · refine ⟨ref1_at a (((x1 : Nat) : Int) - 1) (by first | assumption | exact rowOK_lit _ _ (by decide)) (by simp only [decide_eq_true_eq, decide_eq_false_iff_not, gt_iff_lt, ge_iff_le, beq_iff_eq, beq_eq_false_iff_ne] at *; omega), ⟨_, rfl⟩, ?_⟩
      intro x2
      intro h3
      simp only [rdv_eq] at h3
      refine ⟨ref1_at b (((x1 : Nat) : Int) - 1) (by first | assumption | exact rowOK_lit _ _ (by decide)) (by simp only [decide_eq_true_eq, decide_eq_false_iff_not, gt_iff_lt, ge_iff_le, beq_iff_eq, beq_eq_false_iff_ne] at *; omega), ⟨_, rfl⟩, ?_⟩
      intro x3
      intro h4
      simp only [rdv_eq] at h4
      refine ⟨fun h5 => ?_, fun h5 => ?_⟩
      · have et : Int.toNat (((x1 : Nat) : Int) - 1) = x1 - 1 := by simp only [decide_eq_true_eq, decide_eq_false_iff_not, gt_iff_lt, ge_iff_le, beq_iff_eq, beq_eq_false_iff_ne] at *; omega
        have hd : dgt (dg a) (x1 - 1) < dgt (dg b) (x1 - 1) := by
          simp only [et] at *
          simp only [decide_eq_true_eq, decide_eq_false_iff_not, gt_iff_lt, ge_iff_le, beq_iff_eq, beq_eq_false_iff_ne] at *
          omega
        exact ⟨_, by rw [d_a, d_b]; exact hCmp_lt (cmp_lt r_a.dig r_b.dig L (by simp only [decide_eq_true_eq, decide_eq_false_iff_not, gt_iff_lt, ge_iff_le, beq_iff_eq, beq_eq_false_iff_ne] at *; omega) hd), rfl, rfl, rfl, trivial⟩
      · refine ⟨ref1_at a (((x1 : Nat) : Int) - 1) (by first | assumption | exact rowOK_lit _ _ (by decide)) (by simp only [decide_eq_true_eq, decide_eq_false_iff_not, gt_iff_lt, ge_iff_le, beq_iff_eq, beq_eq_false_iff_ne] at *; omega), ⟨_, rfl⟩, ?_⟩
        intro x4
        intro h6
        simp only [rdv_eq] at h6
        refine ⟨ref1_at b (((x1 : Nat) : Int) - 1) (by first | assumption | exact rowOK_lit _ _ (by decide)) (by simp only [decide_eq_true_eq, decide_eq_false_iff_not, gt_iff_lt, ge_iff_le, beq_iff_eq, beq_eq_false_iff_ne] at *; omega), ⟨_, rfl⟩, ?_⟩
        intro x5
        intro h7
        simp only [rdv_eq] at h7
        refine ⟨fun h8 => ?_, fun h8 => ?_⟩
        · have et : Int.toNat (((x1 : Nat) : Int) - 1) = x1 - 1 := by simp only [decide_eq_true_eq, decide_eq_false_iff_not, gt_iff_lt, ge_iff_le, beq_iff_eq, beq_eq_false_iff_ne] at *; omega
          have hd : dgt (dg a) (x1 - 1) > dgt (dg b) (x1 - 1) := by
            simp only [et] at *
            simp only [decide_eq_true_eq, decide_eq_false_iff_not, gt_iff_lt, ge_iff_le, beq_iff_eq, beq_eq_false_iff_ne] at *
            omega
          exact ⟨_, by rw [d_a, d_b]; exact hCmp_gt (cmp_lt r_b.dig r_a.dig L.symm (by simp only [decide_eq_true_eq, decide_eq_false_iff_not, gt_iff_lt, ge_iff_le, beq_iff_eq, beq_eq_false_iff_ne] at *; omega) hd), rfl, rfl, rfl, trivial⟩
        · refine ⟨⟨(), trivial, congrArg (Value.int .i64) (wrap_i64 _ (by simp only [decide_eq_true_eq, decide_eq_false_iff_not, gt_iff_lt, ge_iff_le, beq_iff_eq, beq_eq_false_iff_ne] at *; omega) (by simp only [decide_eq_true_eq, decide_eq_false_iff_not, gt_iff_lt, ge_iff_le, beq_iff_eq, beq_eq_false_iff_ne] at *; omega))⟩, ?_⟩
          intro _
          intro _
          have et : Int.toNat (((x1 : Nat) : Int) - 1) = x1 - 1 := by simp only [decide_eq_true_eq, decide_eq_false_iff_not, gt_iff_lt, ge_iff_le, beq_iff_eq, beq_eq_false_iff_ne] at *; omega
          have hd : dgt (dg a) (x1 - 1) = dgt (dg b) (x1 - 1) := by
            simp only [et] at *
            simp only [decide_eq_true_eq, decide_eq_false_iff_not, gt_iff_lt, ge_iff_le, beq_iff_eq, beq_eq_false_iff_ne] at *
            omega
          exact ⟨x1 - 1, cmp_step L (by simp only [decide_eq_true_eq, decide_eq_false_iff_not, gt_iff_lt, ge_iff_le, beq_iff_eq, beq_eq_false_iff_ne] at *; omega) hd, (by simp only [decide_eq_true_eq, decide_eq_false_iff_not, gt_iff_lt, ge_iff_le, beq_iff_eq, beq_eq_false_iff_ne] at *; omega), rfl, rfl, congrArg (Value.int .i64) (by simp only [decide_eq_true_eq, decide_eq_false_iff_not, gt_iff_lt, ge_iff_le, beq_iff_eq, beq_eq_false_iff_ne] at *; omega), rfl, rfl, trivial⟩
    · have ez : x1 = 0 := (by simp only [decide_eq_true_eq, decide_eq_false_iff_not, gt_iff_lt, ge_iff_le, beq_iff_eq, beq_eq_false_iff_ne] at *; omega)
      rw [ez] at L
      exact ⟨_, by rw [d_a, d_b]; exact hCmp_eq (cmp_end L), rfl, rfl, rfl, trivial⟩

def ref1_Add_C : List Value → List Slot → Ctr := fun vs hs => ⟨Row, fun zx => sv zx, fun zx => [(sarg hs 0), (sarg hs 1), (ss 3 zx)], fun zx => RowOK zx ∧ nv (dg zx) = nv (rdv (varg vs 1) (sarg hs 0)) + nv (rdv (varg vs 2) (sarg hs 1)) ∧ Canon (dg zx)⟩
set_option maxRecDepth 100000 in
set_option maxHeartbeats 1000000 in
theorem ref1_Add_vc (a : Row) (b : Row) : codeW Try.prog 40 none 2000 none (bodyOf Try.f22) (.reg [.sem []] (.reg [.sem []] (.reg [.sem []] (.reg [.sem []] (.inv (Nat × Int × Row) (fun zx => [(0, sv a), (1, sv b), (5, sv zx.2.2), (6, .int .i64 zx.2.1), (7, .int .i64 ((zx.1 : Nat) : Int))]) (fun zx => [(0, (ss 3 a)), (1, (ss 3 b)), (20, (ss 3 zx.2.2))]) (fun zx => AddI (dg a) (dg b) zx.1 zx.2.1 (dg zx.2.2) ∧ RowOK zx.2.2) (fun zx => 2 * ((max (dg a).length (dg b).length) + 1 - zx.1) + zx.2.1.toNat) (fun x1 => .caseP (fun s => decide ((ci (s.fr 7)) < (if ((vlen (sv b) : Nat) : Int) > ((vlen (sv a) : Nat) : Int) then ((vlen (sv b) : Nat) : Int) else ((vlen (sv a) : Nat) : Int)))) (.reg [.sem [], .sem [], .eq (f_len), .sem [], .eq (f_len), .sem [], .gen [] (one (.bool true)), .sem [], .no, .no, .sem []] (.condT (.reg [.sem [], .sem [], .callr [0] ref1_at_C, .sem [], .sem [], .callr [1] ref1_at_C, .gen [] (fun vs => one (.int .i64 (ci (varg vs 0) + ci (varg vs 1))) vs), .sem [], .gen [] (fun vs => one (.int .i64 (ci (varg vs 0) + ci (varg vs 1))) vs), .sem []] (.reg [.sem [], .sem [], .gen [] (fun vs => one (.int .i64 (ci (varg vs 0) % 65536)) vs), .sem [.nw 2], .specw [20, 2] [20, 2] (F_app 3), .sem []] (.reg [.sem [], .gen [] (fun vs => one (.int .i64 (ci (varg vs 0) / 65536)) vs), .sem []] (.reg [.sem [], .gen [] (fun vs => one (.int .i64 (ci (varg vs 0) + ci (varg vs 1))) vs), .sem []] (.done))))))) (.reg [.sem [], .sem [], .eq (f_len), .sem [], .eq (f_len), .sem [], .gen [] (one (.bool false)), .sem [], .sem [], .sem [], .sem []] (.cond (.reg [.sem [], .sem [], .callr [0] ref1_at_C, .sem [], .sem [], .callr [1] ref1_at_C, .gen [] (fun vs => one (.int .i64 (ci (varg vs 0) + ci (varg vs 1))) vs), .sem [], .gen [] (fun vs => one (.int .i64 (ci (varg vs 0) + ci (varg vs 1))) vs), .sem []] (.reg [.sem [], .sem [], .gen [] (fun vs => one (.int .i64 (ci (varg vs 0) % 65536)) vs), .sem [.nw 2], .specw [20, 2] [20, 2] (F_app 3), .sem []] (.reg [.sem [], .gen [] (fun vs => one (.int .i64 (ci (varg vs 0) / 65536)) vs), .sem []] (.reg [.sem [], .gen [] (fun vs => one (.int .i64 (ci (varg vs 0) + ci (varg vs 1))) vs), .sem []] (.done))))) (.reg [.sem [], .callw [20] [20] ref1_Trim_C, .sem []] (.done))))))))))
    (init #[sv a, sv b] [(ss 3 a), (ss 3 b)]) (finW Try.prog Try.f22 [] [0, 1, 20] (X := Row) (fun zx => sv zx) (fun zx => [(ss 3 a), (ss 3 b), (ss 3 zx)]) (fun zx => (RowOK zx ∧ nv (dg zx) = nv (rdv (sv a) (ss 3 a)) + nv (rdv (sv b) (ss 3 b)) ∧ Canon (dg zx)))) =
    ((∃ zx : Nat × Int × Row, (AddI (dg a) (dg b) zx.1 zx.2.1 (dg zx.2.2) ∧ RowOK zx.2.2) ∧ sv a = sv a ∧ sv b = sv b ∧ Value.slice none 0 0 = sv zx.2.2 ∧ Value.int .i64 0 = .int .i64 zx.2.1 ∧ Value.int .i64 0 = .int .i64 ((zx.1 : Nat) : Int) ∧ (ss 3 a) = (ss 3 a) ∧ (ss 3 b) = (ss 3 b) ∧ Slot.free = (ss 3 zx.2.2) ∧ True) ∧ ∀ x1 : Nat × Int × Row, ∀ jx1 : Nat → Value, (AddI (dg a) (dg b) x1.1 x1.2.1 (dg x1.2.2) ∧ RowOK x1.2.2) → ((decide (((x1.1 : Nat) : Int) < (if ((vlen (sv b) : Nat) : Int) > ((vlen (sv a) : Nat) : Int) then ((vlen (sv b) : Nat) : Int) else ((vlen (sv a) : Nat) : Int)))) = true → (PureRun Try.prog (do pure (.value (← Builtin.len_ #[41] 3 #[sv a]))) (.int .i64 ((vlen (sv a) : Nat) : Int))) ∧ (PureRun Try.prog (do pure (.value (← Builtin.len_ #[41] 3 #[sv b]))) (.int .i64 ((vlen (sv b) : Nat) : Int))) ∧ (∃ _ : Unit, True ∧ Value.bool (decide (((x1.1 : Nat) : Int) < (if ((vlen (sv b) : Nat) : Int) > ((vlen (sv a) : Nat) : Int) then ((vlen (sv b) : Nat) : Int) else ((vlen (sv a) : Nat) : Int)))) = .bool true) ∧ ∀ _ : Unit, (True) → true = !false ∧ true = !false ∧ (true = true) ∧ (CallT Try.prog 72 #[sv a, .int .i64 ((x1.1 : Nat) : Int)] [(ss 3 a)] Int (fun zx => .int .i64 zx) (fun _ => [(ss 3 a)]) (fun zx => zx = dgt (rdv (sv a) (ss 3 a)) ((x1.1 : Nat) : Int).toNat)) ∧ (∃ zx : Int, (fun zx => zx = dgt (rdv (sv a) (ss 3 a)) ((x1.1 : Nat) : Int).toNat) zx) ∧ ∀ x2 : Int, (x2 = dgt (rdv (sv a) (ss 3 a)) ((x1.1 : Nat) : Int).toNat) → (CallT Try.prog 72 #[sv b, .int .i64 ((x1.1 : Nat) : Int)] [(ss 3 b)] Int (fun zx => .int .i64 zx) (fun _ => [(ss 3 b)]) (fun zx => zx = dgt (rdv (sv b) (ss 3 b)) ((x1.1 : Nat) : Int).toNat)) ∧ (∃ zx : Int, (fun zx => zx = dgt (rdv (sv b) (ss 3 b)) ((x1.1 : Nat) : Int).toNat) zx) ∧ ∀ x3 : Int, (x3 = dgt (rdv (sv b) (ss 3 b)) ((x1.1 : Nat) : Int).toNat) → (∃ _ : Unit, True ∧ Value.int .i64 (IntKind.i64.wrap (x2 + x3)) = .int .i64 (x2 + x3)) ∧ ∀ _ : Unit, (True) → (∃ _ : Unit, True ∧ Value.int .i64 (IntKind.i64.wrap ((x2 + x3) + x1.2.1)) = .int .i64 ((x2 + x3) + x1.2.1)) ∧ ∀ _ : Unit, (True) → (∃ _ : Unit, True ∧ Value.int .i64 (Int.tmod ((x2 + x3) + x1.2.1) 65536) = .int .i64 (((x2 + x3) + x1.2.1) % 65536)) ∧ ∀ _ : Unit, (True) → ∀ b4 : Nat, (OpT Try.prog (do pure (.value (← Builtin.append_ #[41, 41] 41 #[sv x1.2.2, .slice (some ⟨b4, 0, none⟩) 1 1]))) [(ss 3 x1.2.2), .blk b4 (.cells #[.int .i64 (((x2 + x3) + x1.2.1) % 65536)] 3 (0, 0))] Row (fun zx => sv zx) (fun zx => [(ss 3 zx), .blk b4 (.cells #[.int .i64 (((x2 + x3) + x1.2.1) % 65536)] 3 (0, 0))]) (fun zx => vals zx = rvals (sv x1.2.2) (ss 3 x1.2.2) ++ [.int .i64 (((x2 + x3) + x1.2.1) % 65536)])) ∧ (∃ zx : Row, (fun zx => vals zx = rvals (sv x1.2.2) (ss 3 x1.2.2) ++ [.int .i64 (((x2 + x3) + x1.2.1) % 65536)]) zx) ∧ ∀ x5 : Row, (vals x5 = rvals (sv x1.2.2) (ss 3 x1.2.2) ++ [.int .i64 (((x2 + x3) + x1.2.1) % 65536)]) → (∃ _ : Unit, True ∧ Value.int .i64 (IntKind.i64.wrap (Int.tdiv ((x2 + x3) + x1.2.1) 65536)) = .int .i64 (((x2 + x3) + x1.2.1) / 65536)) ∧ ∀ _ : Unit, (True) → (∃ _ : Unit, True ∧ Value.int .i64 (IntKind.i64.wrap (((x1.1 : Nat) : Int) + 1)) = .int .i64 (((x1.1 : Nat) : Int) + 1)) ∧ ∀ _ : Unit, (True) → ∃ zy : Nat × Int × Row, (AddI (dg a) (dg b) zy.1 zy.2.1 (dg zy.2.2) ∧ RowOK zy.2.2) ∧ 2 * ((max (dg a).length (dg b).length) + 1 - zy.1) + zy.2.1.toNat < 2 * ((max (dg a).length (dg b).length) + 1 - x1.1) + x1.2.1.toNat ∧ sv a = sv a ∧ sv b = sv b ∧ sv x5 = sv zy.2.2 ∧ Value.int .i64 (((x2 + x3) + x1.2.1) / 65536) = .int .i64 zy.2.1 ∧ Value.int .i64 (((x1.1 : Nat) : Int) + 1) = .int .i64 ((zy.1 : Nat) : Int) ∧ (ss 3 a) = (ss 3 a) ∧ (ss 3 b) = (ss 3 b) ∧ (ss 3 x5) = (ss 3 zy.2.2) ∧ True) ∧ ((decide (((x1.1 : Nat) : Int) < (if ((vlen (sv b) : Nat) : Int) > ((vlen (sv a) : Nat) : Int) then ((vlen (sv b) : Nat) : Int) else ((vlen (sv a) : Nat) : Int)))) = false → (PureRun Try.prog (do pure (.value (← Builtin.len_ #[41] 3 #[sv a]))) (.int .i64 ((vlen (sv a) : Nat) : Int))) ∧ (PureRun Try.prog (do pure (.value (← Builtin.len_ #[41] 3 #[sv b]))) (.int .i64 ((vlen (sv b) : Nat) : Int))) ∧ (∃ _ : Unit, True ∧ Value.bool (decide (((x1.1 : Nat) : Int) < (if ((vlen (sv b) : Nat) : Int) > ((vlen (sv a) : Nat) : Int) then ((vlen (sv b) : Nat) : Int) else ((vlen (sv a) : Nat) : Int)))) = .bool false) ∧ ∀ _ : Unit, (True) → false = false ∧ false = false ∧ ((decide (x1.2.1 > (0 : Int))) = true → (CallT Try.prog 72 #[sv a, .int .i64 ((x1.1 : Nat) : Int)] [(ss 3 a)] Int (fun zx => .int .i64 zx) (fun _ => [(ss 3 a)]) (fun zx => zx = dgt (rdv (sv a) (ss 3 a)) ((x1.1 : Nat) : Int).toNat)) ∧ (∃ zx : Int, (fun zx => zx = dgt (rdv (sv a) (ss 3 a)) ((x1.1 : Nat) : Int).toNat) zx) ∧ ∀ x6 : Int, (x6 = dgt (rdv (sv a) (ss 3 a)) ((x1.1 : Nat) : Int).toNat) → (CallT Try.prog 72 #[sv b, .int .i64 ((x1.1 : Nat) : Int)] [(ss 3 b)] Int (fun zx => .int .i64 zx) (fun _ => [(ss 3 b)]) (fun zx => zx = dgt (rdv (sv b) (ss 3 b)) ((x1.1 : Nat) : Int).toNat)) ∧ (∃ zx : Int, (fun zx => zx = dgt (rdv (sv b) (ss 3 b)) ((x1.1 : Nat) : Int).toNat) zx) ∧ ∀ x7 : Int, (x7 = dgt (rdv (sv b) (ss 3 b)) ((x1.1 : Nat) : Int).toNat) → (∃ _ : Unit, True ∧ Value.int .i64 (IntKind.i64.wrap (x6 + x7)) = .int .i64 (x6 + x7)) ∧ ∀ _ : Unit, (True) → (∃ _ : Unit, True ∧ Value.int .i64 (IntKind.i64.wrap ((x6 + x7) + x1.2.1)) = .int .i64 ((x6 + x7) + x1.2.1)) ∧ ∀ _ : Unit, (True) → (∃ _ : Unit, True ∧ Value.int .i64 (Int.tmod ((x6 + x7) + x1.2.1) 65536) = .int .i64 (((x6 + x7) + x1.2.1) % 65536)) ∧ ∀ _ : Unit, (True) → ∀ b8 : Nat, (OpT Try.prog (do pure (.value (← Builtin.append_ #[41, 41] 41 #[sv x1.2.2, .slice (some ⟨b8, 0, none⟩) 1 1]))) [(ss 3 x1.2.2), .blk b8 (.cells #[.int .i64 (((x6 + x7) + x1.2.1) % 65536)] 3 (0, 0))] Row (fun zx => sv zx) (fun zx => [(ss 3 zx), .blk b8 (.cells #[.int .i64 (((x6 + x7) + x1.2.1) % 65536)] 3 (0, 0))]) (fun zx => vals zx = rvals (sv x1.2.2) (ss 3 x1.2.2) ++ [.int .i64 (((x6 + x7) + x1.2.1) % 65536)])) ∧ (∃ zx : Row, (fun zx => vals zx = rvals (sv x1.2.2) (ss 3 x1.2.2) ++ [.int .i64 (((x6 + x7) + x1.2.1) % 65536)]) zx) ∧ ∀ x9 : Row, (vals x9 = rvals (sv x1.2.2) (ss 3 x1.2.2) ++ [.int .i64 (((x6 + x7) + x1.2.1) % 65536)]) → (∃ _ : Unit, True ∧ Value.int .i64 (IntKind.i64.wrap (Int.tdiv ((x6 + x7) + x1.2.1) 65536)) = .int .i64 (((x6 + x7) + x1.2.1) / 65536)) ∧ ∀ _ : Unit, (True) → (∃ _ : Unit, True ∧ Value.int .i64 (IntKind.i64.wrap (((x1.1 : Nat) : Int) + 1)) = .int .i64 (((x1.1 : Nat) : Int) + 1)) ∧ ∀ _ : Unit, (True) → ∃ zy : Nat × Int × Row, (AddI (dg a) (dg b) zy.1 zy.2.1 (dg zy.2.2) ∧ RowOK zy.2.2) ∧ 2 * ((max (dg a).length (dg b).length) + 1 - zy.1) + zy.2.1.toNat < 2 * ((max (dg a).length (dg b).length) + 1 - x1.1) + x1.2.1.toNat ∧ sv a = sv a ∧ sv b = sv b ∧ sv x9 = sv zy.2.2 ∧ Value.int .i64 (((x6 + x7) + x1.2.1) / 65536) = .int .i64 zy.2.1 ∧ Value.int .i64 (((x1.1 : Nat) : Int) + 1) = .int .i64 ((zy.1 : Nat) : Int) ∧ (ss 3 a) = (ss 3 a) ∧ (ss 3 b) = (ss 3 b) ∧ (ss 3 x9) = (ss 3 zy.2.2) ∧ True) ∧ ((decide (x1.2.1 > (0 : Int))) = false → (CallT Try.prog 68 #[sv x1.2.2] [(ss 3 x1.2.2)] Row (fun zx => sv zx) (fun zx => [(ss 3 zx)]) (fun zx => RowOK zx ∧ ss 3 zx = (ss 3 x1.2.2) ∧ TrimR (rdv (sv x1.2.2) (ss 3 x1.2.2)) (dg zx))) ∧ (∃ zx : Row, (fun zx => RowOK zx ∧ ss 3 zx = (ss 3 x1.2.2) ∧ TrimR (rdv (sv x1.2.2) (ss 3 x1.2.2)) (dg zx)) zx) ∧ ∀ x10 : Row, (RowOK x10 ∧ ss 3 x10 = (ss 3 x1.2.2) ∧ TrimR (rdv (sv x1.2.2) (ss 3 x1.2.2)) (dg x10)) → ∃ zx : Row, (RowOK zx ∧ nv (dg zx) = nv (rdv (sv a) (ss 3 a)) + nv (rdv (sv b) (ss 3 b)) ∧ Canon (dg zx)) ∧ sv x10 = sv zx ∧ (ss 3 a) = (ss 3 a) ∧ (ss 3 b) = (ss 3 b) ∧ (ss 3 x10) = (ss 3 zx) ∧ True))) := by kernel_rfl
set_option maxRecDepth 100000 in
set_option maxHeartbeats 1000000 in
theorem ref1_Add (a : Row) (b : Row) (r_a : RowOK a) (r_b : RowOK b) (la : (dg a).length ≤ 65536) (lb : (dg b).length ≤ 65536) : CallT Try.prog 22 #[sv a, sv b] [(ss 3 a), (ss 3 b)] Row (fun zx => sv zx) (fun zx => [(ss 3 a), (ss 3 b), (ss 3 zx)]) (fun zx => (RowOK zx ∧ nv (dg zx) = nv (rdv (sv a) (ss 3 a)) + nv (rdv (sv b) (ss 3 b)) ∧ Canon (dg zx))) := by
  refine call_of (c := bodyOf Try.f22) (n := 40) (fn := Try.f22) Try.mixed Try.func22 (by kernel_rfl) (by kernel_rfl) (by kernel_rfl) 2000 _ [] [0, 1, 20] rfl rfl (Eq.mpr (ref1_Add_vc a b) ?_)
  have d_a := rdv_eq a 3
  have d_b := rdv_eq b 3
  have e_a := vlen_dg a
  have e_b := vlen_dg b
  have hm : (if (((vlen (sv b) : Nat) : Int)) > (((vlen (sv a) : Nat) : Int)) then (((vlen (sv b) : Nat) : Int)) else (((vlen (sv a) : Nat) : Int))) = (((max (dg a).length (dg b).length) : Nat) : Int) := by rw [e_a, e_b]; split <;> omega
  refine ⟨?_, fun x1 jx1 h1 => ?_⟩
  · exact ⟨(0, 0, Row.nil), ⟨add_start _ _, RowOK.nil⟩, rfl, rfl, rfl, rfl, rfl, rfl, rfl, rfl, trivial⟩
  · obtain ⟨L, ok⟩ := h1
    have l1 := L.le; have l2 := L.len; have l3 := L.c0; have l4 := L.c1; have l5 := L.ends
    have da := r_a.dig.dgt (Int.toNat ((x1.1 : Nat) : Int))
    have db := r_b.dig.dgt (Int.toNat ((x1.1 : Nat) : Int))
    refine ⟨fun h2 => ?_, fun h2 => ?_⟩
    · refine ⟨xlen Try.sl41 3 a, xlen Try.sl41 3 b, ⟨(), trivial, congrArg Value.bool h2⟩, ?_⟩
      intro _
      intro _
      refine ⟨rfl, rfl, ?_⟩
      refine ⟨rfl, ?_⟩
      try rw [hm] at *
      refine ⟨ref1_at a ((x1.1 : Nat) : Int) (by first | assumption | exact rowOK_lit _ _ (by decide)) (by omega), ⟨_, rfl⟩, ?_⟩
      intro x2
      intro h3
      simp only [rdv_eq] at h3
      refine ⟨ref1_at b ((x1.1 : Nat) : Int) (by first | assumption | exact rowOK_lit _ _ (by decide)) (by omega), ⟨_, rfl⟩, ?_⟩
      intro x3
      intro h4
      simp only [rdv_eq] at h4
      refine ⟨⟨(), trivial, congrArg (Value.int .i64) (wrap_i64 _ (by omega) (by omega))⟩, ?_⟩
      intro _
      intro _
      refine ⟨⟨(), trivial, congrArg (Value.int .i64) (wrap_i64 _ (by omega) (by omega))⟩, ?_⟩
      intro _
      intro _
      refine ⟨⟨(), trivial, congrArg (Value.int .i64) (tmod_nat (by omega))⟩, ?_⟩
      intro _
      intro _
      intro b4
      refine ⟨xappendR Try.sl41 41 x1.2.2 (by omega) b4 1 (.int .i64 (((x2 + x3) + x1.2.1) % 65536)) rfl, wit_app _, ?_⟩
      intro x5
      intro h5
      rw [rvals_eq] at h5
      refine ⟨⟨(), trivial, congrArg (Value.int .i64) (quo_i64 (by omega) (by omega))⟩, ?_⟩
      intro _
      intro _
      refine ⟨⟨(), trivial, congrArg (Value.int .i64) (wrap_i64 _ (by omega) (by omega))⟩, ?_⟩
      intro _
      intro _
      have hx : ((x2 + x3) + x1.2.1) = dgt (dg a) x1.1 + dgt (dg b) x1.1 + x1.2.1 := by
        simp only [Int.toNat_natCast] at *
        omega
      have hlt : (x1.1 < (max (dg a).length (dg b).length)) ∨ 0 < x1.2.1 := by
        simp only [decide_eq_true_eq, decide_eq_false_iff_not, gt_iff_lt, ge_iff_le, beq_iff_eq, beq_eq_false_iff_ne] at *
        omega
      obtain ⟨q1, q2, q3⟩ := add_step r_a.dig r_b.dig L hx hlt
      have q := RowOK.snoc ok q2 q3 (by assumption)
      have hmu := q1.c1
      exact ⟨(x1.1 + 1, ((x2 + x3) + x1.2.1) / 65536, x5), ⟨q.2 ▸ q1, q.1⟩, by dsimp only; omega, rfl, rfl, rfl, rfl, congrArg (Value.int .i64) (by dsimp only; omega), rfl, rfl, rfl, trivial⟩
    · refine ⟨xlen Try.sl41 3 a, xlen Try.sl41 3 b, ⟨(), trivial, congrArg Value.bool h2⟩, ?_⟩
      intro _
      intro _
      refine ⟨rfl, rfl, ?_⟩
      refine ⟨fun h6 => ?_, fun h6 => ?_⟩
      · try rw [hm] at *
        refine ⟨ref1_at a ((x1.1 : Nat) : Int) (by first | assumption | exact rowOK_lit _ _ (by decide)) (by omega), ⟨_, rfl⟩, ?_⟩
        intro x6
        intro h7
        simp only [rdv_eq] at h7
        refine ⟨ref1_at b ((x1.1 : Nat) : Int) (by first | assumption | exact rowOK_lit _ _ (by decide)) (by omega), ⟨_, rfl⟩, ?_⟩
        intro x7
        intro h8
        simp only [rdv_eq] at h8
        refine ⟨⟨(), trivial, congrArg (Value.int .i64) (wrap_i64 _ (by omega) (by omega))⟩, ?_⟩
        intro _
        intro _
        refine ⟨⟨(), trivial, congrArg (Value.int .i64) (wrap_i64 _ (by omega) (by omega))⟩, ?_⟩
        intro _
        intro _
        refine ⟨⟨(), trivial, congrArg (Value.int .i64) (tmod_nat (by omega))⟩, ?_⟩
        intro _
        intro _
        intro b8
        refine ⟨xappendR Try.sl41 41 x1.2.2 (by omega) b8 1 (.int .i64 (((x6 + x7) + x1.2.1) % 65536)) rfl, wit_app _, ?_⟩
        intro x9
        intro h9
        rw [rvals_eq] at h9
        refine ⟨⟨(), trivial, congrArg (Value.int .i64) (quo_i64 (by omega) (by omega))⟩, ?_⟩
        intro _
        intro _
        refine ⟨⟨(), trivial, congrArg (Value.int .i64) (wrap_i64 _ (by omega) (by omega))⟩, ?_⟩
        intro _
        intro _
        have hx : ((x6 + x7) + x1.2.1) = dgt (dg a) x1.1 + dgt (dg b) x1.1 + x1.2.1 := by
          simp only [Int.toNat_natCast] at *
          omega
        have hlt : (x1.1 < (max (dg a).length (dg b).length)) ∨ 0 < x1.2.1 := by
          simp only [decide_eq_true_eq, decide_eq_false_iff_not, gt_iff_lt, ge_iff_le, beq_iff_eq, beq_eq_false_iff_ne] at *
          omega
        obtain ⟨q1, q2, q3⟩ := add_step r_a.dig r_b.dig L hx hlt
        have q := RowOK.snoc ok q2 q3 (by assumption)
        have hmu := q1.c1
        exact ⟨(x1.1 + 1, ((x6 + x7) + x1.2.1) / 65536, x9), ⟨q.2 ▸ q1, q.1⟩, by dsimp only; omega, rfl, rfl, rfl, rfl, congrArg (Value.int .i64) (by dsimp only; omega), rfl, rfl, rfl, trivial⟩
      · refine ⟨ref1_Trim x1.2.2 (by first | assumption | exact rowOK_lit _ _ (by decide)) (by omega), wit_trim x1.2.2 (by first | assumption | exact rowOK_lit _ _ (by decide)), ?_⟩
        intro x10
        intro h10
        simp only [rdv_eq] at h10
        obtain ⟨rh10_, h10⟩ := h10
        have T : TrimR (dg x1.2.2) (dg x10) := by first | exact And.right (by assumption) | assumption
        have hi : (max (dg a).length (dg b).length) ≤ x1.1 := by
          simp only [decide_eq_true_eq, decide_eq_false_iff_not, gt_iff_lt, ge_iff_le, beq_iff_eq, beq_eq_false_iff_ne] at *
          omega
        have hc : x1.2.1 ≤ 0 := by
          simp only [decide_eq_true_eq, decide_eq_false_iff_not, gt_iff_lt, ge_iff_le, beq_iff_eq, beq_eq_false_iff_ne] at *
          omega
        exact ⟨_, ⟨by assumption, by rw [d_a, d_b]; exact T.eq.trans (add_end L hi hc), T.canon⟩, rfl, rfl, rfl, rfl, trivial⟩

def ref2_Row_C : List Value → List Slot → Ctr := fun vs hs => ⟨Row, fun zx => sv zx, fun zx => [(ss 3 zx)], fun zx => RowOK zx ∧ nv (dg zx) = (num (varg vs 1)) ∧ Canon (dg zx) ∧ (dg zx).length ≤ 16⟩
set_option maxRecDepth 100000 in
set_option maxHeartbeats 2000000 in
theorem ref2_Row_vc (a : Int) : codeW Try.prog 24 none 2000 none (bodyOf Try.f20) (.reg [.sem [.nw 0], .sem []] (.reg [.sem []] (.reg [.sem [.rd 0, .rd 0, .rd 0, .rd 0], .sem []] (.reg [.sem []] (.condT (.reg [.sem [], .sem []] (.reg [.sem []] (.reg [.sem []] (.condT (.reg [.sem [], .sem [], .gen [] (fun vs => one (.int .u64 (ci (varg vs 0) % 65536)) vs), .gen [] (fun vs => one (.int .i64 (ci (varg vs 0))) vs), .sem [.nw 1], .specw [2, 1] [20, 1] (F_app 3), .sem []] (.reg [.sem [], .gen [] (fun vs => one (.int .u64 (ci (varg vs 0) / 65536)) vs), .sem []] (.reg [.sem [], .sem []] (.reg [.sem []] (.condT (.reg [.sem [], .sem [], .gen [] (fun vs => one (.int .u64 (ci (varg vs 0) % 65536)) vs), .gen [] (fun vs => one (.int .i64 (ci (varg vs 0))) vs), .sem [.nw 1], .specw [20, 1] [20, 1] (F_app 3), .sem []] (.reg [.sem [], .gen [] (fun vs => one (.int .u64 (ci (varg vs 0) / 65536)) vs), .sem []] (.reg [.sem [], .sem []] (.reg [.sem []] (.condT (.reg [.sem [], .sem [], .gen [] (fun vs => one (.int .u64 (ci (varg vs 0) % 65536)) vs), .gen [] (fun vs => one (.int .i64 (ci (varg vs 0))) vs), .sem [.nw 1], .specw [20, 1] [20, 1] (F_app 3), .sem []] (.reg [.sem [], .gen [] (fun vs => one (.int .u64 (ci (varg vs 0) / 65536)) vs), .sem []] (.reg [.sem [], .sem []] (.reg [.sem []] (.condT (.reg [.sem [], .sem [], .gen [] (fun vs => one (.int .u64 (ci (varg vs 0) % 65536)) vs), .gen [] (fun vs => one (.int .i64 (ci (varg vs 0))) vs), .sem [.nw 1], .specw [20, 1] [20, 1] (F_app 3), .sem []] (.reg [.sem [], .gen [] (fun vs => one (.int .u64 (ci (varg vs 0) / 65536)) vs), .sem []] (.reg [.sem [], .sem []] (.reg [.sem []] (.condF (.reg [.sem [], .sem []] (.reg [.sem []] (.condT (.reg [.sem [], .sem []] (.reg [.sem []] (.reg [.sem []] (.condT (.reg [.sem [], .sem [], .gen [] (fun vs => one (.int .u64 (ci (varg vs 0) % 65536)) vs), .gen [] (fun vs => one (.int .i64 (ci (varg vs 0))) vs), .sem [.nw 1], .specw [20, 1] [20, 1] (F_app 3), .sem []] (.reg [.sem [], .gen [] (fun vs => one (.int .u64 (ci (varg vs 0) / 65536)) vs), .sem []] (.reg [.sem [], .sem []] (.reg [.sem []] (.condT (.reg [.sem [], .sem [], .gen [] (fun vs => one (.int .u64 (ci (varg vs 0) % 65536)) vs), .gen [] (fun vs => one (.int .i64 (ci (varg vs 0))) vs), .sem [.nw 1], .specw [20, 1] [20, 1] (F_app 3), .sem []] (.reg [.sem [], .gen [] (fun vs => one (.int .u64 (ci (varg vs 0) / 65536)) vs), .sem []] (.reg [.sem [], .sem []] (.reg [.sem []] (.condT (.reg [.sem [], .sem [], .gen [] (fun vs => one (.int .u64 (ci (varg vs 0) % 65536)) vs), .gen [] (fun vs => one (.int .i64 (ci (varg vs 0))) vs), .sem [.nw 1], .specw [20, 1] [20, 1] (F_app 3), .sem []] (.reg [.sem [], .gen [] (fun vs => one (.int .u64 (ci (varg vs 0) / 65536)) vs), .sem []] (.reg [.sem [], .sem []] (.reg [.sem []] (.condT (.reg [.sem [], .sem [], .gen [] (fun vs => one (.int .u64 (ci (varg vs 0) % 65536)) vs), .gen [] (fun vs => one (.int .i64 (ci (varg vs 0))) vs), .sem [.nw 1], .specw [20, 1] [20, 1] (F_app 3), .sem []] (.reg [.sem [], .gen [] (fun vs => one (.int .u64 (ci (varg vs 0) / 65536)) vs), .sem []] (.reg [.sem [], .sem []] (.reg [.sem []] (.condF (.reg [.sem [], .sem []] (.reg [.sem []] (.condT (.reg [.sem [], .sem []] (.reg [.sem []] (.reg [.sem []] (.condT (.reg [.sem [], .sem [], .gen [] (fun vs => one (.int .u64 (ci (varg vs 0) % 65536)) vs), .gen [] (fun vs => one (.int .i64 (ci (varg vs 0))) vs), .sem [.nw 1], .specw [20, 1] [20, 1] (F_app 3), .sem []] (.reg [.sem [], .gen [] (fun vs => one (.int .u64 (ci (varg vs 0) / 65536)) vs), .sem []] (.reg [.sem [], .sem []] (.reg [.sem []] (.condT (.reg [.sem [], .sem [], .gen [] (fun vs => one (.int .u64 (ci (varg vs 0) % 65536)) vs), .gen [] (fun vs => one (.int .i64 (ci (varg vs 0))) vs), .sem [.nw 1], .specw [20, 1] [20, 1] (F_app 3), .sem []] (.reg [.sem [], .gen [] (fun vs => one (.int .u64 (ci (varg vs 0) / 65536)) vs), .sem []] (.reg [.sem [], .sem []] (.reg [.sem []] (.condT (.reg [.sem [], .sem [], .gen [] (fun vs => one (.int .u64 (ci (varg vs 0) % 65536)) vs), .gen [] (fun vs => one (.int .i64 (ci (varg vs 0))) vs), .sem [.nw 1], .specw [20, 1] [20, 1] (F_app 3), .sem []] (.reg [.sem [], .gen [] (fun vs => one (.int .u64 (ci (varg vs 0) / 65536)) vs), .sem []] (.reg [.sem [], .sem []] (.reg [.sem []] (.condT (.reg [.sem [], .sem [], .gen [] (fun vs => one (.int .u64 (ci (varg vs 0) % 65536)) vs), .gen [] (fun vs => one (.int .i64 (ci (varg vs 0))) vs), .sem [.nw 1], .specw [20, 1] [20, 1] (F_app 3), .sem []] (.reg [.sem [], .gen [] (fun vs => one (.int .u64 (ci (varg vs 0) / 65536)) vs), .sem []] (.reg [.sem [], .sem []] (.reg [.sem []] (.condF (.reg [.sem [], .sem []] (.reg [.sem []] (.condT (.reg [.sem [], .sem []] (.reg [.sem []] (.reg [.sem []] (.condT (.reg [.sem [], .sem [], .gen [] (fun vs => one (.int .u64 (ci (varg vs 0) % 65536)) vs), .gen [] (fun vs => one (.int .i64 (ci (varg vs 0))) vs), .sem [.nw 1], .specw [20, 1] [20, 1] (F_app 3), .sem []] (.reg [.sem [], .gen [] (fun vs => one (.int .u64 (ci (varg vs 0) / 65536)) vs), .sem []] (.reg [.sem [], .sem []] (.reg [.sem []] (.condT (.reg [.sem [], .sem [], .gen [] (fun vs => one (.int .u64 (ci (varg vs 0) % 65536)) vs), .gen [] (fun vs => one (.int .i64 (ci (varg vs 0))) vs), .sem [.nw 1], .specw [20, 1] [20, 1] (F_app 3), .sem []] (.reg [.sem [], .gen [] (fun vs => one (.int .u64 (ci (varg vs 0) / 65536)) vs), .sem []] (.reg [.sem [], .sem []] (.reg [.sem []] (.condT (.reg [.sem [], .sem [], .gen [] (fun vs => one (.int .u64 (ci (varg vs 0) % 65536)) vs), .gen [] (fun vs => one (.int .i64 (ci (varg vs 0))) vs), .sem [.nw 1], .specw [20, 1] [20, 1] (F_app 3), .sem []] (.reg [.sem [], .gen [] (fun vs => one (.int .u64 (ci (varg vs 0) / 65536)) vs), .sem []] (.reg [.sem [], .sem []] (.reg [.sem []] (.condT (.reg [.sem [], .sem [], .gen [] (fun vs => one (.int .u64 (ci (varg vs 0) % 65536)) vs), .gen [] (fun vs => one (.int .i64 (ci (varg vs 0))) vs), .sem [.nw 1], .specw [20, 1] [20, 1] (F_app 3), .sem []] (.reg [.sem [], .gen [] (fun vs => one (.int .u64 (ci (varg vs 0) / 65536)) vs), .sem []] (.reg [.sem [], .sem []] (.reg [.sem []] (.condF (.reg [.sem [], .sem []] (.reg [.sem []] (.condF (.reg [.sem [], .callw [20] [20] ref1_Trim_C, .sem []] (.done)))))))))))))))))))))))))))))))))))))))))))))))))))))))))))))))))))))))))))))))))))))))))))))))))))))))))))))))))))
    (init #[vI a] []) (finW Try.prog Try.f20 [] [20] (X := Row) (fun zx => sv zx) (fun zx => [(ss 3 zx)]) (fun zx => (RowOK zx ∧ nv (dg zx) = (num (vI a)) ∧ Canon (dg zx) ∧ (dg zx).length ≤ 16))) =
    (∀ b1 : Nat, b1 = b1 ∧ (none : Option Nat) = none ∧ b1 = b1 ∧ (none : Option Nat) = none ∧ b1 = b1 ∧ (none : Option Nat) = none ∧ b1 = b1 ∧ (none : Option Nat) = none ∧ (true = true) ∧ (true = true) ∧ (∃ _ : Unit, True ∧ Value.int .u64 (Int.tmod (lim a 0) 65536) = .int .u64 ((lim a 0) % 65536)) ∧ ∀ _ : Unit, (True) → (∃ _ : Unit, True ∧ Value.int .i64 (IntKind.i64.wrap ((lim a 0) % 65536)) = .int .i64 ((lim a 0) % 65536)) ∧ ∀ _ : Unit, (True) → ∀ b2 : Nat, (OpT Try.prog (do pure (.value (← Builtin.append_ #[41, 41] 41 #[sv Row.nil, .slice (some ⟨b2, 0, none⟩) 1 1]))) [.free, .blk b2 (.cells #[.int .i64 ((lim a 0) % 65536)] 3 (0, 0))] Row (fun zx => sv zx) (fun zx => [(ss 3 zx), .blk b2 (.cells #[.int .i64 ((lim a 0) % 65536)] 3 (0, 0))]) (fun zx => vals zx = rvals (sv Row.nil) (ss 3 Row.nil) ++ [.int .i64 ((lim a 0) % 65536)])) ∧ (∃ zx : Row, (fun zx => vals zx = rvals (sv Row.nil) (ss 3 Row.nil) ++ [.int .i64 ((lim a 0) % 65536)]) zx) ∧ ∀ x3 : Row, (vals x3 = rvals (sv Row.nil) (ss 3 Row.nil) ++ [.int .i64 ((lim a 0) % 65536)]) → (∃ _ : Unit, True ∧ Value.int .u64 (IntKind.u64.wrap (Int.tdiv (lim a 0) 65536)) = .int .u64 ((lim a 0) / 65536)) ∧ ∀ _ : Unit, (True) → (true = true) ∧ (∃ _ : Unit, True ∧ Value.int .u64 (Int.tmod ((lim a 0) / 65536) 65536) = .int .u64 (((lim a 0) / 65536) % 65536)) ∧ ∀ _ : Unit, (True) → (∃ _ : Unit, True ∧ Value.int .i64 (IntKind.i64.wrap (((lim a 0) / 65536) % 65536)) = .int .i64 (((lim a 0) / 65536) % 65536)) ∧ ∀ _ : Unit, (True) → ∀ b4 : Nat, (OpT Try.prog (do pure (.value (← Builtin.append_ #[41, 41] 41 #[sv x3, .slice (some ⟨b4, 0, none⟩) 1 1]))) [(ss 3 x3), .blk b4 (.cells #[.int .i64 (((lim a 0) / 65536) % 65536)] 3 (0, 0))] Row (fun zx => sv zx) (fun zx => [(ss 3 zx), .blk b4 (.cells #[.int .i64 (((lim a 0) / 65536) % 65536)] 3 (0, 0))]) (fun zx => vals zx = rvals (sv x3) (ss 3 x3) ++ [.int .i64 (((lim a 0) / 65536) % 65536)])) ∧ (∃ zx : Row, (fun zx => vals zx = rvals (sv x3) (ss 3 x3) ++ [.int .i64 (((lim a 0) / 65536) % 65536)]) zx) ∧ ∀ x5 : Row, (vals x5 = rvals (sv x3) (ss 3 x3) ++ [.int .i64 (((lim a 0) / 65536) % 65536)]) → (∃ _ : Unit, True ∧ Value.int .u64 (IntKind.u64.wrap (Int.tdiv ((lim a 0) / 65536) 65536)) = .int .u64 (((lim a 0) / 65536) / 65536)) ∧ ∀ _ : Unit, (True) → (true = true) ∧ (∃ _ : Unit, True ∧ Value.int .u64 (Int.tmod (((lim a 0) / 65536) / 65536) 65536) = .int .u64 ((((lim a 0) / 65536) / 65536) % 65536)) ∧ ∀ _ : Unit, (True) → (∃ _ : Unit, True ∧ Value.int .i64 (IntKind.i64.wrap ((((lim a 0) / 65536) / 65536) % 65536)) = .int .i64 ((((lim a 0) / 65536) / 65536) % 65536)) ∧ ∀ _ : Unit, (True) → ∀ b6 : Nat, (OpT Try.prog (do pure (.value (← Builtin.append_ #[41, 41] 41 #[sv x5, .slice (some ⟨b6, 0, none⟩) 1 1]))) [(ss 3 x5), .blk b6 (.cells #[.int .i64 ((((lim a 0) / 65536) / 65536) % 65536)] 3 (0, 0))] Row (fun zx => sv zx) (fun zx => [(ss 3 zx), .blk b6 (.cells #[.int .i64 ((((lim a 0) / 65536) / 65536) % 65536)] 3 (0, 0))]) (fun zx => vals zx = rvals (sv x5) (ss 3 x5) ++ [.int .i64 ((((lim a 0) / 65536) / 65536) % 65536)])) ∧ (∃ zx : Row, (fun zx => vals zx = rvals (sv x5) (ss 3 x5) ++ [.int .i64 ((((lim a 0) / 65536) / 65536) % 65536)]) zx) ∧ ∀ x7 : Row, (vals x7 = rvals (sv x5) (ss 3 x5) ++ [.int .i64 ((((lim a 0) / 65536) / 65536) % 65536)]) → (∃ _ : Unit, True ∧ Value.int .u64 (IntKind.u64.wrap (Int.tdiv (((lim a 0) / 65536) / 65536) 65536)) = .int .u64 ((((lim a 0) / 65536) / 65536) / 65536)) ∧ ∀ _ : Unit, (True) → (true = true) ∧ (∃ _ : Unit, True ∧ Value.int .u64 (Int.tmod ((((lim a 0) / 65536) / 65536) / 65536) 65536) = .int .u64 (((((lim a 0) / 65536) / 65536) / 65536) % 65536)) ∧ ∀ _ : Unit, (True) → (∃ _ : Unit, True ∧ Value.int .i64 (IntKind.i64.wrap (((((lim a 0) / 65536) / 65536) / 65536) % 65536)) = .int .i64 (((((lim a 0) / 65536) / 65536) / 65536) % 65536)) ∧ ∀ _ : Unit, (True) → ∀ b8 : Nat, (OpT Try.prog (do pure (.value (← Builtin.append_ #[41, 41] 41 #[sv x7, .slice (some ⟨b8, 0, none⟩) 1 1]))) [(ss 3 x7), .blk b8 (.cells #[.int .i64 (((((lim a 0) / 65536) / 65536) / 65536) % 65536)] 3 (0, 0))] Row (fun zx => sv zx) (fun zx => [(ss 3 zx), .blk b8 (.cells #[.int .i64 (((((lim a 0) / 65536) / 65536) / 65536) % 65536)] 3 (0, 0))]) (fun zx => vals zx = rvals (sv x7) (ss 3 x7) ++ [.int .i64 (((((lim a 0) / 65536) / 65536) / 65536) % 65536)])) ∧ (∃ zx : Row, (fun zx => vals zx = rvals (sv x7) (ss 3 x7) ++ [.int .i64 (((((lim a 0) / 65536) / 65536) / 65536) % 65536)]) zx) ∧ ∀ x9 : Row, (vals x9 = rvals (sv x7) (ss 3 x7) ++ [.int .i64 (((((lim a 0) / 65536) / 65536) / 65536) % 65536)]) → (∃ _ : Unit, True ∧ Value.int .u64 (IntKind.u64.wrap (Int.tdiv ((((lim a 0) / 65536) / 65536) / 65536) 65536)) = .int .u64 (((((lim a 0) / 65536) / 65536) / 65536) / 65536)) ∧ ∀ _ : Unit, (True) → (false = false) ∧ (true = true) ∧ (true = true) ∧ (∃ _ : Unit, True ∧ Value.int .u64 (Int.tmod (lim a 1) 65536) = .int .u64 ((lim a 1) % 65536)) ∧ ∀ _ : Unit, (True) → (∃ _ : Unit, True ∧ Value.int .i64 (IntKind.i64.wrap ((lim a 1) % 65536)) = .int .i64 ((lim a 1) % 65536)) ∧ ∀ _ : Unit, (True) → ∀ b10 : Nat, (OpT Try.prog (do pure (.value (← Builtin.append_ #[41, 41] 41 #[sv x9, .slice (some ⟨b10, 0, none⟩) 1 1]))) [(ss 3 x9), .blk b10 (.cells #[.int .i64 ((lim a 1) % 65536)] 3 (0, 0))] Row (fun zx => sv zx) (fun zx => [(ss 3 zx), .blk b10 (.cells #[.int .i64 ((lim a 1) % 65536)] 3 (0, 0))]) (fun zx => vals zx = rvals (sv x9) (ss 3 x9) ++ [.int .i64 ((lim a 1) % 65536)])) ∧ (∃ zx : Row, (fun zx => vals zx = rvals (sv x9) (ss 3 x9) ++ [.int .i64 ((lim a 1) % 65536)]) zx) ∧ ∀ x11 : Row, (vals x11 = rvals (sv x9) (ss 3 x9) ++ [.int .i64 ((lim a 1) % 65536)]) → (∃ _ : Unit, True ∧ Value.int .u64 (IntKind.u64.wrap (Int.tdiv (lim a 1) 65536)) = .int .u64 ((lim a 1) / 65536)) ∧ ∀ _ : Unit, (True) → (true = true) ∧ (∃ _ : Unit, True ∧ Value.int .u64 (Int.tmod ((lim a 1) / 65536) 65536) = .int .u64 (((lim a 1) / 65536) % 65536)) ∧ ∀ _ : Unit, (True) → (∃ _ : Unit, True ∧ Value.int .i64 (IntKind.i64.wrap (((lim a 1) / 65536) % 65536)) = .int .i64 (((lim a 1) / 65536) % 65536)) ∧ ∀ _ : Unit, (True) → ∀ b12 : Nat, (OpT Try.prog (do pure (.value (← Builtin.append_ #[41, 41] 41 #[sv x11, .slice (some ⟨b12, 0, none⟩) 1 1]))) [(ss 3 x11), .blk b12 (.cells #[.int .i64 (((lim a 1) / 65536) % 65536)] 3 (0, 0))] Row (fun zx => sv zx) (fun zx => [(ss 3 zx), .blk b12 (.cells #[.int .i64 (((lim a 1) / 65536) % 65536)] 3 (0, 0))]) (fun zx => vals zx = rvals (sv x11) (ss 3 x11) ++ [.int .i64 (((lim a 1) / 65536) % 65536)])) ∧ (∃ zx : Row, (fun zx => vals zx = rvals (sv x11) (ss 3 x11) ++ [.int .i64 (((lim a 1) / 65536) % 65536)]) zx) ∧ ∀ x13 : Row, (vals x13 = rvals (sv x11) (ss 3 x11) ++ [.int .i64 (((lim a 1) / 65536) % 65536)]) → (∃ _ : Unit, True ∧ Value.int .u64 (IntKind.u64.wrap (Int.tdiv ((lim a 1) / 65536) 65536)) = .int .u64 (((lim a 1) / 65536) / 65536)) ∧ ∀ _ : Unit, (True) → (true = true) ∧ (∃ _ : Unit, True ∧ Value.int .u64 (Int.tmod (((lim a 1) / 65536) / 65536) 65536) = .int .u64 ((((lim a 1) / 65536) / 65536) % 65536)) ∧ ∀ _ : Unit, (True) → (∃ _ : Unit, True ∧ Value.int .i64 (IntKind.i64.wrap ((((lim a 1) / 65536) / 65536) % 65536)) = .int .i64 ((((lim a 1) / 65536) / 65536) % 65536)) ∧ ∀ _ : Unit, (True) → ∀ b14 : Nat, (OpT Try.prog (do pure (.value (← Builtin.append_ #[41, 41] 41 #[sv x13, .slice (some ⟨b14, 0, none⟩) 1 1]))) [(ss 3 x13), .blk b14 (.cells #[.int .i64 ((((lim a 1) / 65536) / 65536) % 65536)] 3 (0, 0))] Row (fun zx => sv zx) (fun zx => [(ss 3 zx), .blk b14 (.cells #[.int .i64 ((((lim a 1) / 65536) / 65536) % 65536)] 3 (0, 0))]) (fun zx => vals zx = rvals (sv x13) (ss 3 x13) ++ [.int .i64 ((((lim a 1) / 65536) / 65536) % 65536)])) ∧ (∃ zx : Row, (fun zx => vals zx = rvals (sv x13) (ss 3 x13) ++ [.int .i64 ((((lim a 1) / 65536) / 65536) % 65536)]) zx) ∧ ∀ x15 : Row, (vals x15 = rvals (sv x13) (ss 3 x13) ++ [.int .i64 ((((lim a 1) / 65536) / 65536) % 65536)]) → (∃ _ : Unit, True ∧ Value.int .u64 (IntKind.u64.wrap (Int.tdiv (((lim a 1) / 65536) / 65536) 65536)) = .int .u64 ((((lim a 1) / 65536) / 65536) / 65536)) ∧ ∀ _ : Unit, (True) → (true = true) ∧ (∃ _ : Unit, True ∧ Value.int .u64 (Int.tmod ((((lim a 1) / 65536) / 65536) / 65536) 65536) = .int .u64 (((((lim a 1) / 65536) / 65536) / 65536) % 65536)) ∧ ∀ _ : Unit, (True) → (∃ _ : Unit, True ∧ Value.int .i64 (IntKind.i64.wrap (((((lim a 1) / 65536) / 65536) / 65536) % 65536)) = .int .i64 (((((lim a 1) / 65536) / 65536) / 65536) % 65536)) ∧ ∀ _ : Unit, (True) → ∀ b16 : Nat, (OpT Try.prog (do pure (.value (← Builtin.append_ #[41, 41] 41 #[sv x15, .slice (some ⟨b16, 0, none⟩) 1 1]))) [(ss 3 x15), .blk b16 (.cells #[.int .i64 (((((lim a 1) / 65536) / 65536) / 65536) % 65536)] 3 (0, 0))] Row (fun zx => sv zx) (fun zx => [(ss 3 zx), .blk b16 (.cells #[.int .i64 (((((lim a 1) / 65536) / 65536) / 65536) % 65536)] 3 (0, 0))]) (fun zx => vals zx = rvals (sv x15) (ss 3 x15) ++ [.int .i64 (((((lim a 1) / 65536) / 65536) / 65536) % 65536)])) ∧ (∃ zx : Row, (fun zx => vals zx = rvals (sv x15) (ss 3 x15) ++ [.int .i64 (((((lim a 1) / 65536) / 65536) / 65536) % 65536)]) zx) ∧ ∀ x17 : Row, (vals x17 = rvals (sv x15) (ss 3 x15) ++ [.int .i64 (((((lim a 1) / 65536) / 65536) / 65536) % 65536)]) → (∃ _ : Unit, True ∧ Value.int .u64 (IntKind.u64.wrap (Int.tdiv ((((lim a 1) / 65536) / 65536) / 65536) 65536)) = .int .u64 (((((lim a 1) / 65536) / 65536) / 65536) / 65536)) ∧ ∀ _ : Unit, (True) → (false = false) ∧ (true = true) ∧ (true = true) ∧ (∃ _ : Unit, True ∧ Value.int .u64 (Int.tmod (lim a 2) 65536) = .int .u64 ((lim a 2) % 65536)) ∧ ∀ _ : Unit, (True) → (∃ _ : Unit, True ∧ Value.int .i64 (IntKind.i64.wrap ((lim a 2) % 65536)) = .int .i64 ((lim a 2) % 65536)) ∧ ∀ _ : Unit, (True) → ∀ b18 : Nat, (OpT Try.prog (do pure (.value (← Builtin.append_ #[41, 41] 41 #[sv x17, .slice (some ⟨b18, 0, none⟩) 1 1]))) [(ss 3 x17), .blk b18 (.cells #[.int .i64 ((lim a 2) % 65536)] 3 (0, 0))] Row (fun zx => sv zx) (fun zx => [(ss 3 zx), .blk b18 (.cells #[.int .i64 ((lim a 2) % 65536)] 3 (0, 0))]) (fun zx => vals zx = rvals (sv x17) (ss 3 x17) ++ [.int .i64 ((lim a 2) % 65536)])) ∧ (∃ zx : Row, (fun zx => vals zx = rvals (sv x17) (ss 3 x17) ++ [.int .i64 ((lim a 2) % 65536)]) zx) ∧ ∀ x19 : Row, (vals x19 = rvals (sv x17) (ss 3 x17) ++ [.int .i64 ((lim a 2) % 65536)]) → (∃ _ : Unit, True ∧ Value.int .u64 (IntKind.u64.wrap (Int.tdiv (lim a 2) 65536)) = .int .u64 ((lim a 2) / 65536)) ∧ ∀ _ : Unit, (True) → (true = true) ∧ (∃ _ : Unit, True ∧ Value.int .u64 (Int.tmod ((lim a 2) / 65536) 65536) = .int .u64 (((lim a 2) / 65536) % 65536)) ∧ ∀ _ : Unit, (True) → (∃ _ : Unit, True ∧ Value.int .i64 (IntKind.i64.wrap (((lim a 2) / 65536) % 65536)) = .int .i64 (((lim a 2) / 65536) % 65536)) ∧ ∀ _ : Unit, (True) → ∀ b20 : Nat, (OpT Try.prog (do pure (.value (← Builtin.append_ #[41, 41] 41 #[sv x19, .slice (some ⟨b20, 0, none⟩) 1 1]))) [(ss 3 x19), .blk b20 (.cells #[.int .i64 (((lim a 2) / 65536) % 65536)] 3 (0, 0))] Row (fun zx => sv zx) (fun zx => [(ss 3 zx), .blk b20 (.cells #[.int .i64 (((lim a 2) / 65536) % 65536)] 3 (0, 0))]) (fun zx => vals zx = rvals (sv x19) (ss 3 x19) ++ [.int .i64 (((lim a 2) / 65536) % 65536)])) ∧ (∃ zx : Row, (fun zx => vals zx = rvals (sv x19) (ss 3 x19) ++ [.int .i64 (((lim a 2) / 65536) % 65536)]) zx) ∧ ∀ x21 : Row, (vals x21 = rvals (sv x19) (ss 3 x19) ++ [.int .i64 (((lim a 2) / 65536) % 65536)]) → (∃ _ : Unit, True ∧ Value.int .u64 (IntKind.u64.wrap (Int.tdiv ((lim a 2) / 65536) 65536)) = .int .u64 (((lim a 2) / 65536) / 65536)) ∧ ∀ _ : Unit, (True) → (true = true) ∧ (∃ _ : Unit, True ∧ Value.int .u64 (Int.tmod (((lim a 2) / 65536) / 65536) 65536) = .int .u64 ((((lim a 2) / 65536) / 65536) % 65536)) ∧ ∀ _ : Unit, (True) → (∃ _ : Unit, True ∧ Value.int .i64 (IntKind.i64.wrap ((((lim a 2) / 65536) / 65536) % 65536)) = .int .i64 ((((lim a 2) / 65536) / 65536) % 65536)) ∧ ∀ _ : Unit, (True) → ∀ b22 : Nat, (OpT Try.prog (do pure (.value (← Builtin.append_ #[41, 41] 41 #[sv x21, .slice (some ⟨b22, 0, none⟩) 1 1]))) [(ss 3 x21), .blk b22 (.cells #[.int .i64 ((((lim a 2) / 65536) / 65536) % 65536)] 3 (0, 0))] Row (fun zx => sv zx) (fun zx => [(ss 3 zx), .blk b22 (.cells #[.int .i64 ((((lim a 2) / 65536) / 65536) % 65536)] 3 (0, 0))]) (fun zx => vals zx = rvals (sv x21) (ss 3 x21) ++ [.int .i64 ((((lim a 2) / 65536) / 65536) % 65536)])) ∧ (∃ zx : Row, (fun zx => vals zx = rvals (sv x21) (ss 3 x21) ++ [.int .i64 ((((lim a 2) / 65536) / 65536) % 65536)]) zx) ∧ ∀ x23 : Row, (vals x23 = rvals (sv x21) (ss 3 x21) ++ [.int .i64 ((((lim a 2) / 65536) / 65536) % 65536)]) → (∃ _ : Unit, True ∧ Value.int .u64 (IntKind.u64.wrap (Int.tdiv (((lim a 2) / 65536) / 65536) 65536)) = .int .u64 ((((lim a 2) / 65536) / 65536) / 65536)) ∧ ∀ _ : Unit, (True) → (true = true) ∧ (∃ _ : Unit, True ∧ Value.int .u64 (Int.tmod ((((lim a 2) / 65536) / 65536) / 65536) 65536) = .int .u64 (((((lim a 2) / 65536) / 65536) / 65536) % 65536)) ∧ ∀ _ : Unit, (True) → (∃ _ : Unit, True ∧ Value.int .i64 (IntKind.i64.wrap (((((lim a 2) / 65536) / 65536) / 65536) % 65536)) = .int .i64 (((((lim a 2) / 65536) / 65536) / 65536) % 65536)) ∧ ∀ _ : Unit, (True) → ∀ b24 : Nat, (OpT Try.prog (do pure (.value (← Builtin.append_ #[41, 41] 41 #[sv x23, .slice (some ⟨b24, 0, none⟩) 1 1]))) [(ss 3 x23), .blk b24 (.cells #[.int .i64 (((((lim a 2) / 65536) / 65536) / 65536) % 65536)] 3 (0, 0))] Row (fun zx => sv zx) (fun zx => [(ss 3 zx), .blk b24 (.cells #[.int .i64 (((((lim a 2) / 65536) / 65536) / 65536) % 65536)] 3 (0, 0))]) (fun zx => vals zx = rvals (sv x23) (ss 3 x23) ++ [.int .i64 (((((lim a 2) / 65536) / 65536) / 65536) % 65536)])) ∧ (∃ zx : Row, (fun zx => vals zx = rvals (sv x23) (ss 3 x23) ++ [.int .i64 (((((lim a 2) / 65536) / 65536) / 65536) % 65536)]) zx) ∧ ∀ x25 : Row, (vals x25 = rvals (sv x23) (ss 3 x23) ++ [.int .i64 (((((lim a 2) / 65536) / 65536) / 65536) % 65536)]) → (∃ _ : Unit, True ∧ Value.int .u64 (IntKind.u64.wrap (Int.tdiv ((((lim a 2) / 65536) / 65536) / 65536) 65536)) = .int .u64 (((((lim a 2) / 65536) / 65536) / 65536) / 65536)) ∧ ∀ _ : Unit, (True) → (false = false) ∧ (true = true) ∧ (true = true) ∧ (∃ _ : Unit, True ∧ Value.int .u64 (Int.tmod (lim a 3) 65536) = .int .u64 ((lim a 3) % 65536)) ∧ ∀ _ : Unit, (True) → (∃ _ : Unit, True ∧ Value.int .i64 (IntKind.i64.wrap ((lim a 3) % 65536)) = .int .i64 ((lim a 3) % 65536)) ∧ ∀ _ : Unit, (True) → ∀ b26 : Nat, (OpT Try.prog (do pure (.value (← Builtin.append_ #[41, 41] 41 #[sv x25, .slice (some ⟨b26, 0, none⟩) 1 1]))) [(ss 3 x25), .blk b26 (.cells #[.int .i64 ((lim a 3) % 65536)] 3 (0, 0))] Row (fun zx => sv zx) (fun zx => [(ss 3 zx), .blk b26 (.cells #[.int .i64 ((lim a 3) % 65536)] 3 (0, 0))]) (fun zx => vals zx = rvals (sv x25) (ss 3 x25) ++ [.int .i64 ((lim a 3) % 65536)])) ∧ (∃ zx : Row, (fun zx => vals zx = rvals (sv x25) (ss 3 x25) ++ [.int .i64 ((lim a 3) % 65536)]) zx) ∧ ∀ x27 : Row, (vals x27 = rvals (sv x25) (ss 3 x25) ++ [.int .i64 ((lim a 3) % 65536)]) → (∃ _ : Unit, True ∧ Value.int .u64 (IntKind.u64.wrap (Int.tdiv (lim a 3) 65536)) = .int .u64 ((lim a 3) / 65536)) ∧ ∀ _ : Unit, (True) → (true = true) ∧ (∃ _ : Unit, True ∧ Value.int .u64 (Int.tmod ((lim a 3) / 65536) 65536) = .int .u64 (((lim a 3) / 65536) % 65536)) ∧ ∀ _ : Unit, (True) → (∃ _ : Unit, True ∧ Value.int .i64 (IntKind.i64.wrap (((lim a 3) / 65536) % 65536)) = .int .i64 (((lim a 3) / 65536) % 65536)) ∧ ∀ _ : Unit, (True) → ∀ b28 : Nat, (OpT Try.prog (do pure (.value (← Builtin.append_ #[41, 41] 41 #[sv x27, .slice (some ⟨b28, 0, none⟩) 1 1]))) [(ss 3 x27), .blk b28 (.cells #[.int .i64 (((lim a 3) / 65536) % 65536)] 3 (0, 0))] Row (fun zx => sv zx) (fun zx => [(ss 3 zx), .blk b28 (.cells #[.int .i64 (((lim a 3) / 65536) % 65536)] 3 (0, 0))]) (fun zx => vals zx = rvals (sv x27) (ss 3 x27) ++ [.int .i64 (((lim a 3) / 65536) % 65536)])) ∧ (∃ zx : Row, (fun zx => vals zx = rvals (sv x27) (ss 3 x27) ++ [.int .i64 (((lim a 3) / 65536) % 65536)]) zx) ∧ ∀ x29 : Row, (vals x29 = rvals (sv x27) (ss 3 x27) ++ [.int .i64 (((lim a 3) / 65536) % 65536)]) → (∃ _ : Unit, True ∧ Value.int .u64 (IntKind.u64.wrap (Int.tdiv ((lim a 3) / 65536) 65536)) = .int .u64 (((lim a 3) / 65536) / 65536)) ∧ ∀ _ : Unit, (True) → (true = true) ∧ (∃ _ : Unit, True ∧ Value.int .u64 (Int.tmod (((lim a 3) / 65536) / 65536) 65536) = .int .u64 ((((lim a 3) / 65536) / 65536) % 65536)) ∧ ∀ _ : Unit, (True) → (∃ _ : Unit, True ∧ Value.int .i64 (IntKind.i64.wrap ((((lim a 3) / 65536) / 65536) % 65536)) = .int .i64 ((((lim a 3) / 65536) / 65536) % 65536)) ∧ ∀ _ : Unit, (True) → ∀ b30 : Nat, (OpT Try.prog (do pure (.value (← Builtin.append_ #[41, 41] 41 #[sv x29, .slice (some ⟨b30, 0, none⟩) 1 1]))) [(ss 3 x29), .blk b30 (.cells #[.int .i64 ((((lim a 3) / 65536) / 65536) % 65536)] 3 (0, 0))] Row (fun zx => sv zx) (fun zx => [(ss 3 zx), .blk b30 (.cells #[.int .i64 ((((lim a 3) / 65536) / 65536) % 65536)] 3 (0, 0))]) (fun zx => vals zx = rvals (sv x29) (ss 3 x29) ++ [.int .i64 ((((lim a 3) / 65536) / 65536) % 65536)])) ∧ (∃ zx : Row, (fun zx => vals zx = rvals (sv x29) (ss 3 x29) ++ [.int .i64 ((((lim a 3) / 65536) / 65536) % 65536)]) zx) ∧ ∀ x31 : Row, (vals x31 = rvals (sv x29) (ss 3 x29) ++ [.int .i64 ((((lim a 3) / 65536) / 65536) % 65536)]) → (∃ _ : Unit, True ∧ Value.int .u64 (IntKind.u64.wrap (Int.tdiv (((lim a 3) / 65536) / 65536) 65536)) = .int .u64 ((((lim a 3) / 65536) / 65536) / 65536)) ∧ ∀ _ : Unit, (True) → (true = true) ∧ (∃ _ : Unit, True ∧ Value.int .u64 (Int.tmod ((((lim a 3) / 65536) / 65536) / 65536) 65536) = .int .u64 (((((lim a 3) / 65536) / 65536) / 65536) % 65536)) ∧ ∀ _ : Unit, (True) → (∃ _ : Unit, True ∧ Value.int .i64 (IntKind.i64.wrap (((((lim a 3) / 65536) / 65536) / 65536) % 65536)) = .int .i64 (((((lim a 3) / 65536) / 65536) / 65536) % 65536)) ∧ ∀ _ : Unit, (True) → ∀ b32 : Nat, (OpT Try.prog (do pure (.value (← Builtin.append_ #[41, 41] 41 #[sv x31, .slice (some ⟨b32, 0, none⟩) 1 1]))) [(ss 3 x31), .blk b32 (.cells #[.int .i64 (((((lim a 3) / 65536) / 65536) / 65536) % 65536)] 3 (0, 0))] Row (fun zx => sv zx) (fun zx => [(ss 3 zx), .blk b32 (.cells #[.int .i64 (((((lim a 3) / 65536) / 65536) / 65536) % 65536)] 3 (0, 0))]) (fun zx => vals zx = rvals (sv x31) (ss 3 x31) ++ [.int .i64 (((((lim a 3) / 65536) / 65536) / 65536) % 65536)])) ∧ (∃ zx : Row, (fun zx => vals zx = rvals (sv x31) (ss 3 x31) ++ [.int .i64 (((((lim a 3) / 65536) / 65536) / 65536) % 65536)]) zx) ∧ ∀ x33 : Row, (vals x33 = rvals (sv x31) (ss 3 x31) ++ [.int .i64 (((((lim a 3) / 65536) / 65536) / 65536) % 65536)]) → (∃ _ : Unit, True ∧ Value.int .u64 (IntKind.u64.wrap (Int.tdiv ((((lim a 3) / 65536) / 65536) / 65536) 65536)) = .int .u64 (((((lim a 3) / 65536) / 65536) / 65536) / 65536)) ∧ ∀ _ : Unit, (True) → (false = false) ∧ (false = false) ∧ (CallT Try.prog 68 #[sv x33] [(ss 3 x33)] Row (fun zx => sv zx) (fun zx => [(ss 3 zx)]) (fun zx => RowOK zx ∧ ss 3 zx = (ss 3 x33) ∧ TrimR (rdv (sv x33) (ss 3 x33)) (dg zx))) ∧ (∃ zx : Row, (fun zx => RowOK zx ∧ ss 3 zx = (ss 3 x33) ∧ TrimR (rdv (sv x33) (ss 3 x33)) (dg zx)) zx) ∧ ∀ x34 : Row, (RowOK x34 ∧ ss 3 x34 = (ss 3 x33) ∧ TrimR (rdv (sv x33) (ss 3 x33)) (dg x34)) → ∃ zx : Row, (RowOK zx ∧ nv (dg zx) = (num (vI a)) ∧ Canon (dg zx) ∧ (dg zx).length ≤ 16) ∧ sv x34 = sv zx ∧ (ss 3 x34) = (ss 3 zx) ∧ True) := by kernel_rfl
set_option maxRecDepth 100000 in
set_option maxHeartbeats 2000000 in
theorem ref2_Row (a : Int) (r_a : R4 a) : CallT Try.prog 20 #[vI a] [] Row (fun zx => sv zx) (fun zx => [(ss 3 zx)]) (fun zx => (RowOK zx ∧ nv (dg zx) = (num (vI a)) ∧ Canon (dg zx) ∧ (dg zx).length ≤ 16)) := by
  refine call_of (c := bodyOf Try.f20) (n := 24) (fn := Try.f20) Try.mixed Try.func20 (by kernel_rfl) (by kernel_rfl) (by kernel_rfl) 2000 _ [] [20] rfl rfl (Eq.mpr (ref2_Row_vc a) ?_)
  have q0 := nil3
  intro b1
  refine ⟨rfl, rfl, rfl, rfl, rfl, rfl, rfl, rfl, ?_⟩
  refine ⟨rfl, ?_⟩
  have ww := W_lim a 0
  refine ⟨rfl, ?_⟩
  refine ⟨⟨(), trivial, congrArg (Value.int .u64) (tmod_nat ww.1)⟩, ?_⟩
  intro _
  intro _
  refine ⟨⟨(), trivial, congrArg (Value.int .i64) (conv16 _)⟩, ?_⟩
  intro _
  intro _
  intro b2
  refine ⟨xappendR Try.sl41 41 Row.nil (Nat.le_trans (Nat.le_of_eq q0.2.1) (by decide)) b2 1 (.int .i64 ((lim a 0) % 65536)) rfl, wit_app _, ?_⟩
  intro x3
  intro h1
  rw [rvals_eq] at h1
  have q1 := snoc3 (x := ((lim a 0) % 65536)) q0 (show P16 0 = 1 from rfl) (by assumption) (m16_0 _) (m16_1 _)
  refine ⟨⟨(), trivial, congrArg (Value.int .u64) (quo_u16 ww)⟩, ?_⟩
  intro _
  intro _
  refine ⟨rfl, ?_⟩
  refine ⟨⟨(), trivial, congrArg (Value.int .u64) (tmod_nat (W_div ww).1)⟩, ?_⟩
  intro _
  intro _
  refine ⟨⟨(), trivial, congrArg (Value.int .i64) (conv16 _)⟩, ?_⟩
  intro _
  intro _
  intro b4
  refine ⟨xappendR Try.sl41 41 x3 (Nat.le_trans (Nat.le_of_eq q1.2.1) (by decide)) b4 1 (.int .i64 (((lim a 0) / 65536) % 65536)) rfl, wit_app _, ?_⟩
  intro x5
  intro h2
  rw [rvals_eq] at h2
  have q2 := snoc3 (x := (((lim a 0) / 65536) % 65536)) q1 (show P16 1 = 65536 from rfl) (by assumption) (m16_0 _) (m16_1 _)
  refine ⟨⟨(), trivial, congrArg (Value.int .u64) (quo_u16 (W_div ww))⟩, ?_⟩
  intro _
  intro _
  refine ⟨rfl, ?_⟩
  refine ⟨⟨(), trivial, congrArg (Value.int .u64) (tmod_nat (W_div (W_div ww)).1)⟩, ?_⟩
  intro _
  intro _
  refine ⟨⟨(), trivial, congrArg (Value.int .i64) (conv16 _)⟩, ?_⟩
  intro _
  intro _
  intro b6
  refine ⟨xappendR Try.sl41 41 x5 (Nat.le_trans (Nat.le_of_eq q2.2.1) (by decide)) b6 1 (.int .i64 ((((lim a 0) / 65536) / 65536) % 65536)) rfl, wit_app _, ?_⟩
  intro x7
  intro h3
  rw [rvals_eq] at h3
  have q3 := snoc3 (x := ((((lim a 0) / 65536) / 65536) % 65536)) q2 (show P16 2 = 4294967296 from rfl) (by assumption) (m16_0 _) (m16_1 _)
  refine ⟨⟨(), trivial, congrArg (Value.int .u64) (quo_u16 (W_div (W_div ww)))⟩, ?_⟩
  intro _
  intro _
  refine ⟨rfl, ?_⟩
  refine ⟨⟨(), trivial, congrArg (Value.int .u64) (tmod_nat (W_div (W_div (W_div ww))).1)⟩, ?_⟩
  intro _
  intro _
  refine ⟨⟨(), trivial, congrArg (Value.int .i64) (conv16 _)⟩, ?_⟩
  intro _
  intro _
  intro b8
  refine ⟨xappendR Try.sl41 41 x7 (Nat.le_trans (Nat.le_of_eq q3.2.1) (by decide)) b8 1 (.int .i64 (((((lim a 0) / 65536) / 65536) / 65536) % 65536)) rfl, wit_app _, ?_⟩
  intro x9
  intro h4
  rw [rvals_eq] at h4
  have q4 := snoc3 (x := (((((lim a 0) / 65536) / 65536) / 65536) % 65536)) q3 (show P16 3 = 281474976710656 from rfl) (by assumption) (m16_0 _) (m16_1 _)
  refine ⟨⟨(), trivial, congrArg (Value.int .u64) (quo_u16 (W_div (W_div (W_div ww))))⟩, ?_⟩
  intro _
  intro _
  refine ⟨rfl, ?_⟩
  refine ⟨rfl, ?_⟩
  have ww := W_lim a 1
  refine ⟨rfl, ?_⟩
  refine ⟨⟨(), trivial, congrArg (Value.int .u64) (tmod_nat ww.1)⟩, ?_⟩
  intro _
  intro _
  refine ⟨⟨(), trivial, congrArg (Value.int .i64) (conv16 _)⟩, ?_⟩
  intro _
  intro _
  intro b10
  refine ⟨xappendR Try.sl41 41 x9 (Nat.le_trans (Nat.le_of_eq q4.2.1) (by decide)) b10 1 (.int .i64 ((lim a 1) % 65536)) rfl, wit_app _, ?_⟩
  intro x11
  intro h5
  rw [rvals_eq] at h5
  have q5 := snoc3 (x := ((lim a 1) % 65536)) q4 (show P16 4 = 18446744073709551616 from rfl) (by assumption) (m16_0 _) (m16_1 _)
  refine ⟨⟨(), trivial, congrArg (Value.int .u64) (quo_u16 ww)⟩, ?_⟩
  intro _
  intro _
  refine ⟨rfl, ?_⟩
  refine ⟨⟨(), trivial, congrArg (Value.int .u64) (tmod_nat (W_div ww).1)⟩, ?_⟩
  intro _
  intro _
  refine ⟨⟨(), trivial, congrArg (Value.int .i64) (conv16 _)⟩, ?_⟩
  intro _
  intro _
  intro b12
  refine ⟨xappendR Try.sl41 41 x11 (Nat.le_trans (Nat.le_of_eq q5.2.1) (by decide)) b12 1 (.int .i64 (((lim a 1) / 65536) % 65536)) rfl, wit_app _, ?_⟩
  intro x13
  intro h6
  rw [rvals_eq] at h6
  have q6 := snoc3 (x := (((lim a 1) / 65536) % 65536)) q5 (show P16 5 = 1208925819614629174706176 from rfl) (by assumption) (m16_0 _) (m16_1 _)
  refine ⟨⟨(), trivial, congrArg (Value.int .u64) (quo_u16 (W_div ww))⟩, ?_⟩
  intro _
  intro _
  refine ⟨rfl, ?_⟩
  refine ⟨⟨(), trivial, congrArg (Value.int .u64) (tmod_nat (W_div (W_div ww)).1)⟩, ?_⟩
  intro _
  intro _
  refine ⟨⟨(), trivial, congrArg (Value.int .i64) (conv16 _)⟩, ?_⟩
  intro _
  intro _
  intro b14
  refine ⟨xappendR Try.sl41 41 x13 (Nat.le_trans (Nat.le_of_eq q6.2.1) (by decide)) b14 1 (.int .i64 ((((lim a 1) / 65536) / 65536) % 65536)) rfl, wit_app _, ?_⟩
  intro x15
  intro h7
  rw [rvals_eq] at h7
  have q7 := snoc3 (x := ((((lim a 1) / 65536) / 65536) % 65536)) q6 (show P16 6 = 79228162514264337593543950336 from rfl) (by assumption) (m16_0 _) (m16_1 _)
  refine ⟨⟨(), trivial, congrArg (Value.int .u64) (quo_u16 (W_div (W_div ww)))⟩, ?_⟩
  intro _
  intro _
  refine ⟨rfl, ?_⟩
  refine ⟨⟨(), trivial, congrArg (Value.int .u64) (tmod_nat (W_div (W_div (W_div ww))).1)⟩, ?_⟩
  intro _
  intro _
  refine ⟨⟨(), trivial, congrArg (Value.int .i64) (conv16 _)⟩, ?_⟩
  intro _
  intro _
  intro b16
  refine ⟨xappendR Try.sl41 41 x15 (Nat.le_trans (Nat.le_of_eq q7.2.1) (by decide)) b16 1 (.int .i64 (((((lim a 1) / 65536) / 65536) / 65536) % 65536)) rfl, wit_app _, ?_⟩
  intro x17
  intro h8
  rw [rvals_eq] at h8
  have q8 := snoc3 (x := (((((lim a 1) / 65536) / 65536) / 65536) % 65536)) q7 (show P16 7 = 5192296858534827628530496329220096 from rfl) (by assumption) (m16_0 _) (m16_1 _)
  refine ⟨⟨(), trivial, congrArg (Value.int .u64) (quo_u16 (W_div (W_div (W_div ww))))⟩, ?_⟩
  intro _
  intro _
  refine ⟨rfl, ?_⟩
  refine ⟨rfl, ?_⟩
  have ww := W_lim a 2
  refine ⟨rfl, ?_⟩
  refine ⟨⟨(), trivial, congrArg (Value.int .u64) (tmod_nat ww.1)⟩, ?_⟩
  intro _
  intro _
  refine ⟨⟨(), trivial, congrArg (Value.int .i64) (conv16 _)⟩, ?_⟩
  intro _
  intro _
  intro b18
  refine ⟨xappendR Try.sl41 41 x17 (Nat.le_trans (Nat.le_of_eq q8.2.1) (by decide)) b18 1 (.int .i64 ((lim a 2) % 65536)) rfl, wit_app _, ?_⟩
  intro x19
  intro h9
  rw [rvals_eq] at h9
  have q9 := snoc3 (x := ((lim a 2) % 65536)) q8 (show P16 8 = 340282366920938463463374607431768211456 from rfl) (by assumption) (m16_0 _) (m16_1 _)
  refine ⟨⟨(), trivial, congrArg (Value.int .u64) (quo_u16 ww)⟩, ?_⟩
  intro _
  intro _
  refine ⟨rfl, ?_⟩
  refine ⟨⟨(), trivial, congrArg (Value.int .u64) (tmod_nat (W_div ww).1)⟩, ?_⟩
  intro _
  intro _
  refine ⟨⟨(), trivial, congrArg (Value.int .i64) (conv16 _)⟩, ?_⟩
  intro _
  intro _
  intro b20
  refine ⟨xappendR Try.sl41 41 x19 (Nat.le_trans (Nat.le_of_eq q9.2.1) (by decide)) b20 1 (.int .i64 (((lim a 2) / 65536) % 65536)) rfl, wit_app _, ?_⟩
  intro x21
  intro h10
  rw [rvals_eq] at h10
  have q10 := snoc3 (x := (((lim a 2) / 65536) % 65536)) q9 (show P16 9 = 22300745198530623141535718272648361505980416 from rfl) (by assumption) (m16_0 _) (m16_1 _)
  refine ⟨⟨(), trivial, congrArg (Value.int .u64) (quo_u16 (W_div ww))⟩, ?_⟩
  intro _
  intro _
  refine ⟨rfl, ?_⟩
  refine ⟨⟨(), trivial, congrArg (Value.int .u64) (tmod_nat (W_div (W_div ww)).1)⟩, ?_⟩
  intro _
  intro _
  refine ⟨⟨(), trivial, congrArg (Value.int .i64) (conv16 _)⟩, ?_⟩
  intro _
  intro _
  intro b22
  refine ⟨xappendR Try.sl41 41 x21 (Nat.le_trans (Nat.le_of_eq q10.2.1) (by decide)) b22 1 (.int .i64 ((((lim a 2) / 65536) / 65536) % 65536)) rfl, wit_app _, ?_⟩
  intro x23
  intro h11
  rw [rvals_eq] at h11
  have q11 := snoc3 (x := ((((lim a 2) / 65536) / 65536) % 65536)) q10 (show P16 10 = 1461501637330902918203684832716283019655932542976 from rfl) (by assumption) (m16_0 _) (m16_1 _)
  refine ⟨⟨(), trivial, congrArg (Value.int .u64) (quo_u16 (W_div (W_div ww)))⟩, ?_⟩
  intro _
  intro _
  refine ⟨rfl, ?_⟩
  refine ⟨⟨(), trivial, congrArg (Value.int .u64) (tmod_nat (W_div (W_div (W_div ww))).1)⟩, ?_⟩
  intro _
  intro _
  refine ⟨⟨(), trivial, congrArg (Value.int .i64) (conv16 _)⟩, ?_⟩
  intro _
  intro _
  intro b24
  refine ⟨xappendR Try.sl41 41 x23 (Nat.le_trans (Nat.le_of_eq q11.2.1) (by decide)) b24 1 (.int .i64 (((((lim a 2) / 65536) / 65536) / 65536) % 65536)) rfl, wit_app _, ?_⟩
  intro x25
  intro h12
  rw [rvals_eq] at h12
  have q12 := snoc3 (x := (((((lim a 2) / 65536) / 65536) / 65536) % 65536)) q11 (show P16 11 = 95780971304118053647396689196894323976171195136475136 from rfl) (by assumption) (m16_0 _) (m16_1 _)
  refine ⟨⟨(), trivial, congrArg (Value.int .u64) (quo_u16 (W_div (W_div (W_div ww))))⟩, ?_⟩
  intro _
  intro _
  refine ⟨rfl, ?_⟩
  refine ⟨rfl, ?_⟩
  have ww := W_lim a 3
  refine ⟨rfl, ?_⟩
  refine ⟨⟨(), trivial, congrArg (Value.int .u64) (tmod_nat ww.1)⟩, ?_⟩
  intro _
  intro _
  refine ⟨⟨(), trivial, congrArg (Value.int .i64) (conv16 _)⟩, ?_⟩
  intro _
  intro _
  intro b26
  refine ⟨xappendR Try.sl41 41 x25 (Nat.le_trans (Nat.le_of_eq q12.2.1) (by decide)) b26 1 (.int .i64 ((lim a 3) % 65536)) rfl, wit_app _, ?_⟩
  intro x27
  intro h13
  rw [rvals_eq] at h13
  have q13 := snoc3 (x := ((lim a 3) % 65536)) q12 (show P16 12 = 6277101735386680763835789423207666416102355444464034512896 from rfl) (by assumption) (m16_0 _) (m16_1 _)
  refine ⟨⟨(), trivial, congrArg (Value.int .u64) (quo_u16 ww)⟩, ?_⟩
  intro _
  intro _
  refine ⟨rfl, ?_⟩
  refine ⟨⟨(), trivial, congrArg (Value.int .u64) (tmod_nat (W_div ww).1)⟩, ?_⟩
  intro _
  intro _
  refine ⟨⟨(), trivial, congrArg (Value.int .i64) (conv16 _)⟩, ?_⟩
  intro _
  intro _
  intro b28
  refine ⟨xappendR Try.sl41 41 x27 (Nat.le_trans (Nat.le_of_eq q13.2.1) (by decide)) b28 1 (.int .i64 (((lim a 3) / 65536) % 65536)) rfl, wit_app _, ?_⟩
  intro x29
  intro h14
  rw [rvals_eq] at h14
  have q14 := snoc3 (x := (((lim a 3) / 65536) % 65536)) q13 (show P16 13 = 411376139330301510538742295639337626245683966408394965837152256 from rfl) (by assumption) (m16_0 _) (m16_1 _)
  refine ⟨⟨(), trivial, congrArg (Value.int .u64) (quo_u16 (W_div ww))⟩, ?_⟩
  intro _
  intro _
  refine ⟨rfl, ?_⟩
  refine ⟨⟨(), trivial, congrArg (Value.int .u64) (tmod_nat (W_div (W_div ww)).1)⟩, ?_⟩
  intro _
  intro _
  refine ⟨⟨(), trivial, congrArg (Value.int .i64) (conv16 _)⟩, ?_⟩
  intro _
  intro _
  intro b30
  refine ⟨xappendR Try.sl41 41 x29 (Nat.le_trans (Nat.le_of_eq q14.2.1) (by decide)) b30 1 (.int .i64 ((((lim a 3) / 65536) / 65536) % 65536)) rfl, wit_app _, ?_⟩
  intro x31
  intro h15
  rw [rvals_eq] at h15
  have q15 := snoc3 (x := ((((lim a 3) / 65536) / 65536) % 65536)) q14 (show P16 14 = 26959946667150639794667015087019630673637144422540572481103610249216 from rfl) (by assumption) (m16_0 _) (m16_1 _)
  refine ⟨⟨(), trivial, congrArg (Value.int .u64) (quo_u16 (W_div (W_div ww)))⟩, ?_⟩
  intro _
  intro _
  refine ⟨rfl, ?_⟩
  refine ⟨⟨(), trivial, congrArg (Value.int .u64) (tmod_nat (W_div (W_div (W_div ww))).1)⟩, ?_⟩
  intro _
  intro _
  refine ⟨⟨(), trivial, congrArg (Value.int .i64) (conv16 _)⟩, ?_⟩
  intro _
  intro _
  intro b32
  refine ⟨xappendR Try.sl41 41 x31 (Nat.le_trans (Nat.le_of_eq q15.2.1) (by decide)) b32 1 (.int .i64 (((((lim a 3) / 65536) / 65536) / 65536) % 65536)) rfl, wit_app _, ?_⟩
  intro x33
  intro h16
  rw [rvals_eq] at h16
  have q16 := snoc3 (x := (((((lim a 3) / 65536) / 65536) / 65536) % 65536)) q15 (show P16 15 = 1766847064778384329583297500742918515827483896875618958121606201292619776 from rfl) (by assumption) (m16_0 _) (m16_1 _)
  refine ⟨⟨(), trivial, congrArg (Value.int .u64) (quo_u16 (W_div (W_div (W_div ww))))⟩, ?_⟩
  intro _
  intro _
  refine ⟨rfl, ?_⟩
  refine ⟨rfl, ?_⟩
  obtain ⟨ok16, ql, hq⟩ := q16
  clear q0 q1 q2 q3 q4 q5 q6 q7 q8 q9 q10 q11 q12 q13 q14 q15
  refine ⟨ref1_Trim x33 (by first | assumption | exact rowOK_lit _ _ (by decide)) (by omega), wit_trim x33 (by first | assumption | exact rowOK_lit _ _ (by decide)), ?_⟩
  intro x34
  intro h17
  simp only [rdv_eq] at h17
  obtain ⟨rh17_, h17⟩ := h17
  have T : TrimR (dg x33) (dg x34) := by first | exact And.right (by assumption) | assumption
  have w0 := limb_digits (W_lim a 0)
  have w1 := limb_digits (W_lim a 1)
  have w2 := limb_digits (W_lim a 2)
  have w3 := limb_digits (W_lim a 3)
  have ea := lims a
  rw [num_vI r_a] at ea
  have hn : nv (dg x34) = a := by
    rw [T.eq, hq]
    refine Eq.trans ?_ ea.symm
    clear hq ea
    omega
  exact ⟨_, ⟨by assumption, by rw [num_vI r_a]; exact hn, T.canon, num_len (RowOK.dig (by assumption)) T.canon hn r_a⟩, rfl, rfl, trivial⟩

theorem Try.kls103 : KL Try.prog 103 (fun v => ∃ n0 n1 : Int, v = .agg #[.int .u8 n0, .int .u8 n1]) := kl_struct2 (f0 := (Try.prog.fieldsOf 103).getD 0 default) (f1 := (Try.prog.fieldsOf 103).getD 1 default) (by kernel_rfl) (by kernel_rfl) (by kernel_rfl) (by kernel_rfl) (by kernel_rfl) (by kernel_rfl) (by kernel_rfl) (by kernel_rfl) (fun w => by kernel_rfl) (fun w => by kernel_rfl) (fun b a c w => by kernel_rfl)
def Try.jk : JK := ⟨40, 1⟩
theorem Try.sl38 : SlT Try.prog 38 1 .nilFunc := SlT.of (by kernel_rfl) (by kernel_rfl) (by kernel_rfl) (by kernel_rfl) rfl
noncomputable def Try.ent143 (b : Nat) (m : KV) (key : Value) : Ent := ⟨108, b, key, mget m key, vI 0, 4, 44, 100, 103⟩
def Try.mk143 : MK := ⟨143, Value.func (.func 66) #[] #[], fun v => ∃ n0 n1 : Int, v = .agg #[.int .u8 n0, .int .u8 n1], fun x => ∃ v, R4 v ∧ x = vI v⟩
theorem Try.kl143 : KindL Try.prog Try.mk143 141 103 44 (vI 0) (V := Int) vI R4 := ⟨⟨by kernel_rfl, Try.kls103, fun w => by kernel_rfl⟩, fun _ => Iff.rfl, ⟨0, R4_zero, rfl⟩⟩
set_option maxRecDepth 100000 in
theorem stage_New_raw143_vc (bj : Nat) : codeW Try.prog 10 none 2000 none (bodyOf Try.f65) (.reg [.sem []] (.reg [.sem [.nw 21], .sem [], .sem [], .sem [], .sem [.nw 20], .sem []] (.done)))
    (init #[.pointer (some ⟨bj, 0, none⟩), .func (.func 66) #[] #[]] []) (finW Try.prog Try.f65 [] [20, 21] (X := Nat × Nat) (fun zx => .pointer (some ⟨zx.1, 0, none⟩)) (fun zx => [.blk zx.1 (.cells #[.map (some zx.2), .pointer (some ⟨bj, 0, none⟩), .func (.func 66) #[] #[]] 143 (0, 0)), .blk zx.2 (.map #[] 0)]) (fun _ => True)) =
    (∀ b1 : Nat, ∀ b2 : Nat, ∃ zx : Nat × Nat, (True) ∧ Value.pointer (some ⟨b2, 0, none⟩) = .pointer (some ⟨zx.1, 0, none⟩) ∧ Slot.blk b2 (.cells #[.map (some b1), .pointer (some ⟨bj, 0, none⟩), .func (.func 66) #[] #[]] 143 (0, 0)) = .blk zx.1 (.cells #[.map (some zx.2), .pointer (some ⟨bj, 0, none⟩), .func (.func 66) #[] #[]] 143 (0, 0)) ∧ Slot.blk b1 (.map #[] 0) = .blk zx.2 (.map #[] 0) ∧ True) := by kernel_rfl
set_option maxRecDepth 100000 in
theorem stage_New_raw143 (bj : Nat)  : CallT Try.prog 65 #[.pointer (some ⟨bj, 0, none⟩), .func (.func 66) #[] #[]] [] (Nat × Nat) (fun zx => .pointer (some ⟨zx.1, 0, none⟩)) (fun zx => [.blk zx.1 (.cells #[.map (some zx.2), .pointer (some ⟨bj, 0, none⟩), .func (.func 66) #[] #[]] 143 (0, 0)), .blk zx.2 (.map #[] 0)]) (fun _ => True) := by
  refine call_of (c := bodyOf Try.f65) (n := 10) (fn := Try.f65) Try.mixed Try.func65 (by kernel_rfl) (by kernel_rfl) (by kernel_rfl) 2000 _ [] [20, 21] rfl rfl (Eq.mpr (stage_New_raw143_vc bj) ?_)
  intro b1
  intro b2
  exact ⟨(b2, b1), trivial, rfl, rfl, rfl, trivial⟩

def stage_New143_C : List Value → List Slot → Ctr := fun vs hs => ⟨Nat, fun zx => .pointer (some ⟨zx, 0, none⟩), fun zx => [(mS Try.mk143 zx (vblk (varg vs 1)) ([]))], fun zx => True⟩
theorem stage_New143 (bj : Nat)  : CallT Try.prog 65 #[.pointer (some ⟨bj, 0, none⟩), .func (.func 66) #[] #[]] [] Nat (fun zx => .pointer (some ⟨zx, 0, none⟩)) (fun zx => [(mS Try.mk143 zx bj ([]))]) (fun zx => (True)) := (stage_New_raw143 bj).exists fun x _ => ⟨x.1, trivial, rfl, new_fold (K := Try.mk143) x.1 x.2 bj⟩

set_option maxRecDepth 100000 in
theorem stage_Get_raw143_vc (b : Nat) (bj : Nat) (r : Nat) (m : KV) (k0 : Int) (k1 : Int) : codeW Try.prog 19 none 2000 none (bodyOf Try.f73) (.reg [.sem [.nw 2], .sem [.nw 3], .sem []] (.reg [.sem [], .sem [], .sem [], .sem [.rd 0], .sem [.rd 2, .rd 2], .specr [1] (F_look (V := Int) vI R4 (vI 0)), .sem [], .sem [], .sem [], .sem [.nw 4], .sem [.wr 4, .wr 4, .wr 4, .wr 4], .sem []] (.reg [.sem [.rd 4, .rd 4, .rd 4, .rd 4], .sem [], .sem [.wr 3, .wr 3, .wr 3, .wr 3], .sem []] (.done))))
    (init #[.pointer (some ⟨b, 0, none⟩), .agg #[.int .u8 k0, .int .u8 k1]] [.blk b (.cells #[.map (some r), .pointer (some ⟨bj, 0, none⟩), .func (.func 66) #[] #[]] 143 (0, 0)), (mo r m)]) (finW Try.prog Try.f73 [.rd 3, .rd 3, .rd 3, .rd 3] [0, 1] (X := Int × Bool) (fun zx => .tuple #[vI zx.1, .bool zx.2]) (fun zx => [.blk b (.cells #[.map (some r), .pointer (some ⟨bj, 0, none⟩), .func (.func 66) #[] #[]] 143 (0, 0)), (mo r m)]) (fun zx => (zx.1 = num ((mget m (Value.agg #[.int .u8 k0, .int .u8 k1])).getD (vI 0)) ∧ zx.2 = (mget m (Value.agg #[.int .u8 k0, .int .u8 k1])).isSome))) =
    (∀ b1 : Nat, ∀ b2 : Nat, b = b ∧ (none : Option Nat) = none ∧ b1 = b1 ∧ (none : Option Nat) = none ∧ b1 = b1 ∧ (none : Option Nat) = none ∧ (OpT Try.prog (do pure (.value (← Instr.lookup 141 (.map (some r)) (.agg #[.int .u8 k0, .int .u8 k1]) true))) [(mo r m)] (Int × Bool) (fun zx => .tuple #[vI zx.1, .bool zx.2]) (fun _ => [(mo r m)]) (fun zx => R4 zx.1 ∧ zx.2 = (mget m (Value.agg #[.int .u8 k0, .int .u8 k1])).isSome ∧ vI zx.1 = (mget m (Value.agg #[.int .u8 k0, .int .u8 k1])).getD (vI 0))) ∧ (∃ zx : Int × Bool, (fun zx => R4 zx.1 ∧ zx.2 = (mget m (Value.agg #[.int .u8 k0, .int .u8 k1])).isSome ∧ vI zx.1 = (mget m (Value.agg #[.int .u8 k0, .int .u8 k1])).getD (vI 0)) zx) ∧ ∀ x3 : Int × Bool, (R4 x3.1 ∧ x3.2 = (mget m (Value.agg #[.int .u8 k0, .int .u8 k1])).isSome ∧ vI x3.1 = (mget m (Value.agg #[.int .u8 k0, .int .u8 k1])).getD (vI 0)) → ∀ b4 : Nat, b4 = b4 ∧ (none : Option Nat) = none ∧ b4 = b4 ∧ (none : Option Nat) = none ∧ b4 = b4 ∧ (none : Option Nat) = none ∧ b4 = b4 ∧ (none : Option Nat) = none ∧ b4 = b4 ∧ (none : Option Nat) = none ∧ b4 = b4 ∧ (none : Option Nat) = none ∧ b4 = b4 ∧ (none : Option Nat) = none ∧ b4 = b4 ∧ (none : Option Nat) = none ∧ b2 = b2 ∧ (none : Option Nat) = none ∧ b2 = b2 ∧ (none : Option Nat) = none ∧ b2 = b2 ∧ (none : Option Nat) = none ∧ b2 = b2 ∧ (none : Option Nat) = none ∧ b2 = b2 ∧ (none : Option Nat) = none ∧ b2 = b2 ∧ (none : Option Nat) = none ∧ b2 = b2 ∧ (none : Option Nat) = none ∧ b2 = b2 ∧ (none : Option Nat) = none ∧ ∃ zx : Int × Bool, (zx.1 = num ((mget m (Value.agg #[.int .u8 k0, .int .u8 k1])).getD (vI 0)) ∧ zx.2 = (mget m (Value.agg #[.int .u8 k0, .int .u8 k1])).isSome) ∧ Value.tuple #[vI x3.1, .bool x3.2] = .tuple #[vI zx.1, .bool zx.2] ∧ Slot.blk b (.cells #[.map (some r), .pointer (some ⟨bj, 0, none⟩), .func (.func 66) #[] #[]] 143 (0, 0)) = .blk b (.cells #[.map (some r), .pointer (some ⟨bj, 0, none⟩), .func (.func 66) #[] #[]] 143 (0, 0)) ∧ (mo r m) = (mo r m) ∧ True) := by kernel_rfl
set_option maxRecDepth 100000 in
theorem stage_Get_raw143 (b : Nat) (bj : Nat) (r : Nat) (m : KV) (k0 : Int) (k1 : Int) (hk : KOK Try.mk143 m) : CallT Try.prog 73 #[.pointer (some ⟨b, 0, none⟩), .agg #[.int .u8 k0, .int .u8 k1]] [.blk b (.cells #[.map (some r), .pointer (some ⟨bj, 0, none⟩), .func (.func 66) #[] #[]] 143 (0, 0)), (mo r m)] (Int × Bool) (fun zx => .tuple #[vI zx.1, .bool zx.2]) (fun zx => [.blk b (.cells #[.map (some r), .pointer (some ⟨bj, 0, none⟩), .func (.func 66) #[] #[]] 143 (0, 0)), (mo r m)]) (fun zx => (zx.1 = num ((mget m (Value.agg #[.int .u8 k0, .int .u8 k1])).getD (vI 0)) ∧ zx.2 = (mget m (Value.agg #[.int .u8 k0, .int .u8 k1])).isSome)) := by
  refine call_of (c := bodyOf Try.f73) (n := 19) (fn := Try.f73) Try.mixed Try.func73 (by kernel_rfl) (by kernel_rfl) (by kernel_rfl) 2000 _ [.rd 3, .rd 3, .rd 3, .rd 3] [0, 1] rfl rfl (Eq.mpr (stage_Get_raw143_vc b bj r m k0 k1) ?_)
  intro b1
  intro b2
  refine ⟨rfl, rfl, rfl, rfl, rfl, rfl, xlook Try.kl143 hk ⟨_, _, rfl⟩, wlook Try.kl143 hk _, ?_⟩
  intro x3
  intro h1
  have hx := h1
  intro b4
  refine ⟨rfl, rfl, rfl, rfl, rfl, rfl, rfl, rfl, ?_⟩
  refine ⟨rfl, rfl, rfl, rfl, rfl, rfl, rfl, rfl, rfl, rfl, rfl, rfl, rfl, rfl, rfl, rfl, ?_⟩
  refine ⟨rfl, rfl, rfl, rfl, rfl, rfl, rfl, rfl, ?_⟩
  exact ⟨_, ⟨by rw [← hx.2.2]; exact (num_vI hx.1).symm, hx.2.1⟩, rfl, rfl, rfl, trivial⟩

def stage_Get143_C : List Value → List Slot → Ctr := fun vs hs => ⟨Int × Bool, fun zx => .tuple #[vI zx.1, .bool zx.2], fun _ => hs, fun zx => zx.1 = num ((mget (skv (sarg hs 0)) (varg vs 2)).getD (vI 0)) ∧ zx.2 = (mget (skv (sarg hs 0)) (varg vs 2)).isSome⟩
theorem stage_Get143 (b : Nat) (bj : Nat) (m : KV) (k0 : Int) (k1 : Int)  : CallT Try.prog 73 #[.pointer (some ⟨b, 0, none⟩), .agg #[.int .u8 k0, .int .u8 k1]] [(mS Try.mk143 b bj m)] (Int × Bool) (fun zx => .tuple #[vI zx.1, .bool zx.2]) (fun zx => [(mS Try.mk143 b bj m)]) (fun zx => (zx.1 = num ((mget m (Value.agg #[.int .u8 k0, .int .u8 k1])).getD (vI 0)) ∧ zx.2 = (mget m (Value.agg #[.int .u8 k0, .int .u8 k1])).isSome)) := by
  refine (mS_call (m' := fun _ => m) (us := fun _ => []) (enterOK (c := bodyOf Try.f73) Try.func73 (by kernel_rfl) (by kernel_rfl)) (fun r hk => ?_) (fun _ _ h => h))
  exact stage_Get_raw143 b bj r m k0 k1 hk

set_option maxRecDepth 100000 in
theorem stage_note_raw143_vc (b : Nat) (bj : Nat) (r : Nat) (row : Rw) (m : KV) (k0 : Int) (k1 : Int) : codeW Try.prog 31 none 2000 none (bodyOf Try.f106) (.reg [.sem [.nw 32], .sem [.nw 33]] (.reg [.sem [.rd 32], .sem [], .sem [], .sem [.rd 0], .sem [.rd 33, .rd 33], .specr [1] (F_look (V := Int) vI R4 (vI 0)), .sem [], .sem [], .sem [], .sem [.nw 31], .sem [.nw 30], .sem [.wr 31, .wr 31, .wr 31, .wr 31], .sem [.wr 30]] (.reg [.sem [.rd 32], .sem [], .sem [], .sem [.rd 0], .sem [.rd 32], .sem [], .sem [], .sem [.rd 0], .sem [], .sem [], .sem [.rd 2], .sem [], .sem [.nw 4], .specw [3, 4] [3, 4] (F_app 1), .sem [], .sem [], .specw [2] [2] F_put] (.done))))
    (init #[.pointer (some ⟨b, 0, none⟩), .agg #[.int .u8 k0, .int .u8 k1]] [.blk b (.cells #[.map (some r), .pointer (some ⟨bj, 0, none⟩), .func (.func 66) #[] #[]] 143 (0, 0)), (mo r m), .blk bj (.cells #[sv row] 40 (0, 0)), (ss 1 row)]) (finW Try.prog Try.f106 [] [0, 1, 2, 3, 30, 31, 32, 33] (X := Row × N4 × Int × Bool) (fun zx => .tuple #[]) (fun zx => [.blk b (.cells #[.map (some r), .pointer (some ⟨bj, 0, none⟩), .func (.func 66) #[] #[]] 143 (0, 0)), (mo r m), .blk bj (.cells #[sv zx.1] 40 (0, 0)), (ss 1 zx.1), .blk zx.2.1.1 (.cells #[.bool zx.2.2.2] 4 (0, 0)), .blk zx.2.1.2.1 (.cells #[.int .u64 (lim zx.2.2.1 0), .int .u64 (lim zx.2.2.1 1), .int .u64 (lim zx.2.2.1 2), .int .u64 (lim zx.2.2.1 3)] 44 (0, 0)), .blk zx.2.1.2.2.1 (.cells #[.pointer (some ⟨b, 0, none⟩)] 100 (0, 0)), .blk zx.2.1.2.2.2 (.cells #[.int .u8 k0, .int .u8 k1] 103 (0, 0))]) (fun zx => (vals zx.1 = vals row ++ [(Try.ent143 b m (Value.agg #[.int .u8 k0, .int .u8 k1])).fn zx.2.1] ∧ zx.2.2.2 = (mget m (Value.agg #[.int .u8 k0, .int .u8 k1])).isSome ∧ vI zx.2.2.1 = (mget m (Value.agg #[.int .u8 k0, .int .u8 k1])).getD (vI 0)))) =
    (∀ b1 : Nat, ∀ b2 : Nat, b1 = b1 ∧ (none : Option Nat) = none ∧ b = b ∧ (none : Option Nat) = none ∧ b2 = b2 ∧ (none : Option Nat) = none ∧ b2 = b2 ∧ (none : Option Nat) = none ∧ (OpT Try.prog (do pure (.value (← Instr.lookup 141 (.map (some r)) (.agg #[.int .u8 k0, .int .u8 k1]) true))) [(mo r m)] (Int × Bool) (fun zx => .tuple #[vI zx.1, .bool zx.2]) (fun _ => [(mo r m)]) (fun zx => R4 zx.1 ∧ zx.2 = (mget m (Value.agg #[.int .u8 k0, .int .u8 k1])).isSome ∧ vI zx.1 = (mget m (Value.agg #[.int .u8 k0, .int .u8 k1])).getD (vI 0))) ∧ (∃ zx : Int × Bool, (fun zx => R4 zx.1 ∧ zx.2 = (mget m (Value.agg #[.int .u8 k0, .int .u8 k1])).isSome ∧ vI zx.1 = (mget m (Value.agg #[.int .u8 k0, .int .u8 k1])).getD (vI 0)) zx) ∧ ∀ x3 : Int × Bool, (R4 x3.1 ∧ x3.2 = (mget m (Value.agg #[.int .u8 k0, .int .u8 k1])).isSome ∧ vI x3.1 = (mget m (Value.agg #[.int .u8 k0, .int .u8 k1])).getD (vI 0)) → ∀ b4 : Nat, ∀ b5 : Nat, b4 = b4 ∧ (none : Option Nat) = none ∧ b4 = b4 ∧ (none : Option Nat) = none ∧ b4 = b4 ∧ (none : Option Nat) = none ∧ b4 = b4 ∧ (none : Option Nat) = none ∧ b5 = b5 ∧ (none : Option Nat) = none ∧ b1 = b1 ∧ (none : Option Nat) = none ∧ b = b ∧ (none : Option Nat) = none ∧ b1 = b1 ∧ (none : Option Nat) = none ∧ b = b ∧ (none : Option Nat) = none ∧ bj = bj ∧ (none : Option Nat) = none ∧ ∀ b6 : Nat, (OpT Try.prog (do pure (.value (← Builtin.append_ #[38, 38] 38 #[sv row, .slice (some ⟨b6, 0, none⟩) 1 1]))) [(ss 1 row), .blk b6 (.cells #[.func (.func 108) #[] #[.pointer (some ⟨b5, 0, none⟩), .pointer (some ⟨b4, 0, none⟩), .pointer (some ⟨b1, 0, none⟩), .pointer (some ⟨b2, 0, none⟩)]] 1 (0, 0))] Row (fun zx => sv zx) (fun zx => [(ss 1 zx), .blk b6 (.cells #[.func (.func 108) #[] #[.pointer (some ⟨b5, 0, none⟩), .pointer (some ⟨b4, 0, none⟩), .pointer (some ⟨b1, 0, none⟩), .pointer (some ⟨b2, 0, none⟩)]] 1 (0, 0))]) (fun zx => vals zx = rvals (sv row) (ss 1 row) ++ [Value.func (.func 108) #[] #[.pointer (some ⟨b5, 0, none⟩), .pointer (some ⟨b4, 0, none⟩), .pointer (some ⟨b1, 0, none⟩), .pointer (some ⟨b2, 0, none⟩)]])) ∧ (∃ zx : Row, (fun zx => vals zx = rvals (sv row) (ss 1 row) ++ [Value.func (.func 108) #[] #[.pointer (some ⟨b5, 0, none⟩), .pointer (some ⟨b4, 0, none⟩), .pointer (some ⟨b1, 0, none⟩), .pointer (some ⟨b2, 0, none⟩)]]) zx) ∧ ∀ x7 : Row, (vals x7 = rvals (sv row) (ss 1 row) ++ [Value.func (.func 108) #[] #[.pointer (some ⟨b5, 0, none⟩), .pointer (some ⟨b4, 0, none⟩), .pointer (some ⟨b1, 0, none⟩), .pointer (some ⟨b2, 0, none⟩)]]) → (OpT Try.prog (do Instr.storeAt 38 (.pointer (some ⟨bj, 0, none⟩)) (sv x7); pure .skip) [.blk bj (.cells #[sv row] 40 (0, 0))] Unit (fun _ => .tuple #[]) (fun _ => [.blk bj (.cells #[sv x7] 40 (0, 0))]) (fun _ => True)) ∧ (∃ zx : Unit, (fun _ => True) zx) ∧ ∀ _ : Unit, (True) → ∃ zx : Row × N4 × Int × Bool, (vals zx.1 = vals row ++ [(Try.ent143 b m (Value.agg #[.int .u8 k0, .int .u8 k1])).fn zx.2.1] ∧ zx.2.2.2 = (mget m (Value.agg #[.int .u8 k0, .int .u8 k1])).isSome ∧ vI zx.2.2.1 = (mget m (Value.agg #[.int .u8 k0, .int .u8 k1])).getD (vI 0)) ∧ Value.tuple #[] = .tuple #[] ∧ Slot.blk b (.cells #[.map (some r), .pointer (some ⟨bj, 0, none⟩), .func (.func 66) #[] #[]] 143 (0, 0)) = .blk b (.cells #[.map (some r), .pointer (some ⟨bj, 0, none⟩), .func (.func 66) #[] #[]] 143 (0, 0)) ∧ (mo r m) = (mo r m) ∧ Slot.blk bj (.cells #[sv x7] 40 (0, 0)) = .blk bj (.cells #[sv zx.1] 40 (0, 0)) ∧ (ss 1 x7) = (ss 1 zx.1) ∧ Slot.blk b5 (.cells #[.bool x3.2] 4 (0, 0)) = .blk zx.2.1.1 (.cells #[.bool zx.2.2.2] 4 (0, 0)) ∧ Slot.blk b4 (.cells #[.int .u64 (lim x3.1 0), .int .u64 (lim x3.1 1), .int .u64 (lim x3.1 2), .int .u64 (lim x3.1 3)] 44 (0, 0)) = .blk zx.2.1.2.1 (.cells #[.int .u64 (lim zx.2.2.1 0), .int .u64 (lim zx.2.2.1 1), .int .u64 (lim zx.2.2.1 2), .int .u64 (lim zx.2.2.1 3)] 44 (0, 0)) ∧ Slot.blk b1 (.cells #[.pointer (some ⟨b, 0, none⟩)] 100 (0, 0)) = .blk zx.2.1.2.2.1 (.cells #[.pointer (some ⟨b, 0, none⟩)] 100 (0, 0)) ∧ Slot.blk b2 (.cells #[.int .u8 k0, .int .u8 k1] 103 (0, 0)) = .blk zx.2.1.2.2.2 (.cells #[.int .u8 k0, .int .u8 k1] 103 (0, 0)) ∧ True) := by kernel_rfl
set_option maxRecDepth 100000 in
theorem stage_note_raw143 (b : Nat) (bj : Nat) (r : Nat) (row : Rw) (m : KV) (k0 : Int) (k1 : Int) (hk : KOK Try.mk143 m) (hl : (vals row).length ≤ 1073741824) : CallT Try.prog 106 #[.pointer (some ⟨b, 0, none⟩), .agg #[.int .u8 k0, .int .u8 k1]] [.blk b (.cells #[.map (some r), .pointer (some ⟨bj, 0, none⟩), .func (.func 66) #[] #[]] 143 (0, 0)), (mo r m), .blk bj (.cells #[sv row] 40 (0, 0)), (ss 1 row)] (Row × N4 × Int × Bool) (fun zx => .tuple #[]) (fun zx => [.blk b (.cells #[.map (some r), .pointer (some ⟨bj, 0, none⟩), .func (.func 66) #[] #[]] 143 (0, 0)), (mo r m), .blk bj (.cells #[sv zx.1] 40 (0, 0)), (ss 1 zx.1), .blk zx.2.1.1 (.cells #[.bool zx.2.2.2] 4 (0, 0)), .blk zx.2.1.2.1 (.cells #[.int .u64 (lim zx.2.2.1 0), .int .u64 (lim zx.2.2.1 1), .int .u64 (lim zx.2.2.1 2), .int .u64 (lim zx.2.2.1 3)] 44 (0, 0)), .blk zx.2.1.2.2.1 (.cells #[.pointer (some ⟨b, 0, none⟩)] 100 (0, 0)), .blk zx.2.1.2.2.2 (.cells #[.int .u8 k0, .int .u8 k1] 103 (0, 0))]) (fun zx => (vals zx.1 = vals row ++ [(Try.ent143 b m (Value.agg #[.int .u8 k0, .int .u8 k1])).fn zx.2.1] ∧ zx.2.2.2 = (mget m (Value.agg #[.int .u8 k0, .int .u8 k1])).isSome ∧ vI zx.2.2.1 = (mget m (Value.agg #[.int .u8 k0, .int .u8 k1])).getD (vI 0))) := by
  refine call_of (c := bodyOf Try.f106) (n := 31) (fn := Try.f106) Try.mixed Try.func106 (by kernel_rfl) (by kernel_rfl) (by kernel_rfl) 2000 _ [] [0, 1, 2, 3, 30, 31, 32, 33] rfl rfl (Eq.mpr (stage_note_raw143_vc b bj r row m k0 k1) ?_)
  intro b1
  intro b2
  refine ⟨rfl, rfl, rfl, rfl, rfl, rfl, rfl, rfl, xlook Try.kl143 hk ⟨_, _, rfl⟩, wlook Try.kl143 hk _, ?_⟩
  intro x3
  intro h1
  have hx := h1
  intro b4
  intro b5
  refine ⟨rfl, rfl, rfl, rfl, rfl, rfl, rfl, rfl, rfl, rfl, ?_⟩
  refine ⟨rfl, rfl, rfl, rfl, rfl, rfl, rfl, rfl, rfl, rfl, ?_⟩
  intro b6
  refine ⟨xappendR Try.sl38 38 row (by rw [dg_len]; omega) b6 1 (Value.func (.func 108) #[] #[.pointer (some ⟨b5, 0, none⟩), .pointer (some ⟨b4, 0, none⟩), .pointer (some ⟨b1, 0, none⟩), .pointer (some ⟨b2, 0, none⟩)]) rfl, wit_app _, ?_⟩
  intro x7
  intro h2
  rw [rvals_eq] at h2
  have ha := h2
  refine ⟨xputv (b := bj) (cs := #[sv row]) (ty := 40) (te := 38) (fun w => by kernel_rfl) 0 (sv x7) (cells_sv _) (one_sv _) (by show 0 < 1; decide), ⟨(), trivial⟩, ?_⟩
  intro _
  intro _
  exact ⟨(x7, (b5, b4, b1, b2), x3), ⟨ha, hx.2.1, hx.2.2⟩, rfl, rfl, rfl, rfl, rfl, rfl, rfl, rfl, rfl, trivial⟩

def stage_note143_C : List Value → List Slot → Ctr := fun vs hs => ⟨List Ent, fun zx => .tuple #[], fun zx => [.blk (vblk (varg vs 1)) (.cells #[.map (some (snum (sarg hs 1) 0)), .pointer (some ⟨(vblk (scell (sarg hs 0) 1)), 0, none⟩), .func (.func 66) #[] #[]] 143 (0, 0)), (mo (snum (sarg hs 1) 0) (skv (sarg hs 1))), (jS Try.jk (vblk (scell (sarg hs 0) 1)) zx)], fun zx => zx = (sents (sarg hs 2)) ++ [(Try.ent143 (vblk (varg vs 1)) (skv (sarg hs 1)) (varg vs 2))]⟩
theorem stage_note143 (b : Nat) (bj : Nat) (r : Nat) (m : KV) (L : List Ent) (k0 : Int) (k1 : Int) (hk : KOK Try.mk143 m) (hl : L.length ≤ 1073741824) : CallT Try.prog 106 #[.pointer (some ⟨b, 0, none⟩), .agg #[.int .u8 k0, .int .u8 k1]] [.blk b (.cells #[.map (some r), .pointer (some ⟨bj, 0, none⟩), .func (.func 66) #[] #[]] 143 (0, 0)), (mo r m), (jS Try.jk bj L)] (List Ent) (fun zx => .tuple #[]) (fun zx => [.blk b (.cells #[.map (some r), .pointer (some ⟨bj, 0, none⟩), .func (.func 66) #[] #[]] 143 (0, 0)), (mo r m), (jS Try.jk bj zx)]) (fun zx => (zx = L ++ [(Try.ent143 b m (Value.agg #[.int .u8 k0, .int .u8 k1]))])) := by
  have c := jS_note (K := Try.jk) (bj := bj) (L := L) (vv := vI) (e := (Try.ent143 b m (Value.agg #[.int .u8 k0, .int .u8 k1]))) (mk := fun _ => default_ent) (enterOK (c := bodyOf Try.f106) Try.func106 (by kernel_rfl) (by kernel_rfl)) rfl (fun row hr => stage_note_raw143 b bj r row m k0 k1 hk (by omega))
  exact c.exists fun _ _ => ⟨_, rfl, rfl, Imp.refl _⟩

set_option maxRecDepth 100000 in
theorem stage_Set_raw143_vc (b : Nat) (bj : Nat) (r : Nat) (m : KV) (L : List Ent) (k0 : Int) (k1 : Int) (v : Int) : codeW Try.prog 15 none 2000 none (bodyOf Try.f98) (.reg [.sem [.nw 3], .sem [.nw 4]] (.reg [.sem [], .sem [.rd 3, .rd 3], .callw [0, 1, 2] [0, 1, 2] stage_note143_C] (.reg [.sem [], .sem [], .sem [], .sem [.rd 0], .sem [.rd 3, .rd 3], .sem [.rd 4, .rd 4, .rd 4, .rd 4], .specw [1] [1] F_upd] (.done))))
    (init #[.pointer (some ⟨b, 0, none⟩), .agg #[.int .u8 k0, .int .u8 k1], vI v] [.blk b (.cells #[.map (some r), .pointer (some ⟨bj, 0, none⟩), .func (.func 66) #[] #[]] 143 (0, 0)), (mo r m), (jS Try.jk bj L)]) (finW Try.prog Try.f98 [] [0, 1, 2] (X := KV × List Ent) (fun zx => .tuple #[]) (fun zx => [.blk b (.cells #[.map (some r), .pointer (some ⟨bj, 0, none⟩), .func (.func 66) #[] #[]] 143 (0, 0)), (mo r zx.1), (jS Try.jk bj zx.2)]) (fun zx => (zx.1 = mset m (Value.agg #[.int .u8 k0, .int .u8 k1]) (vI v) ∧ zx.2 = L ++ [(Try.ent143 b m (Value.agg #[.int .u8 k0, .int .u8 k1]))]))) =
    (∀ b1 : Nat, ∀ b2 : Nat, b1 = b1 ∧ (none : Option Nat) = none ∧ b1 = b1 ∧ (none : Option Nat) = none ∧ (CallT Try.prog 106 #[.pointer (some ⟨b, 0, none⟩), .agg #[.int .u8 k0, .int .u8 k1]] [.blk b (.cells #[.map (some r), .pointer (some ⟨bj, 0, none⟩), .func (.func 66) #[] #[]] 143 (0, 0)), (mo r m), (jS Try.jk bj L)] (List Ent) (fun zx => .tuple #[]) (fun zx => [.blk b (.cells #[.map (some r), .pointer (some ⟨bj, 0, none⟩), .func (.func 66) #[] #[]] 143 (0, 0)), (mo r m), (jS Try.jk bj zx)]) (fun zx => zx = L ++ [(Try.ent143 b m (Value.agg #[.int .u8 k0, .int .u8 k1]))])) ∧ (∃ zx : List Ent, (fun zx => zx = L ++ [(Try.ent143 b m (Value.agg #[.int .u8 k0, .int .u8 k1]))]) zx) ∧ ∀ x3 : List Ent, (x3 = L ++ [(Try.ent143 b m (Value.agg #[.int .u8 k0, .int .u8 k1]))]) → b = b ∧ (none : Option Nat) = none ∧ b1 = b1 ∧ (none : Option Nat) = none ∧ b1 = b1 ∧ (none : Option Nat) = none ∧ b2 = b2 ∧ (none : Option Nat) = none ∧ b2 = b2 ∧ (none : Option Nat) = none ∧ b2 = b2 ∧ (none : Option Nat) = none ∧ b2 = b2 ∧ (none : Option Nat) = none ∧ (OpT Try.prog (do Instr.mapUpdate 141 (.map (some r)) (.agg #[.int .u8 k0, .int .u8 k1]) (vI v); pure .skip) [(mo r m)] KV (fun zx => .tuple #[]) (fun zx => [(mo r zx)]) (fun zx => zx = mset m (Value.agg #[.int .u8 k0, .int .u8 k1]) (vI v))) ∧ (∃ zx : KV, (fun zx => zx = mset m (Value.agg #[.int .u8 k0, .int .u8 k1]) (vI v)) zx) ∧ ∀ x4 : KV, (x4 = mset m (Value.agg #[.int .u8 k0, .int .u8 k1]) (vI v)) → ∃ zx : KV × List Ent, (zx.1 = mset m (Value.agg #[.int .u8 k0, .int .u8 k1]) (vI v) ∧ zx.2 = L ++ [(Try.ent143 b m (Value.agg #[.int .u8 k0, .int .u8 k1]))]) ∧ Value.tuple #[] = .tuple #[] ∧ Slot.blk b (.cells #[.map (some r), .pointer (some ⟨bj, 0, none⟩), .func (.func 66) #[] #[]] 143 (0, 0)) = .blk b (.cells #[.map (some r), .pointer (some ⟨bj, 0, none⟩), .func (.func 66) #[] #[]] 143 (0, 0)) ∧ (mo r x4) = (mo r zx.1) ∧ (jS Try.jk bj x3) = (jS Try.jk bj zx.2) ∧ True) := by kernel_rfl
set_option maxRecDepth 100000 in
theorem stage_Set_raw143 (b : Nat) (bj : Nat) (r : Nat) (m : KV) (L : List Ent) (k0 : Int) (k1 : Int) (v : Int) (r_v : R4 v) (hk : KOK Try.mk143 m) (hl : L.length ≤ 1073741824) : CallT Try.prog 98 #[.pointer (some ⟨b, 0, none⟩), .agg #[.int .u8 k0, .int .u8 k1], vI v] [.blk b (.cells #[.map (some r), .pointer (some ⟨bj, 0, none⟩), .func (.func 66) #[] #[]] 143 (0, 0)), (mo r m), (jS Try.jk bj L)] (KV × List Ent) (fun zx => .tuple #[]) (fun zx => [.blk b (.cells #[.map (some r), .pointer (some ⟨bj, 0, none⟩), .func (.func 66) #[] #[]] 143 (0, 0)), (mo r zx.1), (jS Try.jk bj zx.2)]) (fun zx => (zx.1 = mset m (Value.agg #[.int .u8 k0, .int .u8 k1]) (vI v) ∧ zx.2 = L ++ [(Try.ent143 b m (Value.agg #[.int .u8 k0, .int .u8 k1]))])) := by
  refine call_of (c := bodyOf Try.f98) (n := 15) (fn := Try.f98) Try.mixed Try.func98 (by kernel_rfl) (by kernel_rfl) (by kernel_rfl) 2000 _ [] [0, 1, 2] rfl rfl (Eq.mpr (stage_Set_raw143_vc b bj r m L k0 k1 v) ?_)
  intro b1
  intro b2
  refine ⟨rfl, rfl, rfl, rfl, stage_note143 b bj r m L k0 k1 (hk) (hl), ⟨_, rfl⟩, ?_⟩
  intro x3
  intro h1
  have hn := h1
  refine ⟨rfl, rfl, rfl, rfl, rfl, rfl, rfl, rfl, rfl, rfl, rfl, rfl, rfl, rfl, xupd Try.kl143 hk ⟨_, _, rfl⟩ (vI v), ⟨_, rfl⟩, ?_⟩
  intro x4
  intro h2
  have hs := h2
  exact ⟨(_, _), ⟨hs, hn⟩, rfl, rfl, rfl, rfl, trivial⟩

def stage_Set143_C : List Value → List Slot → Ctr := fun vs hs => ⟨KV × List Ent, fun zx => .tuple #[], fun zx => [(mS Try.mk143 (vblk (varg vs 1)) (snum (sarg hs 0) 1) zx.1), (jS Try.jk (snum (sarg hs 0) 1) zx.2)], fun zx => zx.1 = mset (skv (sarg hs 0)) (varg vs 2) (varg vs 3) ∧ zx.2 = (sents (sarg hs 1)) ++ [(Try.ent143 (vblk (varg vs 1)) (skv (sarg hs 0)) (varg vs 2))]⟩
theorem stage_Set143 (b : Nat) (bj : Nat) (m : KV) (L : List Ent) (k0 : Int) (k1 : Int) (v : Int) (r_v : R4 v)  (hl : L.length ≤ 1073741824) : CallT Try.prog 98 #[.pointer (some ⟨b, 0, none⟩), .agg #[.int .u8 k0, .int .u8 k1], vI v] [(mS Try.mk143 b bj m), (jS Try.jk bj L)] (KV × List Ent) (fun zx => .tuple #[]) (fun zx => [(mS Try.mk143 b bj zx.1), (jS Try.jk bj zx.2)]) (fun zx => (zx.1 = mset m (Value.agg #[.int .u8 k0, .int .u8 k1]) (vI v) ∧ zx.2 = L ++ [(Try.ent143 b m (Value.agg #[.int .u8 k0, .int .u8 k1]))])) := by
  refine mS_call (m' := fun x : KV × List Ent => x.1) (us := fun x => [(jS Try.jk bj x.2)]) (enterOK (c := bodyOf Try.f98) Try.func98 (by kernel_rfl) (by kernel_rfl)) (fun r hk => ?_) (fun x hx h => ?_)
  · exact (stage_Set_raw143 b bj r m L k0 k1 v r_v hk hl)
  · exact hx.1 ▸ h.set (⟨_, _, rfl⟩) (⟨_, r_v, rfl⟩)

set_option maxRecDepth 100000 in
theorem stage_Drop_raw143_vc (b : Nat) (bj : Nat) (r : Nat) (m : KV) (L : List Ent) (k0 : Int) (k1 : Int) : codeW Try.prog 26 none 2000 none (bodyOf Try.f97) (.reg [.sem [.nw 3], .sem []] (.reg [.sem [], .sem [], .sem [], .sem [.rd 0], .sem [.rd 3, .rd 3], .specr [1] (F_look (V := Int) vI R4 (vI 0)), .sem [], .sem [], .sem [], .sem [.nw 4], .sem [.wr 4, .wr 4, .wr 4, .wr 4], .sem []] (.reg [.sem []] (.cond (.reg [.sem [], .sem [.rd 3, .rd 3], .callw [0, 1, 2] [0, 1, 2] stage_note143_C] (.reg [.sem [], .sem [], .sem [], .sem [.rd 0], .sem [.rd 3, .rd 3], .specw [1] [1] F_del] (.reg [.gen [] (one (.bool true)), .sem []] (.done)))) (.reg [.gen [] (one (.bool false)), .sem []] (.done))))))
    (init #[.pointer (some ⟨b, 0, none⟩), .agg #[.int .u8 k0, .int .u8 k1]] [.blk b (.cells #[.map (some r), .pointer (some ⟨bj, 0, none⟩), .func (.func 66) #[] #[]] 143 (0, 0)), (mo r m), (jS Try.jk bj L)]) (finW Try.prog Try.f97 [] [0, 1, 2] (X := KV × List Ent × Bool) (fun zx => .bool zx.2.2) (fun zx => [.blk b (.cells #[.map (some r), .pointer (some ⟨bj, 0, none⟩), .func (.func 66) #[] #[]] 143 (0, 0)), (mo r zx.1), (jS Try.jk bj zx.2.1)]) (fun zx => (zx.2.2 = (mget m (Value.agg #[.int .u8 k0, .int .u8 k1])).isSome ∧ zx.1 = mdel m (Value.agg #[.int .u8 k0, .int .u8 k1]) ∧ zx.2.1 = if (mget m (Value.agg #[.int .u8 k0, .int .u8 k1])).isSome then L ++ [(Try.ent143 b m (Value.agg #[.int .u8 k0, .int .u8 k1]))] else L))) =
    (∀ b1 : Nat, b = b ∧ (none : Option Nat) = none ∧ b1 = b1 ∧ (none : Option Nat) = none ∧ b1 = b1 ∧ (none : Option Nat) = none ∧ (OpT Try.prog (do pure (.value (← Instr.lookup 141 (.map (some r)) (.agg #[.int .u8 k0, .int .u8 k1]) true))) [(mo r m)] (Int × Bool) (fun zx => .tuple #[vI zx.1, .bool zx.2]) (fun _ => [(mo r m)]) (fun zx => R4 zx.1 ∧ zx.2 = (mget m (Value.agg #[.int .u8 k0, .int .u8 k1])).isSome ∧ vI zx.1 = (mget m (Value.agg #[.int .u8 k0, .int .u8 k1])).getD (vI 0))) ∧ (∃ zx : Int × Bool, (fun zx => R4 zx.1 ∧ zx.2 = (mget m (Value.agg #[.int .u8 k0, .int .u8 k1])).isSome ∧ vI zx.1 = (mget m (Value.agg #[.int .u8 k0, .int .u8 k1])).getD (vI 0)) zx) ∧ ∀ x2 : Int × Bool, (R4 x2.1 ∧ x2.2 = (mget m (Value.agg #[.int .u8 k0, .int .u8 k1])).isSome ∧ vI x2.1 = (mget m (Value.agg #[.int .u8 k0, .int .u8 k1])).getD (vI 0)) → ∀ b3 : Nat, b3 = b3 ∧ (none : Option Nat) = none ∧ b3 = b3 ∧ (none : Option Nat) = none ∧ b3 = b3 ∧ (none : Option Nat) = none ∧ b3 = b3 ∧ (none : Option Nat) = none ∧ (x2.2 = true → b1 = b1 ∧ (none : Option Nat) = none ∧ b1 = b1 ∧ (none : Option Nat) = none ∧ (CallT Try.prog 106 #[.pointer (some ⟨b, 0, none⟩), .agg #[.int .u8 k0, .int .u8 k1]] [.blk b (.cells #[.map (some r), .pointer (some ⟨bj, 0, none⟩), .func (.func 66) #[] #[]] 143 (0, 0)), (mo r m), (jS Try.jk bj L)] (List Ent) (fun zx => .tuple #[]) (fun zx => [.blk b (.cells #[.map (some r), .pointer (some ⟨bj, 0, none⟩), .func (.func 66) #[] #[]] 143 (0, 0)), (mo r m), (jS Try.jk bj zx)]) (fun zx => zx = L ++ [(Try.ent143 b m (Value.agg #[.int .u8 k0, .int .u8 k1]))])) ∧ (∃ zx : List Ent, (fun zx => zx = L ++ [(Try.ent143 b m (Value.agg #[.int .u8 k0, .int .u8 k1]))]) zx) ∧ ∀ x4 : List Ent, (x4 = L ++ [(Try.ent143 b m (Value.agg #[.int .u8 k0, .int .u8 k1]))]) → b = b ∧ (none : Option Nat) = none ∧ b1 = b1 ∧ (none : Option Nat) = none ∧ b1 = b1 ∧ (none : Option Nat) = none ∧ (OpT Try.prog (do pure (.value (← Builtin.delete_ #[141, 103] 0 #[.map (some r), .agg #[.int .u8 k0, .int .u8 k1]]))) [(mo r m)] KV (fun zx => .tuple #[]) (fun zx => [(mo r zx)]) (fun zx => zx = mdel m (Value.agg #[.int .u8 k0, .int .u8 k1]))) ∧ (∃ zx : KV, (fun zx => zx = mdel m (Value.agg #[.int .u8 k0, .int .u8 k1])) zx) ∧ ∀ x5 : KV, (x5 = mdel m (Value.agg #[.int .u8 k0, .int .u8 k1])) → (∃ _ : Unit, True ∧ Value.bool x2.2 = .bool true) ∧ ∀ _ : Unit, (True) → ∃ zx : KV × List Ent × Bool, (zx.2.2 = (mget m (Value.agg #[.int .u8 k0, .int .u8 k1])).isSome ∧ zx.1 = mdel m (Value.agg #[.int .u8 k0, .int .u8 k1]) ∧ zx.2.1 = if (mget m (Value.agg #[.int .u8 k0, .int .u8 k1])).isSome then L ++ [(Try.ent143 b m (Value.agg #[.int .u8 k0, .int .u8 k1]))] else L) ∧ Value.bool true = .bool zx.2.2 ∧ Slot.blk b (.cells #[.map (some r), .pointer (some ⟨bj, 0, none⟩), .func (.func 66) #[] #[]] 143 (0, 0)) = .blk b (.cells #[.map (some r), .pointer (some ⟨bj, 0, none⟩), .func (.func 66) #[] #[]] 143 (0, 0)) ∧ (mo r x5) = (mo r zx.1) ∧ (jS Try.jk bj x4) = (jS Try.jk bj zx.2.1) ∧ True) ∧ (x2.2 = false → (∃ _ : Unit, True ∧ Value.bool x2.2 = .bool false) ∧ ∀ _ : Unit, (True) → ∃ zx : KV × List Ent × Bool, (zx.2.2 = (mget m (Value.agg #[.int .u8 k0, .int .u8 k1])).isSome ∧ zx.1 = mdel m (Value.agg #[.int .u8 k0, .int .u8 k1]) ∧ zx.2.1 = if (mget m (Value.agg #[.int .u8 k0, .int .u8 k1])).isSome then L ++ [(Try.ent143 b m (Value.agg #[.int .u8 k0, .int .u8 k1]))] else L) ∧ Value.bool false = .bool zx.2.2 ∧ Slot.blk b (.cells #[.map (some r), .pointer (some ⟨bj, 0, none⟩), .func (.func 66) #[] #[]] 143 (0, 0)) = .blk b (.cells #[.map (some r), .pointer (some ⟨bj, 0, none⟩), .func (.func 66) #[] #[]] 143 (0, 0)) ∧ (mo r m) = (mo r zx.1) ∧ (jS Try.jk bj L) = (jS Try.jk bj zx.2.1) ∧ True)) := by kernel_rfl
set_option maxRecDepth 100000 in
theorem stage_Drop_raw143 (b : Nat) (bj : Nat) (r : Nat) (m : KV) (L : List Ent) (k0 : Int) (k1 : Int) (hk : KOK Try.mk143 m) (hl : L.length ≤ 1073741824) : CallT Try.prog 97 #[.pointer (some ⟨b, 0, none⟩), .agg #[.int .u8 k0, .int .u8 k1]] [.blk b (.cells #[.map (some r), .pointer (some ⟨bj, 0, none⟩), .func (.func 66) #[] #[]] 143 (0, 0)), (mo r m), (jS Try.jk bj L)] (KV × List Ent × Bool) (fun zx => .bool zx.2.2) (fun zx => [.blk b (.cells #[.map (some r), .pointer (some ⟨bj, 0, none⟩), .func (.func 66) #[] #[]] 143 (0, 0)), (mo r zx.1), (jS Try.jk bj zx.2.1)]) (fun zx => (zx.2.2 = (mget m (Value.agg #[.int .u8 k0, .int .u8 k1])).isSome ∧ zx.1 = mdel m (Value.agg #[.int .u8 k0, .int .u8 k1]) ∧ zx.2.1 = if (mget m (Value.agg #[.int .u8 k0, .int .u8 k1])).isSome then L ++ [(Try.ent143 b m (Value.agg #[.int .u8 k0, .int .u8 k1]))] else L)) := by
  refine call_of (c := bodyOf Try.f97) (n := 26) (fn := Try.f97) Try.mixed Try.func97 (by kernel_rfl) (by kernel_rfl) (by kernel_rfl) 2000 _ [] [0, 1, 2] rfl rfl (Eq.mpr (stage_Drop_raw143_vc b bj r m L k0 k1) ?_)
  intro b1
  refine ⟨rfl, rfl, rfl, rfl, rfl, rfl, xlook Try.kl143 hk ⟨_, _, rfl⟩, wlook Try.kl143 hk _, ?_⟩
  intro x2
  intro h1
  have hx := h1
  intro b3
  refine ⟨rfl, rfl, rfl, rfl, rfl, rfl, rfl, rfl, ?_⟩
  refine ⟨fun h2 => ?_, fun h2 => ?_⟩
  · refine ⟨rfl, rfl, rfl, rfl, stage_note143 b bj r m L k0 k1 (hk) (hl), ⟨_, rfl⟩, ?_⟩
    intro x4
    intro h3
    have hn := h3
    refine ⟨rfl, rfl, rfl, rfl, rfl, rfl, xdel Try.kl143 0 103 hk ⟨_, _, rfl⟩, ⟨_, rfl⟩, ?_⟩
    intro x5
    intro h4
    have hd := h4
    refine ⟨⟨(), trivial, congrArg Value.bool h2⟩, ?_⟩
    intro _
    intro _
    have hi : (mget m (Value.agg #[.int .u8 k0, .int .u8 k1])).isSome = true := by rw [← hx.2.1]; assumption
    exact ⟨(_, _, true), ⟨hi.symm, hd, by rw [if_pos hi]; exact hn⟩, rfl, rfl, rfl, rfl, trivial⟩
  · refine ⟨⟨(), trivial, congrArg Value.bool h2⟩, ?_⟩
    intro _
    intro _
    have hi : (mget m (Value.agg #[.int .u8 k0, .int .u8 k1])).isSome = false := by rw [← hx.2.1]; assumption
    exact ⟨(m, L, false), ⟨hi.symm, (mdel_none (by simpa using hi)).symm, by rw [if_neg (by rw [hi]; decide)]⟩, rfl, rfl, rfl, rfl, trivial⟩

def stage_Drop143_C : List Value → List Slot → Ctr := fun vs hs => ⟨KV × List Ent × Bool, fun zx => .bool zx.2.2, fun zx => [(mS Try.mk143 (vblk (varg vs 1)) (snum (sarg hs 0) 1) zx.1), (jS Try.jk (snum (sarg hs 0) 1) zx.2.1)], fun zx => zx.2.2 = (mget (skv (sarg hs 0)) (varg vs 2)).isSome ∧ zx.1 = mdel (skv (sarg hs 0)) (varg vs 2) ∧ zx.2.1 = if (mget (skv (sarg hs 0)) (varg vs 2)).isSome then (sents (sarg hs 1)) ++ [(Try.ent143 (vblk (varg vs 1)) (skv (sarg hs 0)) (varg vs 2))] else (sents (sarg hs 1))⟩
theorem stage_Drop143 (b : Nat) (bj : Nat) (m : KV) (L : List Ent) (k0 : Int) (k1 : Int) (hl : L.length ≤ 1073741824) : CallT Try.prog 97 #[.pointer (some ⟨b, 0, none⟩), .agg #[.int .u8 k0, .int .u8 k1]] [(mS Try.mk143 b bj m), (jS Try.jk bj L)] (KV × List Ent × Bool) (fun zx => .bool zx.2.2) (fun zx => [(mS Try.mk143 b bj zx.1), (jS Try.jk bj zx.2.1)]) (fun zx => (zx.2.2 = (mget m (Value.agg #[.int .u8 k0, .int .u8 k1])).isSome ∧ zx.1 = mdel m (Value.agg #[.int .u8 k0, .int .u8 k1]) ∧ zx.2.1 = if (mget m (Value.agg #[.int .u8 k0, .int .u8 k1])).isSome then L ++ [(Try.ent143 b m (Value.agg #[.int .u8 k0, .int .u8 k1]))] else L)) := by
  refine mS_call (m' := fun x : KV × List Ent × Bool => x.1) (us := fun x => [(jS Try.jk bj x.2.1)]) (enterOK (c := bodyOf Try.f97) Try.func97 (by kernel_rfl) (by kernel_rfl)) (fun r hk => ?_) (fun x hx h => ?_)
  · exact stage_Drop_raw143 b bj r m L k0 k1 hk hl
  · exact hx.2.1 ▸ h.del _

noncomputable def Try.ent148 (b : Nat) (m : KV) (key : Value) : Ent := ⟨105, b, key, mget m key, vI 0, 4, 44, 105, 5⟩
def Try.mk148 : MK := ⟨148, Value.func (.func 58) #[] #[], fun v => ∃ n : Int, v = .int .u8 n, fun x => ∃ v, R4 v ∧ x = vI v⟩
theorem Try.kl148 : KindL Try.prog Try.mk148 146 5 44 (vI 0) (V := Int) vI R4 := ⟨⟨by kernel_rfl, kl_int (by kernel_rfl), fun w => by kernel_rfl⟩, fun _ => Iff.rfl, ⟨0, R4_zero, rfl⟩⟩
set_option maxRecDepth 100000 in
theorem stage_New_raw148_vc (bj : Nat) : codeW Try.prog 10 none 2000 none (bodyOf Try.f67) (.reg [.sem []] (.reg [.sem [.nw 21], .sem [], .sem [], .sem [], .sem [.nw 20], .sem []] (.done)))
    (init #[.pointer (some ⟨bj, 0, none⟩), .func (.func 58) #[] #[]] []) (finW Try.prog Try.f67 [] [20, 21] (X := Nat × Nat) (fun zx => .pointer (some ⟨zx.1, 0, none⟩)) (fun zx => [.blk zx.1 (.cells #[.map (some zx.2), .pointer (some ⟨bj, 0, none⟩), .func (.func 58) #[] #[]] 148 (0, 0)), .blk zx.2 (.map #[] 0)]) (fun _ => True)) =
    (∀ b1 : Nat, ∀ b2 : Nat, ∃ zx : Nat × Nat, (True) ∧ Value.pointer (some ⟨b2, 0, none⟩) = .pointer (some ⟨zx.1, 0, none⟩) ∧ Slot.blk b2 (.cells #[.map (some b1), .pointer (some ⟨bj, 0, none⟩), .func (.func 58) #[] #[]] 148 (0, 0)) = .blk zx.1 (.cells #[.map (some zx.2), .pointer (some ⟨bj, 0, none⟩), .func (.func 58) #[] #[]] 148 (0, 0)) ∧ Slot.blk b1 (.map #[] 0) = .blk zx.2 (.map #[] 0) ∧ True) := by kernel_rfl
set_option maxRecDepth 100000 in
theorem stage_New_raw148 (bj : Nat)  : CallT Try.prog 67 #[.pointer (some ⟨bj, 0, none⟩), .func (.func 58) #[] #[]] [] (Nat × Nat) (fun zx => .pointer (some ⟨zx.1, 0, none⟩)) (fun zx => [.blk zx.1 (.cells #[.map (some zx.2), .pointer (some ⟨bj, 0, none⟩), .func (.func 58) #[] #[]] 148 (0, 0)), .blk zx.2 (.map #[] 0)]) (fun _ => True) := by
  refine call_of (c := bodyOf Try.f67) (n := 10) (fn := Try.f67) Try.mixed Try.func67 (by kernel_rfl) (by kernel_rfl) (by kernel_rfl) 2000 _ [] [20, 21] rfl rfl (Eq.mpr (stage_New_raw148_vc bj) ?_)
  intro b1
  intro b2
  exact ⟨(b2, b1), trivial, rfl, rfl, rfl, trivial⟩

def stage_New148_C : List Value → List Slot → Ctr := fun vs hs => ⟨Nat, fun zx => .pointer (some ⟨zx, 0, none⟩), fun zx => [(mS Try.mk148 zx (vblk (varg vs 1)) ([]))], fun zx => True⟩
theorem stage_New148 (bj : Nat)  : CallT Try.prog 67 #[.pointer (some ⟨bj, 0, none⟩), .func (.func 58) #[] #[]] [] Nat (fun zx => .pointer (some ⟨zx, 0, none⟩)) (fun zx => [(mS Try.mk148 zx bj ([]))]) (fun zx => (True)) := (stage_New_raw148 bj).exists fun x _ => ⟨x.1, trivial, rfl, new_fold (K := Try.mk148) x.1 x.2 bj⟩

set_option maxRecDepth 100000 in
theorem stage_Get_raw148_vc (b : Nat) (bj : Nat) (r : Nat) (m : KV) (k : Int) : codeW Try.prog 19 none 2000 none (bodyOf Try.f74) (.reg [.sem [.nw 2], .sem []] (.reg [.sem [], .sem [], .sem [], .sem [.rd 0], .sem [], .specr [1] (F_look (V := Int) vI R4 (vI 0)), .sem [], .sem [], .sem [], .sem [.nw 3], .sem [.wr 3, .wr 3, .wr 3, .wr 3], .sem []] (.reg [.sem [.rd 3, .rd 3, .rd 3, .rd 3], .sem [], .sem [.wr 2, .wr 2, .wr 2, .wr 2], .sem []] (.done))))
    (init #[.pointer (some ⟨b, 0, none⟩), .int .u8 k] [.blk b (.cells #[.map (some r), .pointer (some ⟨bj, 0, none⟩), .func (.func 58) #[] #[]] 148 (0, 0)), (mo r m)]) (finW Try.prog Try.f74 [.rd 2, .rd 2, .rd 2, .rd 2] [0, 1] (X := Int × Bool) (fun zx => .tuple #[vI zx.1, .bool zx.2]) (fun zx => [.blk b (.cells #[.map (some r), .pointer (some ⟨bj, 0, none⟩), .func (.func 58) #[] #[]] 148 (0, 0)), (mo r m)]) (fun zx => (zx.1 = num ((mget m (Value.int .u8 k)).getD (vI 0)) ∧ zx.2 = (mget m (Value.int .u8 k)).isSome))) =
    (∀ b1 : Nat, b = b ∧ (none : Option Nat) = none ∧ (OpT Try.prog (do pure (.value (← Instr.lookup 146 (.map (some r)) (.int .u8 k) true))) [(mo r m)] (Int × Bool) (fun zx => .tuple #[vI zx.1, .bool zx.2]) (fun _ => [(mo r m)]) (fun zx => R4 zx.1 ∧ zx.2 = (mget m (Value.int .u8 k)).isSome ∧ vI zx.1 = (mget m (Value.int .u8 k)).getD (vI 0))) ∧ (∃ zx : Int × Bool, (fun zx => R4 zx.1 ∧ zx.2 = (mget m (Value.int .u8 k)).isSome ∧ vI zx.1 = (mget m (Value.int .u8 k)).getD (vI 0)) zx) ∧ ∀ x2 : Int × Bool, (R4 x2.1 ∧ x2.2 = (mget m (Value.int .u8 k)).isSome ∧ vI x2.1 = (mget m (Value.int .u8 k)).getD (vI 0)) → ∀ b3 : Nat, b3 = b3 ∧ (none : Option Nat) = none ∧ b3 = b3 ∧ (none : Option Nat) = none ∧ b3 = b3 ∧ (none : Option Nat) = none ∧ b3 = b3 ∧ (none : Option Nat) = none ∧ b3 = b3 ∧ (none : Option Nat) = none ∧ b3 = b3 ∧ (none : Option Nat) = none ∧ b3 = b3 ∧ (none : Option Nat) = none ∧ b3 = b3 ∧ (none : Option Nat) = none ∧ b1 = b1 ∧ (none : Option Nat) = none ∧ b1 = b1 ∧ (none : Option Nat) = none ∧ b1 = b1 ∧ (none : Option Nat) = none ∧ b1 = b1 ∧ (none : Option Nat) = none ∧ b1 = b1 ∧ (none : Option Nat) = none ∧ b1 = b1 ∧ (none : Option Nat) = none ∧ b1 = b1 ∧ (none : Option Nat) = none ∧ b1 = b1 ∧ (none : Option Nat) = none ∧ ∃ zx : Int × Bool, (zx.1 = num ((mget m (Value.int .u8 k)).getD (vI 0)) ∧ zx.2 = (mget m (Value.int .u8 k)).isSome) ∧ Value.tuple #[vI x2.1, .bool x2.2] = .tuple #[vI zx.1, .bool zx.2] ∧ Slot.blk b (.cells #[.map (some r), .pointer (some ⟨bj, 0, none⟩), .func (.func 58) #[] #[]] 148 (0, 0)) = .blk b (.cells #[.map (some r), .pointer (some ⟨bj, 0, none⟩), .func (.func 58) #[] #[]] 148 (0, 0)) ∧ (mo r m) = (mo r m) ∧ True) := by kernel_rfl
set_option maxRecDepth 100000 in
theorem stage_Get_raw148 (b : Nat) (bj : Nat) (r : Nat) (m : KV) (k : Int) (hk : KOK Try.mk148 m) : CallT Try.prog 74 #[.pointer (some ⟨b, 0, none⟩), .int .u8 k] [.blk b (.cells #[.map (some r), .pointer (some ⟨bj, 0, none⟩), .func (.func 58) #[] #[]] 148 (0, 0)), (mo r m)] (Int × Bool) (fun zx => .tuple #[vI zx.1, .bool zx.2]) (fun zx => [.blk b (.cells #[.map (some r), .pointer (some ⟨bj, 0, none⟩), .func (.func 58) #[] #[]] 148 (0, 0)), (mo r m)]) (fun zx => (zx.1 = num ((mget m (Value.int .u8 k)).getD (vI 0)) ∧ zx.2 = (mget m (Value.int .u8 k)).isSome)) := by
  refine call_of (c := bodyOf Try.f74) (n := 19) (fn := Try.f74) Try.mixed Try.func74 (by kernel_rfl) (by kernel_rfl) (by kernel_rfl) 2000 _ [.rd 2, .rd 2, .rd 2, .rd 2] [0, 1] rfl rfl (Eq.mpr (stage_Get_raw148_vc b bj r m k) ?_)
  intro b1
  refine ⟨rfl, rfl, xlook Try.kl148 hk ⟨_, rfl⟩, wlook Try.kl148 hk _, ?_⟩
  intro x2
  intro h1
  have hx := h1
  intro b3
  refine ⟨rfl, rfl, rfl, rfl, rfl, rfl, rfl, rfl, ?_⟩
  refine ⟨rfl, rfl, rfl, rfl, rfl, rfl, rfl, rfl, rfl, rfl, rfl, rfl, rfl, rfl, rfl, rfl, ?_⟩
  refine ⟨rfl, rfl, rfl, rfl, rfl, rfl, rfl, rfl, ?_⟩
  exact ⟨_, ⟨by rw [← hx.2.2]; exact (num_vI hx.1).symm, hx.2.1⟩, rfl, rfl, rfl, trivial⟩

def stage_Get148_C : List Value → List Slot → Ctr := fun vs hs => ⟨Int × Bool, fun zx => .tuple #[vI zx.1, .bool zx.2], fun _ => hs, fun zx => zx.1 = num ((mget (skv (sarg hs 0)) (varg vs 2)).getD (vI 0)) ∧ zx.2 = (mget (skv (sarg hs 0)) (varg vs 2)).isSome⟩
theorem stage_Get148 (b : Nat) (bj : Nat) (m : KV) (k : Int)  : CallT Try.prog 74 #[.pointer (some ⟨b, 0, none⟩), .int .u8 k] [(mS Try.mk148 b bj m)] (Int × Bool) (fun zx => .tuple #[vI zx.1, .bool zx.2]) (fun zx => [(mS Try.mk148 b bj m)]) (fun zx => (zx.1 = num ((mget m (Value.int .u8 k)).getD (vI 0)) ∧ zx.2 = (mget m (Value.int .u8 k)).isSome)) := by
  refine (mS_call (m' := fun _ => m) (us := fun _ => []) (enterOK (c := bodyOf Try.f74) Try.func74 (by kernel_rfl) (by kernel_rfl)) (fun r hk => ?_) (fun _ _ h => h))
  exact stage_Get_raw148 b bj r m k hk

set_option maxRecDepth 100000 in
theorem stage_note_raw148_vc (b : Nat) (bj : Nat) (r : Nat) (row : Rw) (m : KV) (k : Int) : codeW Try.prog 31 none 2000 none (bodyOf Try.f96) (.reg [.sem [.nw 32], .sem [.nw 33]] (.reg [.sem [.rd 32], .sem [], .sem [], .sem [.rd 0], .sem [.rd 33], .specr [1] (F_look (V := Int) vI R4 (vI 0)), .sem [], .sem [], .sem [], .sem [.nw 31], .sem [.nw 30], .sem [.wr 31, .wr 31, .wr 31, .wr 31], .sem [.wr 30]] (.reg [.sem [.rd 32], .sem [], .sem [], .sem [.rd 0], .sem [.rd 32], .sem [], .sem [], .sem [.rd 0], .sem [], .sem [], .sem [.rd 2], .sem [], .sem [.nw 4], .specw [3, 4] [3, 4] (F_app 1), .sem [], .sem [], .specw [2] [2] F_put] (.done))))
    (init #[.pointer (some ⟨b, 0, none⟩), .int .u8 k] [.blk b (.cells #[.map (some r), .pointer (some ⟨bj, 0, none⟩), .func (.func 58) #[] #[]] 148 (0, 0)), (mo r m), .blk bj (.cells #[sv row] 40 (0, 0)), (ss 1 row)]) (finW Try.prog Try.f96 [] [0, 1, 2, 3, 30, 31, 32, 33] (X := Row × N4 × Int × Bool) (fun zx => .tuple #[]) (fun zx => [.blk b (.cells #[.map (some r), .pointer (some ⟨bj, 0, none⟩), .func (.func 58) #[] #[]] 148 (0, 0)), (mo r m), .blk bj (.cells #[sv zx.1] 40 (0, 0)), (ss 1 zx.1), .blk zx.2.1.1 (.cells #[.bool zx.2.2.2] 4 (0, 0)), .blk zx.2.1.2.1 (.cells #[.int .u64 (lim zx.2.2.1 0), .int .u64 (lim zx.2.2.1 1), .int .u64 (lim zx.2.2.1 2), .int .u64 (lim zx.2.2.1 3)] 44 (0, 0)), .blk zx.2.1.2.2.1 (.cells #[.pointer (some ⟨b, 0, none⟩)] 105 (0, 0)), .blk zx.2.1.2.2.2 (.cells #[.int .u8 k] 5 (0, 0))]) (fun zx => (vals zx.1 = vals row ++ [(Try.ent148 b m (Value.int .u8 k)).fn zx.2.1] ∧ zx.2.2.2 = (mget m (Value.int .u8 k)).isSome ∧ vI zx.2.2.1 = (mget m (Value.int .u8 k)).getD (vI 0)))) =
    (∀ b1 : Nat, ∀ b2 : Nat, b1 = b1 ∧ (none : Option Nat) = none ∧ b = b ∧ (none : Option Nat) = none ∧ b2 = b2 ∧ (none : Option Nat) = none ∧ (OpT Try.prog (do pure (.value (← Instr.lookup 146 (.map (some r)) (.int .u8 k) true))) [(mo r m)] (Int × Bool) (fun zx => .tuple #[vI zx.1, .bool zx.2]) (fun _ => [(mo r m)]) (fun zx => R4 zx.1 ∧ zx.2 = (mget m (Value.int .u8 k)).isSome ∧ vI zx.1 = (mget m (Value.int .u8 k)).getD (vI 0))) ∧ (∃ zx : Int × Bool, (fun zx => R4 zx.1 ∧ zx.2 = (mget m (Value.int .u8 k)).isSome ∧ vI zx.1 = (mget m (Value.int .u8 k)).getD (vI 0)) zx) ∧ ∀ x3 : Int × Bool, (R4 x3.1 ∧ x3.2 = (mget m (Value.int .u8 k)).isSome ∧ vI x3.1 = (mget m (Value.int .u8 k)).getD (vI 0)) → ∀ b4 : Nat, ∀ b5 : Nat, b4 = b4 ∧ (none : Option Nat) = none ∧ b4 = b4 ∧ (none : Option Nat) = none ∧ b4 = b4 ∧ (none : Option Nat) = none ∧ b4 = b4 ∧ (none : Option Nat) = none ∧ b5 = b5 ∧ (none : Option Nat) = none ∧ b1 = b1 ∧ (none : Option Nat) = none ∧ b = b ∧ (none : Option Nat) = none ∧ b1 = b1 ∧ (none : Option Nat) = none ∧ b = b ∧ (none : Option Nat) = none ∧ bj = bj ∧ (none : Option Nat) = none ∧ ∀ b6 : Nat, (OpT Try.prog (do pure (.value (← Builtin.append_ #[38, 38] 38 #[sv row, .slice (some ⟨b6, 0, none⟩) 1 1]))) [(ss 1 row), .blk b6 (.cells #[.func (.func 105) #[] #[.pointer (some ⟨b5, 0, none⟩), .pointer (some ⟨b4, 0, none⟩), .pointer (some ⟨b1, 0, none⟩), .pointer (some ⟨b2, 0, none⟩)]] 1 (0, 0))] Row (fun zx => sv zx) (fun zx => [(ss 1 zx), .blk b6 (.cells #[.func (.func 105) #[] #[.pointer (some ⟨b5, 0, none⟩), .pointer (some ⟨b4, 0, none⟩), .pointer (some ⟨b1, 0, none⟩), .pointer (some ⟨b2, 0, none⟩)]] 1 (0, 0))]) (fun zx => vals zx = rvals (sv row) (ss 1 row) ++ [Value.func (.func 105) #[] #[.pointer (some ⟨b5, 0, none⟩), .pointer (some ⟨b4, 0, none⟩), .pointer (some ⟨b1, 0, none⟩), .pointer (some ⟨b2, 0, none⟩)]])) ∧ (∃ zx : Row, (fun zx => vals zx = rvals (sv row) (ss 1 row) ++ [Value.func (.func 105) #[] #[.pointer (some ⟨b5, 0, none⟩), .pointer (some ⟨b4, 0, none⟩), .pointer (some ⟨b1, 0, none⟩), .pointer (some ⟨b2, 0, none⟩)]]) zx) ∧ ∀ x7 : Row, (vals x7 = rvals (sv row) (ss 1 row) ++ [Value.func (.func 105) #[] #[.pointer (some ⟨b5, 0, none⟩), .pointer (some ⟨b4, 0, none⟩), .pointer (some ⟨b1, 0, none⟩), .pointer (some ⟨b2, 0, none⟩)]]) → (OpT Try.prog (do Instr.storeAt 38 (.pointer (some ⟨bj, 0, none⟩)) (sv x7); pure .skip) [.blk bj (.cells #[sv row] 40 (0, 0))] Unit (fun _ => .tuple #[]) (fun _ => [.blk bj (.cells #[sv x7] 40 (0, 0))]) (fun _ => True)) ∧ (∃ zx : Unit, (fun _ => True) zx) ∧ ∀ _ : Unit, (True) → ∃ zx : Row × N4 × Int × Bool, (vals zx.1 = vals row ++ [(Try.ent148 b m (Value.int .u8 k)).fn zx.2.1] ∧ zx.2.2.2 = (mget m (Value.int .u8 k)).isSome ∧ vI zx.2.2.1 = (mget m (Value.int .u8 k)).getD (vI 0)) ∧ Value.tuple #[] = .tuple #[] ∧ Slot.blk b (.cells #[.map (some r), .pointer (some ⟨bj, 0, none⟩), .func (.func 58) #[] #[]] 148 (0, 0)) = .blk b (.cells #[.map (some r), .pointer (some ⟨bj, 0, none⟩), .func (.func 58) #[] #[]] 148 (0, 0)) ∧ (mo r m) = (mo r m) ∧ Slot.blk bj (.cells #[sv x7] 40 (0, 0)) = .blk bj (.cells #[sv zx.1] 40 (0, 0)) ∧ (ss 1 x7) = (ss 1 zx.1) ∧ Slot.blk b5 (.cells #[.bool x3.2] 4 (0, 0)) = .blk zx.2.1.1 (.cells #[.bool zx.2.2.2] 4 (0, 0)) ∧ Slot.blk b4 (.cells #[.int .u64 (lim x3.1 0), .int .u64 (lim x3.1 1), .int .u64 (lim x3.1 2), .int .u64 (lim x3.1 3)] 44 (0, 0)) = .blk zx.2.1.2.1 (.cells #[.int .u64 (lim zx.2.2.1 0), .int .u64 (lim zx.2.2.1 1), .int .u64 (lim zx.2.2.1 2), .int .u64 (lim zx.2.2.1 3)] 44 (0, 0)) ∧ Slot.blk b1 (.cells #[.pointer (some ⟨b, 0, none⟩)] 105 (0, 0)) = .blk zx.2.1.2.2.1 (.cells #[.pointer (some ⟨b, 0, none⟩)] 105 (0, 0)) ∧ Slot.blk b2 (.cells #[.int .u8 k] 5 (0, 0)) = .blk zx.2.1.2.2.2 (.cells #[.int .u8 k] 5 (0, 0)) ∧ True) := by kernel_rfl
set_option maxRecDepth 100000 in
theorem stage_note_raw148 (b : Nat) (bj : Nat) (r : Nat) (row : Rw) (m : KV) (k : Int) (hk : KOK Try.mk148 m) (hl : (vals row).length ≤ 1073741824) : CallT Try.prog 96 #[.pointer (some ⟨b, 0, none⟩), .int .u8 k] [.blk b (.cells #[.map (some r), .pointer (some ⟨bj, 0, none⟩), .func (.func 58) #[] #[]] 148 (0, 0)), (mo r m), .blk bj (.cells #[sv row] 40 (0, 0)), (ss 1 row)] (Row × N4 × Int × Bool) (fun zx => .tuple #[]) (fun zx => [.blk b (.cells #[.map (some r), .pointer (some ⟨bj, 0, none⟩), .func (.func 58) #[] #[]] 148 (0, 0)), (mo r m), .blk bj (.cells #[sv zx.1] 40 (0, 0)), (ss 1 zx.1), .blk zx.2.1.1 (.cells #[.bool zx.2.2.2] 4 (0, 0)), .blk zx.2.1.2.1 (.cells #[.int .u64 (lim zx.2.2.1 0), .int .u64 (lim zx.2.2.1 1), .int .u64 (lim zx.2.2.1 2), .int .u64 (lim zx.2.2.1 3)] 44 (0, 0)), .blk zx.2.1.2.2.1 (.cells #[.pointer (some ⟨b, 0, none⟩)] 105 (0, 0)), .blk zx.2.1.2.2.2 (.cells #[.int .u8 k] 5 (0, 0))]) (fun zx => (vals zx.1 = vals row ++ [(Try.ent148 b m (Value.int .u8 k)).fn zx.2.1] ∧ zx.2.2.2 = (mget m (Value.int .u8 k)).isSome ∧ vI zx.2.2.1 = (mget m (Value.int .u8 k)).getD (vI 0))) := by
  refine call_of (c := bodyOf Try.f96) (n := 31) (fn := Try.f96) Try.mixed Try.func96 (by kernel_rfl) (by kernel_rfl) (by kernel_rfl) 2000 _ [] [0, 1, 2, 3, 30, 31, 32, 33] rfl rfl (Eq.mpr (stage_note_raw148_vc b bj r row m k) ?_)
  intro b1
  intro b2
  refine ⟨rfl, rfl, rfl, rfl, rfl, rfl, xlook Try.kl148 hk ⟨_, rfl⟩, wlook Try.kl148 hk _, ?_⟩
  intro x3
  intro h1
  have hx := h1
  intro b4
  intro b5
  refine ⟨rfl, rfl, rfl, rfl, rfl, rfl, rfl, rfl, rfl, rfl, ?_⟩
  refine ⟨rfl, rfl, rfl, rfl, rfl, rfl, rfl, rfl, rfl, rfl, ?_⟩
  intro b6
  refine ⟨xappendR Try.sl38 38 row (by rw [dg_len]; omega) b6 1 (Value.func (.func 105) #[] #[.pointer (some ⟨b5, 0, none⟩), .pointer (some ⟨b4, 0, none⟩), .pointer (some ⟨b1, 0, none⟩), .pointer (some ⟨b2, 0, none⟩)]) rfl, wit_app _, ?_⟩
  intro x7
  intro h2
  rw [rvals_eq] at h2
  have ha := h2
  refine ⟨xputv (b := bj) (cs := #[sv row]) (ty := 40) (te := 38) (fun w => by kernel_rfl) 0 (sv x7) (cells_sv _) (one_sv _) (by show 0 < 1; decide), ⟨(), trivial⟩, ?_⟩
  intro _
  intro _
  exact ⟨(x7, (b5, b4, b1, b2), x3), ⟨ha, hx.2.1, hx.2.2⟩, rfl, rfl, rfl, rfl, rfl, rfl, rfl, rfl, rfl, trivial⟩

def stage_note148_C : List Value → List Slot → Ctr := fun vs hs => ⟨List Ent, fun zx => .tuple #[], fun zx => [.blk (vblk (varg vs 1)) (.cells #[.map (some (snum (sarg hs 1) 0)), .pointer (some ⟨(vblk (scell (sarg hs 0) 1)), 0, none⟩), .func (.func 58) #[] #[]] 148 (0, 0)), (mo (snum (sarg hs 1) 0) (skv (sarg hs 1))), (jS Try.jk (vblk (scell (sarg hs 0) 1)) zx)], fun zx => zx = (sents (sarg hs 2)) ++ [(Try.ent148 (vblk (varg vs 1)) (skv (sarg hs 1)) (varg vs 2))]⟩
theorem stage_note148 (b : Nat) (bj : Nat) (r : Nat) (m : KV) (L : List Ent) (k : Int) (hk : KOK Try.mk148 m) (hl : L.length ≤ 1073741824) : CallT Try.prog 96 #[.pointer (some ⟨b, 0, none⟩), .int .u8 k] [.blk b (.cells #[.map (some r), .pointer (some ⟨bj, 0, none⟩), .func (.func 58) #[] #[]] 148 (0, 0)), (mo r m), (jS Try.jk bj L)] (List Ent) (fun zx => .tuple #[]) (fun zx => [.blk b (.cells #[.map (some r), .pointer (some ⟨bj, 0, none⟩), .func (.func 58) #[] #[]] 148 (0, 0)), (mo r m), (jS Try.jk bj zx)]) (fun zx => (zx = L ++ [(Try.ent148 b m (Value.int .u8 k))])) := by
  have c := jS_note (K := Try.jk) (bj := bj) (L := L) (vv := vI) (e := (Try.ent148 b m (Value.int .u8 k))) (mk := fun _ => default_ent) (enterOK (c := bodyOf Try.f96) Try.func96 (by kernel_rfl) (by kernel_rfl)) rfl (fun row hr => stage_note_raw148 b bj r row m k hk (by omega))
  exact c.exists fun _ _ => ⟨_, rfl, rfl, Imp.refl _⟩

set_option maxRecDepth 100000 in
theorem stage_Set_raw148_vc (b : Nat) (bj : Nat) (r : Nat) (m : KV) (L : List Ent) (k : Int) (v : Int) : codeW Try.prog 15 none 2000 none (bodyOf Try.f70) (.reg [.sem [.nw 3]] (.reg [.sem [], .sem [], .callw [0, 1, 2] [0, 1, 2] stage_note148_C] (.reg [.sem [], .sem [], .sem [], .sem [.rd 0], .sem [], .sem [.rd 3, .rd 3, .rd 3, .rd 3], .specw [1] [1] F_upd] (.done))))
    (init #[.pointer (some ⟨b, 0, none⟩), .int .u8 k, vI v] [.blk b (.cells #[.map (some r), .pointer (some ⟨bj, 0, none⟩), .func (.func 58) #[] #[]] 148 (0, 0)), (mo r m), (jS Try.jk bj L)]) (finW Try.prog Try.f70 [] [0, 1, 2] (X := KV × List Ent) (fun zx => .tuple #[]) (fun zx => [.blk b (.cells #[.map (some r), .pointer (some ⟨bj, 0, none⟩), .func (.func 58) #[] #[]] 148 (0, 0)), (mo r zx.1), (jS Try.jk bj zx.2)]) (fun zx => (zx.1 = mset m (Value.int .u8 k) (vI v) ∧ zx.2 = L ++ [(Try.ent148 b m (Value.int .u8 k))]))) =
    (∀ b1 : Nat, (CallT Try.prog 96 #[.pointer (some ⟨b, 0, none⟩), .int .u8 k] [.blk b (.cells #[.map (some r), .pointer (some ⟨bj, 0, none⟩), .func (.func 58) #[] #[]] 148 (0, 0)), (mo r m), (jS Try.jk bj L)] (List Ent) (fun zx => .tuple #[]) (fun zx => [.blk b (.cells #[.map (some r), .pointer (some ⟨bj, 0, none⟩), .func (.func 58) #[] #[]] 148 (0, 0)), (mo r m), (jS Try.jk bj zx)]) (fun zx => zx = L ++ [(Try.ent148 b m (Value.int .u8 k))])) ∧ (∃ zx : List Ent, (fun zx => zx = L ++ [(Try.ent148 b m (Value.int .u8 k))]) zx) ∧ ∀ x2 : List Ent, (x2 = L ++ [(Try.ent148 b m (Value.int .u8 k))]) → b = b ∧ (none : Option Nat) = none ∧ b1 = b1 ∧ (none : Option Nat) = none ∧ b1 = b1 ∧ (none : Option Nat) = none ∧ b1 = b1 ∧ (none : Option Nat) = none ∧ b1 = b1 ∧ (none : Option Nat) = none ∧ (OpT Try.prog (do Instr.mapUpdate 146 (.map (some r)) (.int .u8 k) (vI v); pure .skip) [(mo r m)] KV (fun zx => .tuple #[]) (fun zx => [(mo r zx)]) (fun zx => zx = mset m (Value.int .u8 k) (vI v))) ∧ (∃ zx : KV, (fun zx => zx = mset m (Value.int .u8 k) (vI v)) zx) ∧ ∀ x3 : KV, (x3 = mset m (Value.int .u8 k) (vI v)) → ∃ zx : KV × List Ent, (zx.1 = mset m (Value.int .u8 k) (vI v) ∧ zx.2 = L ++ [(Try.ent148 b m (Value.int .u8 k))]) ∧ Value.tuple #[] = .tuple #[] ∧ Slot.blk b (.cells #[.map (some r), .pointer (some ⟨bj, 0, none⟩), .func (.func 58) #[] #[]] 148 (0, 0)) = .blk b (.cells #[.map (some r), .pointer (some ⟨bj, 0, none⟩), .func (.func 58) #[] #[]] 148 (0, 0)) ∧ (mo r x3) = (mo r zx.1) ∧ (jS Try.jk bj x2) = (jS Try.jk bj zx.2) ∧ True) := by kernel_rfl
set_option maxRecDepth 100000 in
theorem stage_Set_raw148 (b : Nat) (bj : Nat) (r : Nat) (m : KV) (L : List Ent) (k : Int) (v : Int) (r_v : R4 v) (hk : KOK Try.mk148 m) (hl : L.length ≤ 1073741824) : CallT Try.prog 70 #[.pointer (some ⟨b, 0, none⟩), .int .u8 k, vI v] [.blk b (.cells #[.map (some r), .pointer (some ⟨bj, 0, none⟩), .func (.func 58) #[] #[]] 148 (0, 0)), (mo r m), (jS Try.jk bj L)] (KV × List Ent) (fun zx => .tuple #[]) (fun zx => [.blk b (.cells #[.map (some r), .pointer (some ⟨bj, 0, none⟩), .func (.func 58) #[] #[]] 148 (0, 0)), (mo r zx.1), (jS Try.jk bj zx.2)]) (fun zx => (zx.1 = mset m (Value.int .u8 k) (vI v) ∧ zx.2 = L ++ [(Try.ent148 b m (Value.int .u8 k))])) := by
  refine call_of (c := bodyOf Try.f70) (n := 15) (fn := Try.f70) Try.mixed Try.func70 (by kernel_rfl) (by kernel_rfl) (by kernel_rfl) 2000 _ [] [0, 1, 2] rfl rfl (Eq.mpr (stage_Set_raw148_vc b bj r m L k v) ?_)
  intro b1
  refine ⟨stage_note148 b bj r m L k (hk) (hl), ⟨_, rfl⟩, ?_⟩
  intro x2
  intro h1
  have hn := h1
  refine ⟨rfl, rfl, rfl, rfl, rfl, rfl, rfl, rfl, rfl, rfl, xupd Try.kl148 hk ⟨_, rfl⟩ (vI v), ⟨_, rfl⟩, ?_⟩
  intro x3
  intro h2
  have hs := h2
  exact ⟨(_, _), ⟨hs, hn⟩, rfl, rfl, rfl, rfl, trivial⟩

def stage_Set148_C : List Value → List Slot → Ctr := fun vs hs => ⟨KV × List Ent, fun zx => .tuple #[], fun zx => [(mS Try.mk148 (vblk (varg vs 1)) (snum (sarg hs 0) 1) zx.1), (jS Try.jk (snum (sarg hs 0) 1) zx.2)], fun zx => zx.1 = mset (skv (sarg hs 0)) (varg vs 2) (varg vs 3) ∧ zx.2 = (sents (sarg hs 1)) ++ [(Try.ent148 (vblk (varg vs 1)) (skv (sarg hs 0)) (varg vs 2))]⟩
theorem stage_Set148 (b : Nat) (bj : Nat) (m : KV) (L : List Ent) (k : Int) (v : Int) (r_v : R4 v)  (hl : L.length ≤ 1073741824) : CallT Try.prog 70 #[.pointer (some ⟨b, 0, none⟩), .int .u8 k, vI v] [(mS Try.mk148 b bj m), (jS Try.jk bj L)] (KV × List Ent) (fun zx => .tuple #[]) (fun zx => [(mS Try.mk148 b bj zx.1), (jS Try.jk bj zx.2)]) (fun zx => (zx.1 = mset m (Value.int .u8 k) (vI v) ∧ zx.2 = L ++ [(Try.ent148 b m (Value.int .u8 k))])) := by
  refine mS_call (m' := fun x : KV × List Ent => x.1) (us := fun x => [(jS Try.jk bj x.2)]) (enterOK (c := bodyOf Try.f70) Try.func70 (by kernel_rfl) (by kernel_rfl)) (fun r hk => ?_) (fun x hx h => ?_)
  · exact (stage_Set_raw148 b bj r m L k v r_v hk hl)
  · exact hx.1 ▸ h.set (⟨_, rfl⟩) (⟨_, r_v, rfl⟩)

theorem Try.numk143 : NumK Try.mk143 := fun _ => Iff.rfl
theorem Try.numk148 : NumK Try.mk148 := fun _ => Iff.rfl
def book_New_C : List Value → List Slot → Ctr := fun vs hs => ⟨Nat × Nat × Nat, fun zx => .pointer (some ⟨zx.1, 0, none⟩), fun zx => [.blk zx.1 (.cells #[.pointer (some ⟨zx.2.1, 0, none⟩), .pointer (some ⟨zx.2.2, 0, none⟩)] 108 (0, 0)), (mS Try.mk143 zx.2.1 (vblk (varg vs 1)) ([])), (mS Try.mk148 zx.2.2 (vblk (varg vs 1)) ([]))], fun zx => True⟩
set_option maxRecDepth 100000 in
theorem book_New_vc (bj : Nat) : codeW Try.prog 9 none 2000 none (bodyOf Try.f19) (.reg [.sem []] (.reg [.sem [], .callw [] [21] stage_New143_C, .sem [], .callw [] [22] stage_New148_C, .sem [], .sem [.nw 20], .sem []] (.done)))
    (init #[.pointer (some ⟨bj, 0, none⟩)] []) (finW Try.prog Try.f19 [] [20, 21, 22] (X := Nat × Nat × Nat) (fun zx => .pointer (some ⟨zx.1, 0, none⟩)) (fun zx => [.blk zx.1 (.cells #[.pointer (some ⟨zx.2.1, 0, none⟩), .pointer (some ⟨zx.2.2, 0, none⟩)] 108 (0, 0)), (mS Try.mk143 zx.2.1 bj ([])), (mS Try.mk148 zx.2.2 bj ([]))]) (fun zx => (True))) =
    ((CallT Try.prog 65 #[.pointer (some ⟨bj, 0, none⟩), .func (.func 66) #[] #[]] [] Nat (fun zx => .pointer (some ⟨zx, 0, none⟩)) (fun zx => [(mS Try.mk143 zx bj ([]))]) (fun zx => True)) ∧ (∃ zx : Nat, (fun zx => True) zx) ∧ ∀ x1 : Nat, (True) → (CallT Try.prog 67 #[.pointer (some ⟨bj, 0, none⟩), .func (.func 58) #[] #[]] [] Nat (fun zx => .pointer (some ⟨zx, 0, none⟩)) (fun zx => [(mS Try.mk148 zx bj ([]))]) (fun zx => True)) ∧ (∃ zx : Nat, (fun zx => True) zx) ∧ ∀ x2 : Nat, (True) → ∀ b3 : Nat, ∃ zx : Nat × Nat × Nat, (True) ∧ Value.pointer (some ⟨b3, 0, none⟩) = .pointer (some ⟨zx.1, 0, none⟩) ∧ Slot.blk b3 (.cells #[.pointer (some ⟨x1, 0, none⟩), .pointer (some ⟨x2, 0, none⟩)] 108 (0, 0)) = .blk zx.1 (.cells #[.pointer (some ⟨zx.2.1, 0, none⟩), .pointer (some ⟨zx.2.2, 0, none⟩)] 108 (0, 0)) ∧ (mS Try.mk143 x1 bj ([])) = (mS Try.mk143 zx.2.1 bj ([])) ∧ (mS Try.mk148 x2 bj ([])) = (mS Try.mk148 zx.2.2 bj ([])) ∧ True) := by kernel_rfl
set_option maxRecDepth 100000 in
theorem book_New (bj : Nat)  : CallT Try.prog 19 #[.pointer (some ⟨bj, 0, none⟩)] [] (Nat × Nat × Nat) (fun zx => .pointer (some ⟨zx.1, 0, none⟩)) (fun zx => [.blk zx.1 (.cells #[.pointer (some ⟨zx.2.1, 0, none⟩), .pointer (some ⟨zx.2.2, 0, none⟩)] 108 (0, 0)), (mS Try.mk143 zx.2.1 bj ([])), (mS Try.mk148 zx.2.2 bj ([]))]) (fun zx => (True)) := by
  refine call_of (c := bodyOf Try.f19) (n := 9) (fn := Try.f19) Try.mixed Try.func19 (by kernel_rfl) (by kernel_rfl) (by kernel_rfl) 2000 _ [] [20, 21, 22] rfl rfl (Eq.mpr (book_New_vc bj) ?_)
  refine ⟨stage_New143 bj, ⟨0, trivial⟩, ?_⟩
  intro x1
  intro h1
  refine ⟨stage_New148 bj, ⟨0, trivial⟩, ?_⟩
  intro x2
  intro h2
  intro b3
  exact ⟨(b3, x1, x2), trivial, rfl, rfl, rfl, rfl, trivial⟩

def book_put_C : List Value → List Slot → Ctr := fun vs hs => ⟨BS, fun zx => .tuple #[], fun zx => [.blk (vblk (varg vs 1)) (.cells #[.pointer (some ⟨(vblk (scell (sarg hs 0) 0)), 0, none⟩), .pointer (some ⟨(vblk (scell (sarg hs 0) 1)), 0, none⟩)] 108 (0, 0)), (mS Try.mk143 (vblk (scell (sarg hs 0) 0)) (snum (sarg hs 1) 1) zx.1), (mS Try.mk148 (vblk (scell (sarg hs 0) 1)) (snum (sarg hs 1) 1) zx.2.1), (jS Try.jk (snum (sarg hs 1) 1) zx.2.2)], fun zx => zx = bPut (Try.ent143 (vblk (scell (sarg hs 0) 0))) (((skv (sarg hs 1)), (skv (sarg hs 2)), (sents (sarg hs 3))) : BS) (varg vs 2) (num (varg vs 3))⟩
set_option maxRecDepth 100000 in
theorem book_put_vc (b : Nat) (bm : Nat) (bs : Nat) (bj : Nat) (mb : KV) (ms : KV) (L : List Ent) (k0 : Int) (k1 : Int) (n : Int) : codeW Try.prog 22 none 2000 none (bodyOf Try.f71) (.reg [.sem [.nw 4], .sem [.nw 5]] (.reg [.sem [.rd 5, .rd 5, .rd 5, .rd 5], .sem [], .eq (f_eq)] (.cond (.reg [.sem [], .sem [], .sem [], .sem [.rd 0], .sem [.rd 4, .rd 4], .callw [1, 3] [1, 3] stage_Drop143_C] (.done)) (.reg [.sem [], .sem [], .sem [], .sem [.rd 0], .sem [.rd 4, .rd 4], .sem [.rd 5, .rd 5, .rd 5, .rd 5], .callw [1, 3] [1, 3] stage_Set143_C] (.done)))))
    (init #[.pointer (some ⟨b, 0, none⟩), .agg #[.int .u8 k0, .int .u8 k1], vI n] [.blk b (.cells #[.pointer (some ⟨bm, 0, none⟩), .pointer (some ⟨bs, 0, none⟩)] 108 (0, 0)), (mS Try.mk143 bm bj mb), (mS Try.mk148 bs bj ms), (jS Try.jk bj L)]) (finW Try.prog Try.f71 [] [0, 1, 2, 3] (X := BS) (fun zx => .tuple #[]) (fun zx => [.blk b (.cells #[.pointer (some ⟨bm, 0, none⟩), .pointer (some ⟨bs, 0, none⟩)] 108 (0, 0)), (mS Try.mk143 bm bj zx.1), (mS Try.mk148 bs bj zx.2.1), (jS Try.jk bj zx.2.2)]) (fun zx => (zx = bPut (Try.ent143 bm) ((mb, ms, L) : BS) (Value.agg #[.int .u8 k0, .int .u8 k1]) (num (vI n))))) =
    (∀ b1 : Nat, ∀ b2 : Nat, b2 = b2 ∧ (none : Option Nat) = none ∧ b2 = b2 ∧ (none : Option Nat) = none ∧ b2 = b2 ∧ (none : Option Nat) = none ∧ b2 = b2 ∧ (none : Option Nat) = none ∧ (PureRun Try.prog (xBin .eql 44 (vI n) (vI 0)) (.bool (num (vI n) == num (vI 0)))) ∧ ((num (vI n) == num (vI 0)) = true → b = b ∧ (none : Option Nat) = none ∧ b1 = b1 ∧ (none : Option Nat) = none ∧ b1 = b1 ∧ (none : Option Nat) = none ∧ (CallT Try.prog 97 #[.pointer (some ⟨bm, 0, none⟩), .agg #[.int .u8 k0, .int .u8 k1]] [(mS Try.mk143 bm bj mb), (jS Try.jk bj L)] (KV × List Ent × Bool) (fun zx => .bool zx.2.2) (fun zx => [(mS Try.mk143 bm bj zx.1), (jS Try.jk bj zx.2.1)]) (fun zx => zx.2.2 = (mget mb (Value.agg #[.int .u8 k0, .int .u8 k1])).isSome ∧ zx.1 = mdel mb (Value.agg #[.int .u8 k0, .int .u8 k1]) ∧ zx.2.1 = if (mget mb (Value.agg #[.int .u8 k0, .int .u8 k1])).isSome then L ++ [(Try.ent143 bm mb (Value.agg #[.int .u8 k0, .int .u8 k1]))] else L)) ∧ (∃ zx : KV × List Ent × Bool, (fun zx => zx.2.2 = (mget mb (Value.agg #[.int .u8 k0, .int .u8 k1])).isSome ∧ zx.1 = mdel mb (Value.agg #[.int .u8 k0, .int .u8 k1]) ∧ zx.2.1 = if (mget mb (Value.agg #[.int .u8 k0, .int .u8 k1])).isSome then L ++ [(Try.ent143 bm mb (Value.agg #[.int .u8 k0, .int .u8 k1]))] else L) zx) ∧ ∀ x3 : KV × List Ent × Bool, (x3.2.2 = (mget mb (Value.agg #[.int .u8 k0, .int .u8 k1])).isSome ∧ x3.1 = mdel mb (Value.agg #[.int .u8 k0, .int .u8 k1]) ∧ x3.2.1 = if (mget mb (Value.agg #[.int .u8 k0, .int .u8 k1])).isSome then L ++ [(Try.ent143 bm mb (Value.agg #[.int .u8 k0, .int .u8 k1]))] else L) → ∃ zx : BS, (zx = bPut (Try.ent143 bm) ((mb, ms, L) : BS) (Value.agg #[.int .u8 k0, .int .u8 k1]) (num (vI n))) ∧ Value.tuple #[] = .tuple #[] ∧ Slot.blk b (.cells #[.pointer (some ⟨bm, 0, none⟩), .pointer (some ⟨bs, 0, none⟩)] 108 (0, 0)) = .blk b (.cells #[.pointer (some ⟨bm, 0, none⟩), .pointer (some ⟨bs, 0, none⟩)] 108 (0, 0)) ∧ (mS Try.mk143 bm bj x3.1) = (mS Try.mk143 bm bj zx.1) ∧ (mS Try.mk148 bs bj ms) = (mS Try.mk148 bs bj zx.2.1) ∧ (jS Try.jk bj x3.2.1) = (jS Try.jk bj zx.2.2) ∧ True) ∧ ((num (vI n) == num (vI 0)) = false → b = b ∧ (none : Option Nat) = none ∧ b1 = b1 ∧ (none : Option Nat) = none ∧ b1 = b1 ∧ (none : Option Nat) = none ∧ b2 = b2 ∧ (none : Option Nat) = none ∧ b2 = b2 ∧ (none : Option Nat) = none ∧ b2 = b2 ∧ (none : Option Nat) = none ∧ b2 = b2 ∧ (none : Option Nat) = none ∧ (CallT Try.prog 98 #[.pointer (some ⟨bm, 0, none⟩), .agg #[.int .u8 k0, .int .u8 k1], vI n] [(mS Try.mk143 bm bj mb), (jS Try.jk bj L)] (KV × List Ent) (fun zx => .tuple #[]) (fun zx => [(mS Try.mk143 bm bj zx.1), (jS Try.jk bj zx.2)]) (fun zx => zx.1 = mset mb (Value.agg #[.int .u8 k0, .int .u8 k1]) (vI n) ∧ zx.2 = L ++ [(Try.ent143 bm mb (Value.agg #[.int .u8 k0, .int .u8 k1]))])) ∧ (∃ zx : KV × List Ent, (fun zx => zx.1 = mset mb (Value.agg #[.int .u8 k0, .int .u8 k1]) (vI n) ∧ zx.2 = L ++ [(Try.ent143 bm mb (Value.agg #[.int .u8 k0, .int .u8 k1]))]) zx) ∧ ∀ x4 : KV × List Ent, (x4.1 = mset mb (Value.agg #[.int .u8 k0, .int .u8 k1]) (vI n) ∧ x4.2 = L ++ [(Try.ent143 bm mb (Value.agg #[.int .u8 k0, .int .u8 k1]))]) → ∃ zx : BS, (zx = bPut (Try.ent143 bm) ((mb, ms, L) : BS) (Value.agg #[.int .u8 k0, .int .u8 k1]) (num (vI n))) ∧ Value.tuple #[] = .tuple #[] ∧ Slot.blk b (.cells #[.pointer (some ⟨bm, 0, none⟩), .pointer (some ⟨bs, 0, none⟩)] 108 (0, 0)) = .blk b (.cells #[.pointer (some ⟨bm, 0, none⟩), .pointer (some ⟨bs, 0, none⟩)] 108 (0, 0)) ∧ (mS Try.mk143 bm bj x4.1) = (mS Try.mk143 bm bj zx.1) ∧ (mS Try.mk148 bs bj ms) = (mS Try.mk148 bs bj zx.2.1) ∧ (jS Try.jk bj x4.2) = (jS Try.jk bj zx.2.2) ∧ True)) := by kernel_rfl
set_option maxRecDepth 100000 in
theorem book_put (b : Nat) (bm : Nat) (bs : Nat) (bj : Nat) (mb : KV) (ms : KV) (L : List Ent) (k0 : Int) (k1 : Int) (n : Int) (r_n : R4 n) (hl : L.length ≤ 2000000) : CallT Try.prog 71 #[.pointer (some ⟨b, 0, none⟩), .agg #[.int .u8 k0, .int .u8 k1], vI n] [.blk b (.cells #[.pointer (some ⟨bm, 0, none⟩), .pointer (some ⟨bs, 0, none⟩)] 108 (0, 0)), (mS Try.mk143 bm bj mb), (mS Try.mk148 bs bj ms), (jS Try.jk bj L)] BS (fun zx => .tuple #[]) (fun zx => [.blk b (.cells #[.pointer (some ⟨bm, 0, none⟩), .pointer (some ⟨bs, 0, none⟩)] 108 (0, 0)), (mS Try.mk143 bm bj zx.1), (mS Try.mk148 bs bj zx.2.1), (jS Try.jk bj zx.2.2)]) (fun zx => (zx = bPut (Try.ent143 bm) ((mb, ms, L) : BS) (Value.agg #[.int .u8 k0, .int .u8 k1]) (num (vI n)))) := by
  refine call_of (c := bodyOf Try.f71) (n := 22) (fn := Try.f71) Try.mixed Try.func71 (by kernel_rfl) (by kernel_rfl) (by kernel_rfl) 2000 _ [] [0, 1, 2, 3] rfl rfl (Eq.mpr (book_put_vc b bm bs bj mb ms L k0 k1 n) ?_)
  intro b1
  intro b2
  refine ⟨rfl, rfl, rfl, rfl, rfl, rfl, rfl, rfl, Try.xeq44 n 0, ?_⟩
  refine ⟨fun h1 => ?_, fun h1 => ?_⟩
  · refine ⟨rfl, rfl, rfl, rfl, rfl, rfl, stage_Drop143 bm bj mb L k0 k1 (by omega), ⟨(_, _, _), rfl, rfl, rfl⟩, ?_⟩
    intro x3
    intro h2
    have hd := h2
    have hz : n = 0 := by
      have hq := ‹(num (vI n) == num (vI 0)) = true›
      rw [num_vI r_n, num_vI R4_zero] at hq; exact beq_iff_eq.1 hq
    exact ⟨(x3.1, ms, x3.2.1), by rw [num_vI r_n]; unfold bPut mput putL; rw [if_pos hz, if_pos hz, ← hd.2.1, ← hd.2.2], rfl, rfl, rfl, rfl, rfl, trivial⟩
  · refine ⟨rfl, rfl, rfl, rfl, rfl, rfl, rfl, rfl, rfl, rfl, rfl, rfl, rfl, rfl, stage_Set143 bm bj mb L k0 k1 n (by assumption) (by omega), ⟨(_, _), rfl, rfl⟩, ?_⟩
    intro x4
    intro h3
    try simp only [num_vI (n := n) (by assumption)] at h3
    have hs := h3
    have hz : ¬ n = 0 := by
      have hq := ‹(num (vI n) == num (vI 0)) = false›
      rw [num_vI r_n, num_vI R4_zero] at hq; exact beq_eq_false_iff_ne.1 hq
    exact ⟨(x4.1, ms, x4.2), by rw [num_vI r_n]; unfold bPut mput putL; rw [if_neg hz, if_neg hz, ← hs.1, ← hs.2], rfl, rfl, rfl, rfl, rfl, trivial⟩

def book_Balance_C : List Value → List Slot → Ctr := fun vs hs => ⟨Int, fun zx => vI zx, fun _ => hs, fun zx => R4 zx ∧ zx = bal (skv (sarg hs 1)) (ci (varg vs 2)) (ci (varg vs 3))⟩
set_option maxRecDepth 100000 in
theorem book_Balance_vc (b : Nat) (bm : Nat) (bs : Nat) (bj : Nat) (mb : KV) (t : Int) (p : Int) : codeW Try.prog 21 none 2000 none (bodyOf Try.f25) (.reg [.sem [.nw 2]] (.reg [.sem [], .sem [], .sem [], .sem [.rd 0], .sem [], .sem [], .sem [], .callr [1] stage_Get143_C, .sem [], .sem [], .sem [], .sem [.nw 3], .sem [.wr 3, .wr 3, .wr 3, .wr 3], .sem []] (.reg [.sem [.rd 3, .rd 3, .rd 3, .rd 3], .sem [.wr 2, .wr 2, .wr 2, .wr 2]] (.done))))
    (init #[.pointer (some ⟨b, 0, none⟩), .int .u8 t, .int .u8 p] [.blk b (.cells #[.pointer (some ⟨bm, 0, none⟩), .pointer (some ⟨bs, 0, none⟩)] 108 (0, 0)), (mS Try.mk143 bm bj mb)]) (finW Try.prog Try.f25 [.rd 2, .rd 2, .rd 2, .rd 2] [0, 1] (X := Int) (fun zx => vI zx) (fun zx => [.blk b (.cells #[.pointer (some ⟨bm, 0, none⟩), .pointer (some ⟨bs, 0, none⟩)] 108 (0, 0)), (mS Try.mk143 bm bj mb)]) (fun zx => (R4 zx ∧ zx = bal mb t p))) =
    (∀ b1 : Nat, b = b ∧ (none : Option Nat) = none ∧ (CallT Try.prog 73 #[.pointer (some ⟨bm, 0, none⟩), .agg #[.int .u8 t, .int .u8 p]] [(mS Try.mk143 bm bj mb)] (Int × Bool) (fun zx => .tuple #[vI zx.1, .bool zx.2]) (fun _ => [(mS Try.mk143 bm bj mb)]) (fun zx => zx.1 = num ((mget mb (Value.agg #[.int .u8 t, .int .u8 p])).getD (vI 0)) ∧ zx.2 = (mget mb (Value.agg #[.int .u8 t, .int .u8 p])).isSome)) ∧ (∃ zx : Int × Bool, (fun zx => zx.1 = num ((mget mb (Value.agg #[.int .u8 t, .int .u8 p])).getD (vI 0)) ∧ zx.2 = (mget mb (Value.agg #[.int .u8 t, .int .u8 p])).isSome) zx) ∧ ∀ x2 : Int × Bool, (x2.1 = num ((mget mb (Value.agg #[.int .u8 t, .int .u8 p])).getD (vI 0)) ∧ x2.2 = (mget mb (Value.agg #[.int .u8 t, .int .u8 p])).isSome) → ∀ b3 : Nat, b3 = b3 ∧ (none : Option Nat) = none ∧ b3 = b3 ∧ (none : Option Nat) = none ∧ b3 = b3 ∧ (none : Option Nat) = none ∧ b3 = b3 ∧ (none : Option Nat) = none ∧ b3 = b3 ∧ (none : Option Nat) = none ∧ b3 = b3 ∧ (none : Option Nat) = none ∧ b3 = b3 ∧ (none : Option Nat) = none ∧ b3 = b3 ∧ (none : Option Nat) = none ∧ b1 = b1 ∧ (none : Option Nat) = none ∧ b1 = b1 ∧ (none : Option Nat) = none ∧ b1 = b1 ∧ (none : Option Nat) = none ∧ b1 = b1 ∧ (none : Option Nat) = none ∧ b1 = b1 ∧ (none : Option Nat) = none ∧ b1 = b1 ∧ (none : Option Nat) = none ∧ b1 = b1 ∧ (none : Option Nat) = none ∧ b1 = b1 ∧ (none : Option Nat) = none ∧ ∃ zx : Int, (R4 zx ∧ zx = bal mb t p) ∧ vI x2.1 = vI zx ∧ Slot.blk b (.cells #[.pointer (some ⟨bm, 0, none⟩), .pointer (some ⟨bs, 0, none⟩)] 108 (0, 0)) = .blk b (.cells #[.pointer (some ⟨bm, 0, none⟩), .pointer (some ⟨bs, 0, none⟩)] 108 (0, 0)) ∧ (mS Try.mk143 bm bj mb) = (mS Try.mk143 bm bj mb) ∧ True) := by kernel_rfl
set_option maxRecDepth 100000 in
theorem book_Balance (b : Nat) (bm : Nat) (bs : Nat) (bj : Nat) (mb : KV) (t : Int) (p : Int) (hb : KOK Try.mk143 mb) : CallT Try.prog 25 #[.pointer (some ⟨b, 0, none⟩), .int .u8 t, .int .u8 p] [.blk b (.cells #[.pointer (some ⟨bm, 0, none⟩), .pointer (some ⟨bs, 0, none⟩)] 108 (0, 0)), (mS Try.mk143 bm bj mb)] Int (fun zx => vI zx) (fun zx => [.blk b (.cells #[.pointer (some ⟨bm, 0, none⟩), .pointer (some ⟨bs, 0, none⟩)] 108 (0, 0)), (mS Try.mk143 bm bj mb)]) (fun zx => (R4 zx ∧ zx = bal mb t p)) := by
  refine call_of (c := bodyOf Try.f25) (n := 21) (fn := Try.f25) Try.mixed Try.func25 (by kernel_rfl) (by kernel_rfl) (by kernel_rfl) 2000 _ [.rd 2, .rd 2, .rd 2, .rd 2] [0, 1] rfl rfl (Eq.mpr (book_Balance_vc b bm bs bj mb t p) ?_)
  intro b1
  refine ⟨rfl, rfl, stage_Get143 bm bj mb t p, ⟨(_, _), rfl, rfl⟩, ?_⟩
  intro x2
  intro h1
  have hg := h1
  have r0 : R4 x2.1 := by rw [hg.1]; exact KOK.R4v Try.numk143 hb _
  intro b3
  refine ⟨rfl, rfl, rfl, rfl, rfl, rfl, rfl, rfl, ?_⟩
  refine ⟨rfl, rfl, rfl, rfl, rfl, rfl, rfl, rfl, rfl, rfl, rfl, rfl, rfl, rfl, rfl, rfl, ?_⟩
  refine ⟨rfl, rfl, rfl, rfl, rfl, rfl, rfl, rfl, ?_⟩
  exact ⟨_, ⟨r0, hg.1⟩, rfl, rfl, rfl, trivial⟩

def book_Supply_C : List Value → List Slot → Ctr := fun vs hs => ⟨Int, fun zx => vI zx, fun _ => hs, fun zx => R4 zx ∧ zx = sup (skv (sarg hs 1)) (ci (varg vs 2))⟩
set_option maxRecDepth 100000 in
theorem book_Supply_vc (b : Nat) (bm : Nat) (bs : Nat) (bj : Nat) (ms : KV) (t : Int) : codeW Try.prog 17 none 2000 none (bodyOf Try.f26) (.reg [.sem [.nw 2]] (.reg [.sem [], .sem [], .sem [], .sem [.rd 0], .sem [], .callr [1] stage_Get148_C, .sem [], .sem [], .sem [], .sem [.nw 3], .sem [.wr 3, .wr 3, .wr 3, .wr 3], .sem []] (.reg [.sem [.rd 3, .rd 3, .rd 3, .rd 3], .sem [.wr 2, .wr 2, .wr 2, .wr 2]] (.done))))
    (init #[.pointer (some ⟨b, 0, none⟩), .int .u8 t] [.blk b (.cells #[.pointer (some ⟨bm, 0, none⟩), .pointer (some ⟨bs, 0, none⟩)] 108 (0, 0)), (mS Try.mk148 bs bj ms)]) (finW Try.prog Try.f26 [.rd 2, .rd 2, .rd 2, .rd 2] [0, 1] (X := Int) (fun zx => vI zx) (fun zx => [.blk b (.cells #[.pointer (some ⟨bm, 0, none⟩), .pointer (some ⟨bs, 0, none⟩)] 108 (0, 0)), (mS Try.mk148 bs bj ms)]) (fun zx => (R4 zx ∧ zx = sup ms t))) =
    (∀ b1 : Nat, b = b ∧ (none : Option Nat) = none ∧ (CallT Try.prog 74 #[.pointer (some ⟨bs, 0, none⟩), .int .u8 t] [(mS Try.mk148 bs bj ms)] (Int × Bool) (fun zx => .tuple #[vI zx.1, .bool zx.2]) (fun _ => [(mS Try.mk148 bs bj ms)]) (fun zx => zx.1 = num ((mget ms (Value.int .u8 t)).getD (vI 0)) ∧ zx.2 = (mget ms (Value.int .u8 t)).isSome)) ∧ (∃ zx : Int × Bool, (fun zx => zx.1 = num ((mget ms (Value.int .u8 t)).getD (vI 0)) ∧ zx.2 = (mget ms (Value.int .u8 t)).isSome) zx) ∧ ∀ x2 : Int × Bool, (x2.1 = num ((mget ms (Value.int .u8 t)).getD (vI 0)) ∧ x2.2 = (mget ms (Value.int .u8 t)).isSome) → ∀ b3 : Nat, b3 = b3 ∧ (none : Option Nat) = none ∧ b3 = b3 ∧ (none : Option Nat) = none ∧ b3 = b3 ∧ (none : Option Nat) = none ∧ b3 = b3 ∧ (none : Option Nat) = none ∧ b3 = b3 ∧ (none : Option Nat) = none ∧ b3 = b3 ∧ (none : Option Nat) = none ∧ b3 = b3 ∧ (none : Option Nat) = none ∧ b3 = b3 ∧ (none : Option Nat) = none ∧ b1 = b1 ∧ (none : Option Nat) = none ∧ b1 = b1 ∧ (none : Option Nat) = none ∧ b1 = b1 ∧ (none : Option Nat) = none ∧ b1 = b1 ∧ (none : Option Nat) = none ∧ b1 = b1 ∧ (none : Option Nat) = none ∧ b1 = b1 ∧ (none : Option Nat) = none ∧ b1 = b1 ∧ (none : Option Nat) = none ∧ b1 = b1 ∧ (none : Option Nat) = none ∧ ∃ zx : Int, (R4 zx ∧ zx = sup ms t) ∧ vI x2.1 = vI zx ∧ Slot.blk b (.cells #[.pointer (some ⟨bm, 0, none⟩), .pointer (some ⟨bs, 0, none⟩)] 108 (0, 0)) = .blk b (.cells #[.pointer (some ⟨bm, 0, none⟩), .pointer (some ⟨bs, 0, none⟩)] 108 (0, 0)) ∧ (mS Try.mk148 bs bj ms) = (mS Try.mk148 bs bj ms) ∧ True) := by kernel_rfl
set_option maxRecDepth 100000 in
theorem book_Supply (b : Nat) (bm : Nat) (bs : Nat) (bj : Nat) (ms : KV) (t : Int) (hs : KOK Try.mk148 ms) : CallT Try.prog 26 #[.pointer (some ⟨b, 0, none⟩), .int .u8 t] [.blk b (.cells #[.pointer (some ⟨bm, 0, none⟩), .pointer (some ⟨bs, 0, none⟩)] 108 (0, 0)), (mS Try.mk148 bs bj ms)] Int (fun zx => vI zx) (fun zx => [.blk b (.cells #[.pointer (some ⟨bm, 0, none⟩), .pointer (some ⟨bs, 0, none⟩)] 108 (0, 0)), (mS Try.mk148 bs bj ms)]) (fun zx => (R4 zx ∧ zx = sup ms t)) := by
  refine call_of (c := bodyOf Try.f26) (n := 17) (fn := Try.f26) Try.mixed Try.func26 (by kernel_rfl) (by kernel_rfl) (by kernel_rfl) 2000 _ [.rd 2, .rd 2, .rd 2, .rd 2] [0, 1] rfl rfl (Eq.mpr (book_Supply_vc b bm bs bj ms t) ?_)
  intro b1
  refine ⟨rfl, rfl, stage_Get148 bs bj ms t, ⟨(_, _), rfl, rfl⟩, ?_⟩
  intro x2
  intro h1
  have hg := h1
  have r0 : R4 x2.1 := by rw [hg.1]; exact KOK.R4v Try.numk148 hs _
  intro b3
  refine ⟨rfl, rfl, rfl, rfl, rfl, rfl, rfl, rfl, ?_⟩
  refine ⟨rfl, rfl, rfl, rfl, rfl, rfl, rfl, rfl, rfl, rfl, rfl, rfl, rfl, rfl, rfl, rfl, ?_⟩
  refine ⟨rfl, rfl, rfl, rfl, rfl, rfl, rfl, rfl, ?_⟩
  exact ⟨_, ⟨r0, hg.1⟩, rfl, rfl, rfl, trivial⟩

def book_wrong1_C : List Value → List Slot → Ctr := fun vs hs => ⟨Int, fun zx => .int .i64 zx, fun _ => hs, fun zx => zx = bw1 (ci (varg vs 1)) (ci (scell (sarg hs 0) 0)) (num (varg vs 2))⟩
set_option maxRecDepth 100000 in
theorem book_wrong1_vc (c : Nat) (t : Int) (n : Int) (p : Int) : codeW Try.prog 26 none 2000 none (bodyOf Try.f69) (.reg [.sem [.nw 1], .sem []] (.reg [.sem [], .sem [], .sem []] (.reg [.sem []] (.condT (.reg [.sem [], .sem [.rd 0], .sem []] (.caseP (fun s => decide ((ci (s.fr 0)) ≥ (4 : Int))) (.reg [.sem [], .gen [] (one (.bool true)), .sem [], .no, .no, .no, .sem []] (.condT (.reg [.sem []] (.done)))) (.reg [.sem [], .gen [] (one (.bool false)), .sem [], .sem [], .gen [] (fun vs => one (.int .i64 (ci (varg vs 0))) vs), .sem [], .sem []] (.cond (.reg [.sem []] (.done)) (.reg [.sem [], .sem []] (.reg [.sem []] (.condF (.reg [.sem [.rd 1, .rd 1, .rd 1, .rd 1], .sem [], .eq (f_eq)] (.cond (.reg [.sem []] (.done)) (.reg [.sem []] (.done)))))))))))))))
    (init #[.int .u8 t, vI n, .slice (some ⟨c, 0, none⟩) 1 1] [.blk c (.cells #[.int .u8 p] 5 (0, 0))]) (finW Try.prog Try.f69 [] [0] (X := Int) (fun zx => .int .i64 zx) (fun zx => [.blk c (.cells #[.int .u8 p] 5 (0, 0))]) (fun zx => (zx = bw1 t p (num (vI n))))) =
    (∀ b1 : Nat, (true = true) ∧ c = c ∧ (none : Option Nat) = none ∧ ((decide (t ≥ (4 : Int))) = true → (∃ _ : Unit, True ∧ Value.bool (decide (t ≥ (4 : Int))) = .bool true) ∧ ∀ _ : Unit, (True) → true = !false ∧ true = !false ∧ true = !false ∧ (true = true) ∧ ∃ zx : Int, (zx = bw1 t p (num (vI n))) ∧ Value.int .i64 1 = .int .i64 zx ∧ Slot.blk c (.cells #[.int .u8 p] 5 (0, 0)) = .blk c (.cells #[.int .u8 p] 5 (0, 0)) ∧ True) ∧ ((decide (t ≥ (4 : Int))) = false → (∃ _ : Unit, True ∧ Value.bool (decide (t ≥ (4 : Int))) = .bool false) ∧ ∀ _ : Unit, (True) → false = false ∧ false = false ∧ (∃ _ : Unit, True ∧ Value.int .i64 (IntKind.i64.wrap p) = .int .i64 p) ∧ ∀ _ : Unit, (True) → false = false ∧ ((decide (p ≥ (18 : Int))) = true → ∃ zx : Int, (zx = bw1 t p (num (vI n))) ∧ Value.int .i64 1 = .int .i64 zx ∧ Slot.blk c (.cells #[.int .u8 p] 5 (0, 0)) = .blk c (.cells #[.int .u8 p] 5 (0, 0)) ∧ True) ∧ ((decide (p ≥ (18 : Int))) = false → (false = false) ∧ b1 = b1 ∧ (none : Option Nat) = none ∧ b1 = b1 ∧ (none : Option Nat) = none ∧ b1 = b1 ∧ (none : Option Nat) = none ∧ b1 = b1 ∧ (none : Option Nat) = none ∧ (PureRun Try.prog (xBin .eql 44 (vI n) (vI 0)) (.bool (num (vI n) == num (vI 0)))) ∧ ((num (vI n) == num (vI 0)) = true → ∃ zx : Int, (zx = bw1 t p (num (vI n))) ∧ Value.int .i64 3 = .int .i64 zx ∧ Slot.blk c (.cells #[.int .u8 p] 5 (0, 0)) = .blk c (.cells #[.int .u8 p] 5 (0, 0)) ∧ True) ∧ ((num (vI n) == num (vI 0)) = false → ∃ zx : Int, (zx = bw1 t p (num (vI n))) ∧ Value.int .i64 0 = .int .i64 zx ∧ Slot.blk c (.cells #[.int .u8 p] 5 (0, 0)) = .blk c (.cells #[.int .u8 p] 5 (0, 0)) ∧ True)))) := by kernel_rfl
set_option maxRecDepth 100000 in
theorem book_wrong1 (c : Nat) (t : Int) (n : Int) (p : Int) (r_n : R4 n) (wp : (Lit.int .u8 p).wf = true) : CallT Try.prog 69 #[.int .u8 t, vI n, .slice (some ⟨c, 0, none⟩) 1 1] [.blk c (.cells #[.int .u8 p] 5 (0, 0))] Int (fun zx => .int .i64 zx) (fun zx => [.blk c (.cells #[.int .u8 p] 5 (0, 0))]) (fun zx => (zx = bw1 t p (num (vI n)))) := by
  refine call_of (c := bodyOf Try.f69) (n := 26) (fn := Try.f69) Try.mixed Try.func69 (by kernel_rfl) (by kernel_rfl) (by kernel_rfl) 2000 _ [] [0] rfl rfl (Eq.mpr (book_wrong1_vc c t n p) ?_)
  have wp' := wf8' wp
  intro b1
  refine ⟨rfl, ?_⟩
  refine ⟨rfl, rfl, ?_⟩
  refine ⟨fun h1 => ?_, fun h1 => ?_⟩
  · refine ⟨⟨(), trivial, congrArg Value.bool h1⟩, ?_⟩
    intro _
    intro _
    refine ⟨rfl, rfl, rfl, ?_⟩
    refine ⟨rfl, ?_⟩
    have hs : bw1 t p n = 1 := by
      try simp (disch := first | assumption | exact R4_zero | exact R4_one) only [num_vI, decide_eq_true_eq, decide_eq_false_iff_not, gt_iff_lt, ge_iff_le, beq_iff_eq, beq_eq_false_iff_ne, bne_iff_ne, bne_eq_false_iff_eq, ne_eq] at *
      unfold bw1
      (repeat' split) <;> first | rfl | (exfalso; omega)
    exact ⟨_, by first | exact hs.symm | (rw [num_vI r_n]; exact hs.symm), rfl, rfl, trivial⟩
  · refine ⟨⟨(), trivial, congrArg Value.bool h1⟩, ?_⟩
    intro _
    intro _
    refine ⟨rfl, rfl, ⟨(), trivial, congrArg (Value.int .i64) (wrap_i64 _ (by omega) (by omega))⟩, ?_⟩
    intro _
    intro _
    refine ⟨rfl, ?_⟩
    refine ⟨fun h2 => ?_, fun h2 => ?_⟩
    · have hs : bw1 t p n = 1 := by
        try simp (disch := first | assumption | exact R4_zero | exact R4_one) only [num_vI, decide_eq_true_eq, decide_eq_false_iff_not, gt_iff_lt, ge_iff_le, beq_iff_eq, beq_eq_false_iff_ne, bne_iff_ne, bne_eq_false_iff_eq, ne_eq] at *
        unfold bw1
        (repeat' split) <;> first | rfl | (exfalso; omega)
      exact ⟨_, by first | exact hs.symm | (rw [num_vI r_n]; exact hs.symm), rfl, rfl, trivial⟩
    · refine ⟨rfl, ?_⟩
      refine ⟨rfl, rfl, rfl, rfl, rfl, rfl, rfl, rfl, Try.xeq44 n 0, ?_⟩
      refine ⟨fun h3 => ?_, fun h3 => ?_⟩
      · have hs : bw1 t p n = 3 := by
          try simp (disch := first | assumption | exact R4_zero | exact R4_one) only [num_vI, decide_eq_true_eq, decide_eq_false_iff_not, gt_iff_lt, ge_iff_le, beq_iff_eq, beq_eq_false_iff_ne, bne_iff_ne, bne_eq_false_iff_eq, ne_eq] at *
          unfold bw1
          (repeat' split) <;> first | rfl | (exfalso; omega)
        exact ⟨_, by first | exact hs.symm | (rw [num_vI r_n]; exact hs.symm), rfl, rfl, trivial⟩
      · have hs : bw1 t p n = 0 := by
          try simp (disch := first | assumption | exact R4_zero | exact R4_one) only [num_vI, decide_eq_true_eq, decide_eq_false_iff_not, gt_iff_lt, ge_iff_le, beq_iff_eq, beq_eq_false_iff_ne, bne_iff_ne, bne_eq_false_iff_eq, ne_eq] at *
          unfold bw1
          (repeat' split) <;> first | rfl | (exfalso; omega)
        exact ⟨_, by first | exact hs.symm | (rw [num_vI r_n]; exact hs.symm), rfl, rfl, trivial⟩

def book_wrong2_C : List Value → List Slot → Ctr := fun vs hs => ⟨Int, fun zx => .int .i64 zx, fun _ => hs, fun zx => zx = bw2 (ci (varg vs 1)) (ci (scell (sarg hs 0) 0)) (ci (scell (sarg hs 0) 1)) (num (varg vs 2))⟩
set_option maxRecDepth 100000 in
theorem book_wrong2_vc (c : Nat) (t : Int) (n : Int) (p : Int) (q : Int) : codeW Try.prog 26 none 2000 none (bodyOf Try.f69) (.reg [.sem [.nw 1], .sem []] (.reg [.sem [], .sem [], .sem []] (.reg [.sem []] (.condT (.reg [.sem [], .sem [.rd 0], .sem []] (.caseP (fun s => decide ((ci (s.fr 0)) ≥ (4 : Int))) (.reg [.sem [], .gen [] (one (.bool true)), .sem [], .no, .no, .no, .sem []] (.condT (.reg [.sem []] (.done)))) (.reg [.sem [], .gen [] (one (.bool false)), .sem [], .sem [], .gen [] (fun vs => one (.int .i64 (ci (varg vs 0))) vs), .sem [], .sem []] (.cond (.reg [.sem []] (.done)) (.reg [.sem [], .sem []] (.reg [.sem []] (.condT (.reg [.sem [], .sem [.rd 0], .sem []] (.reg [.sem [], .gen [] (one (.bool false)), .sem [], .sem [], .gen [] (fun vs => one (.int .i64 (ci (varg vs 0))) vs), .sem [], .sem []] (.cond (.reg [.sem []] (.done)) (.reg [.sem [], .sem []] (.reg [.sem []] (.condF (.reg [.sem [.rd 1, .rd 1, .rd 1, .rd 1], .sem [], .eq (f_eq)] (.cond (.reg [.sem []] (.done)) (.reg [.sem []] (.done)))))))))))))))))))))
    (init #[.int .u8 t, vI n, .slice (some ⟨c, 0, none⟩) 2 2] [.blk c (.cells #[.int .u8 p, .int .u8 q] 5 (0, 0))]) (finW Try.prog Try.f69 [] [0] (X := Int) (fun zx => .int .i64 zx) (fun zx => [.blk c (.cells #[.int .u8 p, .int .u8 q] 5 (0, 0))]) (fun zx => (zx = bw2 t p q (num (vI n))))) =
    (∀ b1 : Nat, (true = true) ∧ c = c ∧ (none : Option Nat) = none ∧ ((decide (t ≥ (4 : Int))) = true → (∃ _ : Unit, True ∧ Value.bool (decide (t ≥ (4 : Int))) = .bool true) ∧ ∀ _ : Unit, (True) → true = !false ∧ true = !false ∧ true = !false ∧ (true = true) ∧ ∃ zx : Int, (zx = bw2 t p q (num (vI n))) ∧ Value.int .i64 1 = .int .i64 zx ∧ Slot.blk c (.cells #[.int .u8 p, .int .u8 q] 5 (0, 0)) = .blk c (.cells #[.int .u8 p, .int .u8 q] 5 (0, 0)) ∧ True) ∧ ((decide (t ≥ (4 : Int))) = false → (∃ _ : Unit, True ∧ Value.bool (decide (t ≥ (4 : Int))) = .bool false) ∧ ∀ _ : Unit, (True) → false = false ∧ false = false ∧ (∃ _ : Unit, True ∧ Value.int .i64 (IntKind.i64.wrap p) = .int .i64 p) ∧ ∀ _ : Unit, (True) → false = false ∧ ((decide (p ≥ (18 : Int))) = true → ∃ zx : Int, (zx = bw2 t p q (num (vI n))) ∧ Value.int .i64 1 = .int .i64 zx ∧ Slot.blk c (.cells #[.int .u8 p, .int .u8 q] 5 (0, 0)) = .blk c (.cells #[.int .u8 p, .int .u8 q] 5 (0, 0)) ∧ True) ∧ ((decide (p ≥ (18 : Int))) = false → (true = true) ∧ c = c ∧ (none : Option Nat) = none ∧ (∃ _ : Unit, True ∧ Value.bool (decide (t ≥ (4 : Int))) = .bool false) ∧ ∀ _ : Unit, (True) → false = false ∧ false = false ∧ (∃ _ : Unit, True ∧ Value.int .i64 (IntKind.i64.wrap q) = .int .i64 q) ∧ ∀ _ : Unit, (True) → false = false ∧ ((decide (q ≥ (18 : Int))) = true → ∃ zx : Int, (zx = bw2 t p q (num (vI n))) ∧ Value.int .i64 1 = .int .i64 zx ∧ Slot.blk c (.cells #[.int .u8 p, .int .u8 q] 5 (0, 0)) = .blk c (.cells #[.int .u8 p, .int .u8 q] 5 (0, 0)) ∧ True) ∧ ((decide (q ≥ (18 : Int))) = false → (false = false) ∧ b1 = b1 ∧ (none : Option Nat) = none ∧ b1 = b1 ∧ (none : Option Nat) = none ∧ b1 = b1 ∧ (none : Option Nat) = none ∧ b1 = b1 ∧ (none : Option Nat) = none ∧ (PureRun Try.prog (xBin .eql 44 (vI n) (vI 0)) (.bool (num (vI n) == num (vI 0)))) ∧ ((num (vI n) == num (vI 0)) = true → ∃ zx : Int, (zx = bw2 t p q (num (vI n))) ∧ Value.int .i64 3 = .int .i64 zx ∧ Slot.blk c (.cells #[.int .u8 p, .int .u8 q] 5 (0, 0)) = .blk c (.cells #[.int .u8 p, .int .u8 q] 5 (0, 0)) ∧ True) ∧ ((num (vI n) == num (vI 0)) = false → ∃ zx : Int, (zx = bw2 t p q (num (vI n))) ∧ Value.int .i64 0 = .int .i64 zx ∧ Slot.blk c (.cells #[.int .u8 p, .int .u8 q] 5 (0, 0)) = .blk c (.cells #[.int .u8 p, .int .u8 q] 5 (0, 0)) ∧ True))))) := by kernel_rfl
set_option maxRecDepth 100000 in
theorem book_wrong2 (c : Nat) (t : Int) (n : Int) (p : Int) (q : Int) (r_n : R4 n) (wp : (Lit.int .u8 p).wf = true) (wq : (Lit.int .u8 q).wf = true) : CallT Try.prog 69 #[.int .u8 t, vI n, .slice (some ⟨c, 0, none⟩) 2 2] [.blk c (.cells #[.int .u8 p, .int .u8 q] 5 (0, 0))] Int (fun zx => .int .i64 zx) (fun zx => [.blk c (.cells #[.int .u8 p, .int .u8 q] 5 (0, 0))]) (fun zx => (zx = bw2 t p q (num (vI n)))) := by
  refine call_of (c := bodyOf Try.f69) (n := 26) (fn := Try.f69) Try.mixed Try.func69 (by kernel_rfl) (by kernel_rfl) (by kernel_rfl) 2000 _ [] [0] rfl rfl (Eq.mpr (book_wrong2_vc c t n p q) ?_)
  have wp' := wf8' wp
  have wq' := wf8' wq
  intro b1
  refine ⟨rfl, ?_⟩
  refine ⟨rfl, rfl, ?_⟩
  refine ⟨fun h1 => ?_, fun h1 => ?_⟩
  · refine ⟨⟨(), trivial, congrArg Value.bool h1⟩, ?_⟩
    intro _
    intro _
    refine ⟨rfl, rfl, rfl, ?_⟩
    refine ⟨rfl, ?_⟩
    have hs : bw2 t p q n = 1 := by
      try simp (disch := first | assumption | exact R4_zero | exact R4_one) only [num_vI, decide_eq_true_eq, decide_eq_false_iff_not, gt_iff_lt, ge_iff_le, beq_iff_eq, beq_eq_false_iff_ne, bne_iff_ne, bne_eq_false_iff_eq, ne_eq] at *
      unfold bw2
      (repeat' split) <;> first | rfl | (exfalso; omega)
    exact ⟨_, by first | exact hs.symm | (rw [num_vI r_n]; exact hs.symm), rfl, rfl, trivial⟩
  · refine ⟨⟨(), trivial, congrArg Value.bool h1⟩, ?_⟩
    intro _
    intro _
    refine ⟨rfl, rfl, ⟨(), trivial, congrArg (Value.int .i64) (wrap_i64 _ (by omega) (by omega))⟩, ?_⟩
    intro _
    intro _
    refine ⟨rfl, ?_⟩
    refine ⟨fun h2 => ?_, fun h2 => ?_⟩
    · have hs : bw2 t p q n = 1 := by
        try simp (disch := first | assumption | exact R4_zero | exact R4_one) only [num_vI, decide_eq_true_eq, decide_eq_false_iff_not, gt_iff_lt, ge_iff_le, beq_iff_eq, beq_eq_false_iff_ne, bne_iff_ne, bne_eq_false_iff_eq, ne_eq] at *
        unfold bw2
        (repeat' split) <;> first | rfl | (exfalso; omega)
      exact ⟨_, by first | exact hs.symm | (rw [num_vI r_n]; exact hs.symm), rfl, rfl, trivial⟩
    · refine ⟨rfl, ?_⟩
      refine ⟨rfl, rfl, ?_⟩
      refine ⟨⟨(), trivial, congrArg Value.bool h1⟩, ?_⟩
      intro _
      intro _
      refine ⟨rfl, rfl, ⟨(), trivial, congrArg (Value.int .i64) (wrap_i64 _ (by omega) (by omega))⟩, ?_⟩
      intro _
      intro _
      refine ⟨rfl, ?_⟩
      refine ⟨fun h3 => ?_, fun h3 => ?_⟩
      · have hs : bw2 t p q n = 1 := by
          try simp (disch := first | assumption | exact R4_zero | exact R4_one) only [num_vI, decide_eq_true_eq, decide_eq_false_iff_not, gt_iff_lt, ge_iff_le, beq_iff_eq, beq_eq_false_iff_ne, bne_iff_ne, bne_eq_false_iff_eq, ne_eq] at *
          unfold bw2
          (repeat' split) <;> first | rfl | (exfalso; omega)
        exact ⟨_, by first | exact hs.symm | (rw [num_vI r_n]; exact hs.symm), rfl, rfl, trivial⟩
      · refine ⟨rfl, ?_⟩
        refine ⟨rfl, rfl, rfl, rfl, rfl, rfl, rfl, rfl, Try.xeq44 n 0, ?_⟩
        refine ⟨fun h4 => ?_, fun h4 => ?_⟩
        · have hs : bw2 t p q n = 3 := by
            try simp (disch := first | assumption | exact R4_zero | exact R4_one) only [num_vI, decide_eq_true_eq, decide_eq_false_iff_not, gt_iff_lt, ge_iff_le, beq_iff_eq, beq_eq_false_iff_ne, bne_iff_ne, bne_eq_false_iff_eq, ne_eq] at *
            unfold bw2
            (repeat' split) <;> first | rfl | (exfalso; omega)
          exact ⟨_, by first | exact hs.symm | (rw [num_vI r_n]; exact hs.symm), rfl, rfl, trivial⟩
        · have hs : bw2 t p q n = 0 := by
            try simp (disch := first | assumption | exact R4_zero | exact R4_one) only [num_vI, decide_eq_true_eq, decide_eq_false_iff_not, gt_iff_lt, ge_iff_le, beq_iff_eq, beq_eq_false_iff_ne, bne_iff_ne, bne_eq_false_iff_eq, ne_eq] at *
            unfold bw2
            (repeat' split) <;> first | rfl | (exfalso; omega)
          exact ⟨_, by first | exact hs.symm | (rw [num_vI r_n]; exact hs.symm), rfl, rfl, trivial⟩

def book_Mint_C : List Value → List Slot → Ctr := fun vs hs => ⟨Int × BS, fun zx => .int .i64 zx.1, fun zx => [.blk (vblk (varg vs 1)) (.cells #[.pointer (some ⟨(vblk (scell (sarg hs 0) 0)), 0, none⟩), .pointer (some ⟨(vblk (scell (sarg hs 0) 1)), 0, none⟩)] 108 (0, 0)), (mS Try.mk143 (vblk (scell (sarg hs 0) 0)) (snum (sarg hs 1) 1) zx.2.1), (mS Try.mk148 (vblk (scell (sarg hs 0) 1)) (snum (sarg hs 1) 1) zx.2.2.1), (jS Try.jk (snum (sarg hs 1) 1) zx.2.2.2)], fun zx => zx = bMint (Try.ent143 (vblk (scell (sarg hs 0) 0))) (Try.ent148 (vblk (scell (sarg hs 0) 1))) (((skv (sarg hs 1)), (skv (sarg hs 2)), (sents (sarg hs 3))) : BS) (ci (varg vs 2)) (ci (varg vs 3)) (num (varg vs 4))⟩
set_option maxRecDepth 100000 in
set_option maxHeartbeats 1000000 in
theorem book_Mint_vc (b : Nat) (bm : Nat) (bs : Nat) (bj : Nat) (mb : KV) (ms : KV) (L : List Ent) (t : Int) (p : Int) (n : Int) : codeW Try.prog 55 none 2000 none (bodyOf Try.f21) (.reg [.sem [.nw 4], .sem []] (.reg [.sem [], .sem [.rd 4, .rd 4, .rd 4, .rd 4], .sem [], .sem [.nw 5], .callr [5] book_wrong1_C, .sem []] (.reg [.sem [], .sem []] (.cond (.reg [.sem [], .sem []] (.done)) (.reg [.sem [], .sem [], .callr [0, 2] book_Supply_C, .sem [.rd 4, .rd 4, .rd 4, .rd 4], .callr [] huge_Add_C, .sem [], .sem [], .sem [], .sem [.nw 6], .sem [.wr 6, .wr 6, .wr 6, .wr 6], .sem []] (.reg [.sem [], .sem []] (.cond (.reg [.sem [], .sem []] (.done)) (.reg [.sem [], .sem [], .sem [], .callr [0, 1] book_Balance_C, .sem [.rd 4, .rd 4, .rd 4, .rd 4], .callr [] huge_Add_C, .sem [], .sem [], .sem [], .sem [.nw 7], .sem [.wr 7, .wr 7, .wr 7, .wr 7], .sem []] (.reg [.sem [], .sem [], .sem [], .sem [.rd 0], .sem [], .sem [.rd 6, .rd 6, .rd 6, .rd 6], .callw [2, 3] [2, 3] stage_Set148_C] (.reg [.sem [], .sem [], .sem [], .sem [], .sem [.rd 7, .rd 7, .rd 7, .rd 7], .callw [0, 1, 2, 3] [0, 1, 2, 3] book_put_C] (.reg [.sem []] (.done))))))))))))
    (init #[.pointer (some ⟨b, 0, none⟩), .int .u8 t, .int .u8 p, vI n] [.blk b (.cells #[.pointer (some ⟨bm, 0, none⟩), .pointer (some ⟨bs, 0, none⟩)] 108 (0, 0)), (mS Try.mk143 bm bj mb), (mS Try.mk148 bs bj ms), (jS Try.jk bj L)]) (finW Try.prog Try.f21 [] [0, 1, 2, 3] (X := Int × BS) (fun zx => .int .i64 zx.1) (fun zx => [.blk b (.cells #[.pointer (some ⟨bm, 0, none⟩), .pointer (some ⟨bs, 0, none⟩)] 108 (0, 0)), (mS Try.mk143 bm bj zx.2.1), (mS Try.mk148 bs bj zx.2.2.1), (jS Try.jk bj zx.2.2.2)]) (fun zx => (zx = bMint (Try.ent143 bm) (Try.ent148 bs) ((mb, ms, L) : BS) t p (num (vI n))))) =
    (∀ b1 : Nat, b1 = b1 ∧ (none : Option Nat) = none ∧ b1 = b1 ∧ (none : Option Nat) = none ∧ b1 = b1 ∧ (none : Option Nat) = none ∧ b1 = b1 ∧ (none : Option Nat) = none ∧ ∀ b2 : Nat, (CallT Try.prog 69 #[.int .u8 t, vI n, .slice (some ⟨b2, 0, none⟩) 1 1] [.blk b2 (.cells #[.int .u8 p] 5 (0, 0))] Int (fun zx => .int .i64 zx) (fun _ => [.blk b2 (.cells #[.int .u8 p] 5 (0, 0))]) (fun zx => zx = bw1 t p (num (vI n)))) ∧ (∃ zx : Int, (fun zx => zx = bw1 t p (num (vI n))) zx) ∧ ∀ x3 : Int, (x3 = bw1 t p (num (vI n))) → ((x3 != (0 : Int)) = true → ∃ zx : Int × BS, (zx = bMint (Try.ent143 bm) (Try.ent148 bs) ((mb, ms, L) : BS) t p (num (vI n))) ∧ Value.int .i64 x3 = .int .i64 zx.1 ∧ Slot.blk b (.cells #[.pointer (some ⟨bm, 0, none⟩), .pointer (some ⟨bs, 0, none⟩)] 108 (0, 0)) = .blk b (.cells #[.pointer (some ⟨bm, 0, none⟩), .pointer (some ⟨bs, 0, none⟩)] 108 (0, 0)) ∧ (mS Try.mk143 bm bj mb) = (mS Try.mk143 bm bj zx.2.1) ∧ (mS Try.mk148 bs bj ms) = (mS Try.mk148 bs bj zx.2.2.1) ∧ (jS Try.jk bj L) = (jS Try.jk bj zx.2.2.2) ∧ True) ∧ ((x3 != (0 : Int)) = false → (CallT Try.prog 26 #[.pointer (some ⟨b, 0, none⟩), .int .u8 t] [.blk b (.cells #[.pointer (some ⟨bm, 0, none⟩), .pointer (some ⟨bs, 0, none⟩)] 108 (0, 0)), (mS Try.mk148 bs bj ms)] Int (fun zx => vI zx) (fun _ => [.blk b (.cells #[.pointer (some ⟨bm, 0, none⟩), .pointer (some ⟨bs, 0, none⟩)] 108 (0, 0)), (mS Try.mk148 bs bj ms)]) (fun zx => R4 zx ∧ zx = sup ms t)) ∧ (∃ zx : Int, (fun zx => R4 zx ∧ zx = sup ms t) zx) ∧ ∀ x4 : Int, (R4 x4 ∧ x4 = sup ms t) → b1 = b1 ∧ (none : Option Nat) = none ∧ b1 = b1 ∧ (none : Option Nat) = none ∧ b1 = b1 ∧ (none : Option Nat) = none ∧ b1 = b1 ∧ (none : Option Nat) = none ∧ (CallT Try.prog 47 #[vI x4, vI n] [] (Int × Int) (fun zx => .tuple #[vI zx.1, .int .i64 zx.2]) (fun _ => []) (fun zx => R4 zx.1 ∧ zx = hAdd (num (vI x4)) (num (vI n)))) ∧ (∃ zx : Int × Int, (fun zx => R4 zx.1 ∧ zx = hAdd (num (vI x4)) (num (vI n))) zx) ∧ ∀ x5 : Int × Int, (R4 x5.1 ∧ x5 = hAdd (num (vI x4)) (num (vI n))) → ∀ b6 : Nat, b6 = b6 ∧ (none : Option Nat) = none ∧ b6 = b6 ∧ (none : Option Nat) = none ∧ b6 = b6 ∧ (none : Option Nat) = none ∧ b6 = b6 ∧ (none : Option Nat) = none ∧ ((x5.2 != (0 : Int)) = true → ∃ zx : Int × BS, (zx = bMint (Try.ent143 bm) (Try.ent148 bs) ((mb, ms, L) : BS) t p (num (vI n))) ∧ Value.int .i64 x5.2 = .int .i64 zx.1 ∧ Slot.blk b (.cells #[.pointer (some ⟨bm, 0, none⟩), .pointer (some ⟨bs, 0, none⟩)] 108 (0, 0)) = .blk b (.cells #[.pointer (some ⟨bm, 0, none⟩), .pointer (some ⟨bs, 0, none⟩)] 108 (0, 0)) ∧ (mS Try.mk143 bm bj mb) = (mS Try.mk143 bm bj zx.2.1) ∧ (mS Try.mk148 bs bj ms) = (mS Try.mk148 bs bj zx.2.2.1) ∧ (jS Try.jk bj L) = (jS Try.jk bj zx.2.2.2) ∧ True) ∧ ((x5.2 != (0 : Int)) = false → (CallT Try.prog 25 #[.pointer (some ⟨b, 0, none⟩), .int .u8 t, .int .u8 p] [.blk b (.cells #[.pointer (some ⟨bm, 0, none⟩), .pointer (some ⟨bs, 0, none⟩)] 108 (0, 0)), (mS Try.mk143 bm bj mb)] Int (fun zx => vI zx) (fun _ => [.blk b (.cells #[.pointer (some ⟨bm, 0, none⟩), .pointer (some ⟨bs, 0, none⟩)] 108 (0, 0)), (mS Try.mk143 bm bj mb)]) (fun zx => R4 zx ∧ zx = bal mb t p)) ∧ (∃ zx : Int, (fun zx => R4 zx ∧ zx = bal mb t p) zx) ∧ ∀ x7 : Int, (R4 x7 ∧ x7 = bal mb t p) → b1 = b1 ∧ (none : Option Nat) = none ∧ b1 = b1 ∧ (none : Option Nat) = none ∧ b1 = b1 ∧ (none : Option Nat) = none ∧ b1 = b1 ∧ (none : Option Nat) = none ∧ (CallT Try.prog 47 #[vI x7, vI n] [] (Int × Int) (fun zx => .tuple #[vI zx.1, .int .i64 zx.2]) (fun _ => []) (fun zx => R4 zx.1 ∧ zx = hAdd (num (vI x7)) (num (vI n)))) ∧ (∃ zx : Int × Int, (fun zx => R4 zx.1 ∧ zx = hAdd (num (vI x7)) (num (vI n))) zx) ∧ ∀ x8 : Int × Int, (R4 x8.1 ∧ x8 = hAdd (num (vI x7)) (num (vI n))) → ∀ b9 : Nat, b9 = b9 ∧ (none : Option Nat) = none ∧ b9 = b9 ∧ (none : Option Nat) = none ∧ b9 = b9 ∧ (none : Option Nat) = none ∧ b9 = b9 ∧ (none : Option Nat) = none ∧ b = b ∧ (none : Option Nat) = none ∧ b6 = b6 ∧ (none : Option Nat) = none ∧ b6 = b6 ∧ (none : Option Nat) = none ∧ b6 = b6 ∧ (none : Option Nat) = none ∧ b6 = b6 ∧ (none : Option Nat) = none ∧ (CallT Try.prog 70 #[.pointer (some ⟨bs, 0, none⟩), .int .u8 t, vI x5.1] [(mS Try.mk148 bs bj ms), (jS Try.jk bj L)] (KV × List Ent) (fun zx => .tuple #[]) (fun zx => [(mS Try.mk148 bs bj zx.1), (jS Try.jk bj zx.2)]) (fun zx => zx.1 = mset ms (Value.int .u8 t) (vI x5.1) ∧ zx.2 = L ++ [(Try.ent148 bs ms (Value.int .u8 t))])) ∧ (∃ zx : KV × List Ent, (fun zx => zx.1 = mset ms (Value.int .u8 t) (vI x5.1) ∧ zx.2 = L ++ [(Try.ent148 bs ms (Value.int .u8 t))]) zx) ∧ ∀ x10 : KV × List Ent, (x10.1 = mset ms (Value.int .u8 t) (vI x5.1) ∧ x10.2 = L ++ [(Try.ent148 bs ms (Value.int .u8 t))]) → b9 = b9 ∧ (none : Option Nat) = none ∧ b9 = b9 ∧ (none : Option Nat) = none ∧ b9 = b9 ∧ (none : Option Nat) = none ∧ b9 = b9 ∧ (none : Option Nat) = none ∧ (CallT Try.prog 71 #[.pointer (some ⟨b, 0, none⟩), .agg #[.int .u8 t, .int .u8 p], vI x8.1] [.blk b (.cells #[.pointer (some ⟨bm, 0, none⟩), .pointer (some ⟨bs, 0, none⟩)] 108 (0, 0)), (mS Try.mk143 bm bj mb), (mS Try.mk148 bs bj x10.1), (jS Try.jk bj x10.2)] BS (fun zx => .tuple #[]) (fun zx => [.blk b (.cells #[.pointer (some ⟨bm, 0, none⟩), .pointer (some ⟨bs, 0, none⟩)] 108 (0, 0)), (mS Try.mk143 bm bj zx.1), (mS Try.mk148 bs bj zx.2.1), (jS Try.jk bj zx.2.2)]) (fun zx => zx = bPut (Try.ent143 bm) ((mb, x10.1, x10.2) : BS) (Value.agg #[.int .u8 t, .int .u8 p]) (num (vI x8.1)))) ∧ (∃ zx : BS, (fun zx => zx = bPut (Try.ent143 bm) ((mb, x10.1, x10.2) : BS) (Value.agg #[.int .u8 t, .int .u8 p]) (num (vI x8.1))) zx) ∧ ∀ x11 : BS, (x11 = bPut (Try.ent143 bm) ((mb, x10.1, x10.2) : BS) (Value.agg #[.int .u8 t, .int .u8 p]) (num (vI x8.1))) → ∃ zx : Int × BS, (zx = bMint (Try.ent143 bm) (Try.ent148 bs) ((mb, ms, L) : BS) t p (num (vI n))) ∧ Value.int .i64 0 = .int .i64 zx.1 ∧ Slot.blk b (.cells #[.pointer (some ⟨bm, 0, none⟩), .pointer (some ⟨bs, 0, none⟩)] 108 (0, 0)) = .blk b (.cells #[.pointer (some ⟨bm, 0, none⟩), .pointer (some ⟨bs, 0, none⟩)] 108 (0, 0)) ∧ (mS Try.mk143 bm bj x11.1) = (mS Try.mk143 bm bj zx.2.1) ∧ (mS Try.mk148 bs bj x11.2.1) = (mS Try.mk148 bs bj zx.2.2.1) ∧ (jS Try.jk bj x11.2.2) = (jS Try.jk bj zx.2.2.2) ∧ True))) := by kernel_rfl
set_option maxRecDepth 100000 in
set_option maxHeartbeats 1000000 in
theorem book_Mint (b : Nat) (bm : Nat) (bs : Nat) (bj : Nat) (mb : KV) (ms : KV) (L : List Ent) (t : Int) (p : Int) (n : Int) (r_n : R4 n) (wp : (Lit.int .u8 p).wf = true) (hb : KOK Try.mk143 mb) (hs : KOK Try.mk148 ms) (hl : L.length ≤ 1000000) : CallT Try.prog 21 #[.pointer (some ⟨b, 0, none⟩), .int .u8 t, .int .u8 p, vI n] [.blk b (.cells #[.pointer (some ⟨bm, 0, none⟩), .pointer (some ⟨bs, 0, none⟩)] 108 (0, 0)), (mS Try.mk143 bm bj mb), (mS Try.mk148 bs bj ms), (jS Try.jk bj L)] (Int × BS) (fun zx => .int .i64 zx.1) (fun zx => [.blk b (.cells #[.pointer (some ⟨bm, 0, none⟩), .pointer (some ⟨bs, 0, none⟩)] 108 (0, 0)), (mS Try.mk143 bm bj zx.2.1), (mS Try.mk148 bs bj zx.2.2.1), (jS Try.jk bj zx.2.2.2)]) (fun zx => (zx = bMint (Try.ent143 bm) (Try.ent148 bs) ((mb, ms, L) : BS) t p (num (vI n)))) := by
  refine call_of (c := bodyOf Try.f21) (n := 55) (fn := Try.f21) Try.mixed Try.func21 (by kernel_rfl) (by kernel_rfl) (by kernel_rfl) 2000 _ [] [0, 1, 2, 3] rfl rfl (Eq.mpr (book_Mint_vc b bm bs bj mb ms L t p n) ?_)
  intro b1
  refine ⟨rfl, rfl, rfl, rfl, rfl, rfl, rfl, rfl, ?_⟩
  intro b2
  refine ⟨book_wrong1 b2 t n p (by assumption) (by first | assumption | decide), ⟨_, rfl⟩, ?_⟩
  intro x3
  intro h1
  try simp only [num_vI (n := n) (by assumption)] at h1
  have hw := h1
  refine ⟨fun h2 => ?_, fun h2 => ?_⟩
  · exact ⟨(x3, mb, ms, L), by rw [num_vI r_n]; exact (bMint_w hw (bne_iff_ne.1 h2)).symm, rfl, rfl, rfl, rfl, rfl, trivial⟩
  · have hw0 := h2
    have w0' := bne_eq_false_iff_eq.1 hw0
    rw [w0'] at hw
    refine ⟨book_Supply b bm bs bj ms t (by assumption), ⟨_, KOK.R4v Try.numk148 (by assumption) _, rfl⟩, ?_⟩
    intro x4
    intro h3
    obtain ⟨rh3_, h3⟩ := h3
    have hsu := h3
    refine ⟨rfl, rfl, rfl, rfl, rfl, rfl, rfl, rfl, huge_Add x4 n (by assumption) (by assumption), ⟨hAdd (num (vI x4)) (num (vI n)), hAdd_R (R4_num _) (R4_num _), rfl⟩, ?_⟩
    intro x5
    intro h4
    obtain ⟨rh4_1, h4⟩ := h4
    try simp only [num_vI (n := x4) (by assumption), num_vI (n := n) (by assumption)] at h4
    have ha := h4
    intro b6
    refine ⟨rfl, rfl, rfl, rfl, rfl, rfl, rfl, rfl, ?_⟩
    refine ⟨fun h5 => ?_, fun h5 => ?_⟩
    · have q := add_ov ha h5
      exact ⟨(2, mb, ms, L), by rw [num_vI r_n]; exact (bMint_ov hw (by rw [hsu] at q; exact q.2)).symm, by rw [q.1], rfl, rfl, rfl, rfl, trivial⟩
    · refine ⟨book_Balance b bm bs bj mb t p (by assumption), ⟨_, KOK.R4v Try.numk143 (by assumption) _, rfl⟩, ?_⟩
      intro x7
      intro h6
      obtain ⟨rh6_, h6⟩ := h6
      have hba := h6
      refine ⟨rfl, rfl, rfl, rfl, rfl, rfl, rfl, rfl, huge_Add x7 n (by assumption) (by assumption), ⟨hAdd (num (vI x7)) (num (vI n)), hAdd_R (R4_num _) (R4_num _), rfl⟩, ?_⟩
      intro x8
      intro h7
      obtain ⟨rh7_1, h7⟩ := h7
      try simp only [num_vI (n := x7) (by assumption), num_vI (n := n) (by assumption)] at h7
      have hnow := h7
      intro b9
      refine ⟨rfl, rfl, rfl, rfl, rfl, rfl, rfl, rfl, ?_⟩
      refine ⟨rfl, rfl, rfl, rfl, rfl, rfl, rfl, rfl, rfl, rfl, stage_Set148 bs bj ms L t x5.1 (by assumption) (by omega), ⟨(_, _), rfl, rfl⟩, ?_⟩
      intro x10
      intro h8
      try simp only [num_vI (n := x5.1) (by assumption)] at h8
      have hse := h8
      have l1 : List.length x10.2 = L.length + 1 := by rw [hse.2]; simp
      refine ⟨rfl, rfl, rfl, rfl, rfl, rfl, rfl, rfl, book_put b bm bs bj mb x10.1 x10.2 t p x8.1 (by assumption) (by omega), ⟨_, rfl⟩, ?_⟩
      intro x11
      intro h9
      try simp only [num_vI (n := x8.1) (by assumption)] at h9
      have hput := h9
      have q := add_ok ha h5
      rw [hsu] at q
      exact ⟨(0, x11), by rw [num_vI r_n]; exact (bMint_ok hw (by have := q.2; simp only; omega) q.1 hse.1 hse.2 (by rw [hnow, hba]) hput).symm, rfl, rfl, rfl, congrArg (mS Try.mk148 bs bj) (by rw [hput]; try rfl), rfl, trivial⟩

def book_Burn_C : List Value → List Slot → Ctr := fun vs hs => ⟨Int × BS, fun zx => .int .i64 zx.1, fun zx => [.blk (vblk (varg vs 1)) (.cells #[.pointer (some ⟨(vblk (scell (sarg hs 0) 0)), 0, none⟩), .pointer (some ⟨(vblk (scell (sarg hs 0) 1)), 0, none⟩)] 108 (0, 0)), (mS Try.mk143 (vblk (scell (sarg hs 0) 0)) (snum (sarg hs 1) 1) zx.2.1), (mS Try.mk148 (vblk (scell (sarg hs 0) 1)) (snum (sarg hs 1) 1) zx.2.2.1), (jS Try.jk (snum (sarg hs 1) 1) zx.2.2.2)], fun zx => zx = bBurn (Try.ent143 (vblk (scell (sarg hs 0) 0))) (Try.ent148 (vblk (scell (sarg hs 0) 1))) (((skv (sarg hs 1)), (skv (sarg hs 2)), (sents (sarg hs 3))) : BS) (ci (varg vs 2)) (ci (varg vs 3)) (num (varg vs 4))⟩
set_option maxRecDepth 100000 in
set_option maxHeartbeats 1000000 in
theorem book_Burn_vc (b : Nat) (bm : Nat) (bs : Nat) (bj : Nat) (mb : KV) (ms : KV) (L : List Ent) (t : Int) (p : Int) (n : Int) : codeW Try.prog 54 none 2000 none (bodyOf Try.f23) (.reg [.sem [.nw 4], .sem []] (.reg [.sem [], .sem [.rd 4, .rd 4, .rd 4, .rd 4], .sem [], .sem [.nw 5], .callr [5] book_wrong1_C, .sem []] (.reg [.sem [], .sem []] (.cond (.reg [.sem [], .sem []] (.done)) (.reg [.sem [], .sem [], .sem [], .callr [0, 1] book_Balance_C, .sem [.rd 4, .rd 4, .rd 4, .rd 4], .callr [] huge_Sub_C, .sem [], .sem [], .sem [], .sem [.nw 6], .sem [.wr 6, .wr 6, .wr 6, .wr 6], .sem []] (.reg [.sem [], .sem []] (.cond (.reg [.sem []] (.done)) (.reg [.sem [], .sem [], .callr [0, 2] book_Supply_C, .sem [.rd 4, .rd 4, .rd 4, .rd 4], .callr [] huge_Sub_C, .sem [], .sem [], .sem [], .sem [.nw 7], .sem [.wr 7, .wr 7, .wr 7, .wr 7], .sem []] (.reg [.sem [], .sem [], .sem [], .sem [.rd 0], .sem [], .sem [.rd 7, .rd 7, .rd 7, .rd 7], .callw [2, 3] [2, 3] stage_Set148_C] (.reg [.sem [], .sem [], .sem [], .sem [], .sem [.rd 6, .rd 6, .rd 6, .rd 6], .callw [0, 1, 2, 3] [0, 1, 2, 3] book_put_C] (.reg [.sem []] (.done))))))))))))
    (init #[.pointer (some ⟨b, 0, none⟩), .int .u8 t, .int .u8 p, vI n] [.blk b (.cells #[.pointer (some ⟨bm, 0, none⟩), .pointer (some ⟨bs, 0, none⟩)] 108 (0, 0)), (mS Try.mk143 bm bj mb), (mS Try.mk148 bs bj ms), (jS Try.jk bj L)]) (finW Try.prog Try.f23 [] [0, 1, 2, 3] (X := Int × BS) (fun zx => .int .i64 zx.1) (fun zx => [.blk b (.cells #[.pointer (some ⟨bm, 0, none⟩), .pointer (some ⟨bs, 0, none⟩)] 108 (0, 0)), (mS Try.mk143 bm bj zx.2.1), (mS Try.mk148 bs bj zx.2.2.1), (jS Try.jk bj zx.2.2.2)]) (fun zx => (zx = bBurn (Try.ent143 bm) (Try.ent148 bs) ((mb, ms, L) : BS) t p (num (vI n))))) =
    (∀ b1 : Nat, b1 = b1 ∧ (none : Option Nat) = none ∧ b1 = b1 ∧ (none : Option Nat) = none ∧ b1 = b1 ∧ (none : Option Nat) = none ∧ b1 = b1 ∧ (none : Option Nat) = none ∧ ∀ b2 : Nat, (CallT Try.prog 69 #[.int .u8 t, vI n, .slice (some ⟨b2, 0, none⟩) 1 1] [.blk b2 (.cells #[.int .u8 p] 5 (0, 0))] Int (fun zx => .int .i64 zx) (fun _ => [.blk b2 (.cells #[.int .u8 p] 5 (0, 0))]) (fun zx => zx = bw1 t p (num (vI n)))) ∧ (∃ zx : Int, (fun zx => zx = bw1 t p (num (vI n))) zx) ∧ ∀ x3 : Int, (x3 = bw1 t p (num (vI n))) → ((x3 != (0 : Int)) = true → ∃ zx : Int × BS, (zx = bBurn (Try.ent143 bm) (Try.ent148 bs) ((mb, ms, L) : BS) t p (num (vI n))) ∧ Value.int .i64 x3 = .int .i64 zx.1 ∧ Slot.blk b (.cells #[.pointer (some ⟨bm, 0, none⟩), .pointer (some ⟨bs, 0, none⟩)] 108 (0, 0)) = .blk b (.cells #[.pointer (some ⟨bm, 0, none⟩), .pointer (some ⟨bs, 0, none⟩)] 108 (0, 0)) ∧ (mS Try.mk143 bm bj mb) = (mS Try.mk143 bm bj zx.2.1) ∧ (mS Try.mk148 bs bj ms) = (mS Try.mk148 bs bj zx.2.2.1) ∧ (jS Try.jk bj L) = (jS Try.jk bj zx.2.2.2) ∧ True) ∧ ((x3 != (0 : Int)) = false → (CallT Try.prog 25 #[.pointer (some ⟨b, 0, none⟩), .int .u8 t, .int .u8 p] [.blk b (.cells #[.pointer (some ⟨bm, 0, none⟩), .pointer (some ⟨bs, 0, none⟩)] 108 (0, 0)), (mS Try.mk143 bm bj mb)] Int (fun zx => vI zx) (fun _ => [.blk b (.cells #[.pointer (some ⟨bm, 0, none⟩), .pointer (some ⟨bs, 0, none⟩)] 108 (0, 0)), (mS Try.mk143 bm bj mb)]) (fun zx => R4 zx ∧ zx = bal mb t p)) ∧ (∃ zx : Int, (fun zx => R4 zx ∧ zx = bal mb t p) zx) ∧ ∀ x4 : Int, (R4 x4 ∧ x4 = bal mb t p) → b1 = b1 ∧ (none : Option Nat) = none ∧ b1 = b1 ∧ (none : Option Nat) = none ∧ b1 = b1 ∧ (none : Option Nat) = none ∧ b1 = b1 ∧ (none : Option Nat) = none ∧ (CallT Try.prog 54 #[vI x4, vI n] [] (Int × Int) (fun zx => .tuple #[vI zx.1, .int .i64 zx.2]) (fun _ => []) (fun zx => R4 zx.1 ∧ zx = hSub (num (vI x4)) (num (vI n)))) ∧ (∃ zx : Int × Int, (fun zx => R4 zx.1 ∧ zx = hSub (num (vI x4)) (num (vI n))) zx) ∧ ∀ x5 : Int × Int, (R4 x5.1 ∧ x5 = hSub (num (vI x4)) (num (vI n))) → ∀ b6 : Nat, b6 = b6 ∧ (none : Option Nat) = none ∧ b6 = b6 ∧ (none : Option Nat) = none ∧ b6 = b6 ∧ (none : Option Nat) = none ∧ b6 = b6 ∧ (none : Option Nat) = none ∧ ((x5.2 != (0 : Int)) = true → ∃ zx : Int × BS, (zx = bBurn (Try.ent143 bm) (Try.ent148 bs) ((mb, ms, L) : BS) t p (num (vI n))) ∧ Value.int .i64 8 = .int .i64 zx.1 ∧ Slot.blk b (.cells #[.pointer (some ⟨bm, 0, none⟩), .pointer (some ⟨bs, 0, none⟩)] 108 (0, 0)) = .blk b (.cells #[.pointer (some ⟨bm, 0, none⟩), .pointer (some ⟨bs, 0, none⟩)] 108 (0, 0)) ∧ (mS Try.mk143 bm bj mb) = (mS Try.mk143 bm bj zx.2.1) ∧ (mS Try.mk148 bs bj ms) = (mS Try.mk148 bs bj zx.2.2.1) ∧ (jS Try.jk bj L) = (jS Try.jk bj zx.2.2.2) ∧ True) ∧ ((x5.2 != (0 : Int)) = false → (CallT Try.prog 26 #[.pointer (some ⟨b, 0, none⟩), .int .u8 t] [.blk b (.cells #[.pointer (some ⟨bm, 0, none⟩), .pointer (some ⟨bs, 0, none⟩)] 108 (0, 0)), (mS Try.mk148 bs bj ms)] Int (fun zx => vI zx) (fun _ => [.blk b (.cells #[.pointer (some ⟨bm, 0, none⟩), .pointer (some ⟨bs, 0, none⟩)] 108 (0, 0)), (mS Try.mk148 bs bj ms)]) (fun zx => R4 zx ∧ zx = sup ms t)) ∧ (∃ zx : Int, (fun zx => R4 zx ∧ zx = sup ms t) zx) ∧ ∀ x7 : Int, (R4 x7 ∧ x7 = sup ms t) → b1 = b1 ∧ (none : Option Nat) = none ∧ b1 = b1 ∧ (none : Option Nat) = none ∧ b1 = b1 ∧ (none : Option Nat) = none ∧ b1 = b1 ∧ (none : Option Nat) = none ∧ (CallT Try.prog 54 #[vI x7, vI n] [] (Int × Int) (fun zx => .tuple #[vI zx.1, .int .i64 zx.2]) (fun _ => []) (fun zx => R4 zx.1 ∧ zx = hSub (num (vI x7)) (num (vI n)))) ∧ (∃ zx : Int × Int, (fun zx => R4 zx.1 ∧ zx = hSub (num (vI x7)) (num (vI n))) zx) ∧ ∀ x8 : Int × Int, (R4 x8.1 ∧ x8 = hSub (num (vI x7)) (num (vI n))) → ∀ b9 : Nat, b9 = b9 ∧ (none : Option Nat) = none ∧ b9 = b9 ∧ (none : Option Nat) = none ∧ b9 = b9 ∧ (none : Option Nat) = none ∧ b9 = b9 ∧ (none : Option Nat) = none ∧ b = b ∧ (none : Option Nat) = none ∧ b9 = b9 ∧ (none : Option Nat) = none ∧ b9 = b9 ∧ (none : Option Nat) = none ∧ b9 = b9 ∧ (none : Option Nat) = none ∧ b9 = b9 ∧ (none : Option Nat) = none ∧ (CallT Try.prog 70 #[.pointer (some ⟨bs, 0, none⟩), .int .u8 t, vI x8.1] [(mS Try.mk148 bs bj ms), (jS Try.jk bj L)] (KV × List Ent) (fun zx => .tuple #[]) (fun zx => [(mS Try.mk148 bs bj zx.1), (jS Try.jk bj zx.2)]) (fun zx => zx.1 = mset ms (Value.int .u8 t) (vI x8.1) ∧ zx.2 = L ++ [(Try.ent148 bs ms (Value.int .u8 t))])) ∧ (∃ zx : KV × List Ent, (fun zx => zx.1 = mset ms (Value.int .u8 t) (vI x8.1) ∧ zx.2 = L ++ [(Try.ent148 bs ms (Value.int .u8 t))]) zx) ∧ ∀ x10 : KV × List Ent, (x10.1 = mset ms (Value.int .u8 t) (vI x8.1) ∧ x10.2 = L ++ [(Try.ent148 bs ms (Value.int .u8 t))]) → b6 = b6 ∧ (none : Option Nat) = none ∧ b6 = b6 ∧ (none : Option Nat) = none ∧ b6 = b6 ∧ (none : Option Nat) = none ∧ b6 = b6 ∧ (none : Option Nat) = none ∧ (CallT Try.prog 71 #[.pointer (some ⟨b, 0, none⟩), .agg #[.int .u8 t, .int .u8 p], vI x5.1] [.blk b (.cells #[.pointer (some ⟨bm, 0, none⟩), .pointer (some ⟨bs, 0, none⟩)] 108 (0, 0)), (mS Try.mk143 bm bj mb), (mS Try.mk148 bs bj x10.1), (jS Try.jk bj x10.2)] BS (fun zx => .tuple #[]) (fun zx => [.blk b (.cells #[.pointer (some ⟨bm, 0, none⟩), .pointer (some ⟨bs, 0, none⟩)] 108 (0, 0)), (mS Try.mk143 bm bj zx.1), (mS Try.mk148 bs bj zx.2.1), (jS Try.jk bj zx.2.2)]) (fun zx => zx = bPut (Try.ent143 bm) ((mb, x10.1, x10.2) : BS) (Value.agg #[.int .u8 t, .int .u8 p]) (num (vI x5.1)))) ∧ (∃ zx : BS, (fun zx => zx = bPut (Try.ent143 bm) ((mb, x10.1, x10.2) : BS) (Value.agg #[.int .u8 t, .int .u8 p]) (num (vI x5.1))) zx) ∧ ∀ x11 : BS, (x11 = bPut (Try.ent143 bm) ((mb, x10.1, x10.2) : BS) (Value.agg #[.int .u8 t, .int .u8 p]) (num (vI x5.1))) → ∃ zx : Int × BS, (zx = bBurn (Try.ent143 bm) (Try.ent148 bs) ((mb, ms, L) : BS) t p (num (vI n))) ∧ Value.int .i64 0 = .int .i64 zx.1 ∧ Slot.blk b (.cells #[.pointer (some ⟨bm, 0, none⟩), .pointer (some ⟨bs, 0, none⟩)] 108 (0, 0)) = .blk b (.cells #[.pointer (some ⟨bm, 0, none⟩), .pointer (some ⟨bs, 0, none⟩)] 108 (0, 0)) ∧ (mS Try.mk143 bm bj x11.1) = (mS Try.mk143 bm bj zx.2.1) ∧ (mS Try.mk148 bs bj x11.2.1) = (mS Try.mk148 bs bj zx.2.2.1) ∧ (jS Try.jk bj x11.2.2) = (jS Try.jk bj zx.2.2.2) ∧ True))) := by kernel_rfl
set_option maxRecDepth 100000 in
set_option maxHeartbeats 1000000 in
theorem book_Burn (b : Nat) (bm : Nat) (bs : Nat) (bj : Nat) (mb : KV) (ms : KV) (L : List Ent) (t : Int) (p : Int) (n : Int) (r_n : R4 n) (wp : (Lit.int .u8 p).wf = true) (hb : KOK Try.mk143 mb) (hs : KOK Try.mk148 ms) (hl : L.length ≤ 1000000) : CallT Try.prog 23 #[.pointer (some ⟨b, 0, none⟩), .int .u8 t, .int .u8 p, vI n] [.blk b (.cells #[.pointer (some ⟨bm, 0, none⟩), .pointer (some ⟨bs, 0, none⟩)] 108 (0, 0)), (mS Try.mk143 bm bj mb), (mS Try.mk148 bs bj ms), (jS Try.jk bj L)] (Int × BS) (fun zx => .int .i64 zx.1) (fun zx => [.blk b (.cells #[.pointer (some ⟨bm, 0, none⟩), .pointer (some ⟨bs, 0, none⟩)] 108 (0, 0)), (mS Try.mk143 bm bj zx.2.1), (mS Try.mk148 bs bj zx.2.2.1), (jS Try.jk bj zx.2.2.2)]) (fun zx => (zx = bBurn (Try.ent143 bm) (Try.ent148 bs) ((mb, ms, L) : BS) t p (num (vI n)))) := by
  refine call_of (c := bodyOf Try.f23) (n := 54) (fn := Try.f23) Try.mixed Try.func23 (by kernel_rfl) (by kernel_rfl) (by kernel_rfl) 2000 _ [] [0, 1, 2, 3] rfl rfl (Eq.mpr (book_Burn_vc b bm bs bj mb ms L t p n) ?_)
  intro b1
  refine ⟨rfl, rfl, rfl, rfl, rfl, rfl, rfl, rfl, ?_⟩
  intro b2
  refine ⟨book_wrong1 b2 t n p (by assumption) (by first | assumption | decide), ⟨_, rfl⟩, ?_⟩
  intro x3
  intro h1
  try simp only [num_vI (n := n) (by assumption)] at h1
  have hw := h1
  refine ⟨fun h2 => ?_, fun h2 => ?_⟩
  · exact ⟨(x3, mb, ms, L), by rw [num_vI r_n]; exact (bBurn_w hw (bne_iff_ne.1 h2)).symm, rfl, rfl, rfl, rfl, rfl, trivial⟩
  · have hw0 := h2
    have w0' := bne_eq_false_iff_eq.1 hw0
    rw [w0'] at hw
    refine ⟨book_Balance b bm bs bj mb t p (by assumption), ⟨_, KOK.R4v Try.numk143 (by assumption) _, rfl⟩, ?_⟩
    intro x4
    intro h3
    obtain ⟨rh3_, h3⟩ := h3
    have hba := h3
    refine ⟨rfl, rfl, rfl, rfl, rfl, rfl, rfl, rfl, huge_Sub x4 n (by assumption) (by assumption), ⟨hSub (num (vI x4)) (num (vI n)), hSub_R (R4_num _) (R4_num _), rfl⟩, ?_⟩
    intro x5
    intro h4
    obtain ⟨rh4_1, h4⟩ := h4
    try simp only [num_vI (n := x4) (by assumption), num_vI (n := n) (by assumption)] at h4
    have ha := h4
    intro b6
    refine ⟨rfl, rfl, rfl, rfl, rfl, rfl, rfl, rfl, ?_⟩
    refine ⟨fun h5 => ?_, fun h5 => ?_⟩
    · have q := sub_no ha h5
      rw [hba] at q
      exact ⟨(8, mb, ms, L), by rw [num_vI r_n]; exact (bBurn_no hw q.2).symm, rfl, rfl, rfl, rfl, rfl, trivial⟩
    · refine ⟨book_Supply b bm bs bj ms t (by assumption), ⟨_, KOK.R4v Try.numk148 (by assumption) _, rfl⟩, ?_⟩
      intro x7
      intro h6
      obtain ⟨rh6_, h6⟩ := h6
      have hsu := h6
      refine ⟨rfl, rfl, rfl, rfl, rfl, rfl, rfl, rfl, huge_Sub x7 n (by assumption) (by assumption), ⟨hSub (num (vI x7)) (num (vI n)), hSub_R (R4_num _) (R4_num _), rfl⟩, ?_⟩
      intro x8
      intro h7
      obtain ⟨rh7_1, h7⟩ := h7
      try simp only [num_vI (n := x7) (by assumption), num_vI (n := n) (by assumption)] at h7
      have hnow := h7
      intro b9
      refine ⟨rfl, rfl, rfl, rfl, rfl, rfl, rfl, rfl, ?_⟩
      refine ⟨rfl, rfl, rfl, rfl, rfl, rfl, rfl, rfl, rfl, rfl, stage_Set148 bs bj ms L t x8.1 (by assumption) (by omega), ⟨(_, _), rfl, rfl⟩, ?_⟩
      intro x10
      intro h8
      try simp only [num_vI (n := x8.1) (by assumption)] at h8
      have hse := h8
      have l1 : List.length x10.2 = L.length + 1 := by rw [hse.2]; simp
      refine ⟨rfl, rfl, rfl, rfl, rfl, rfl, rfl, rfl, book_put b bm bs bj mb x10.1 x10.2 t p x5.1 (by assumption) (by omega), ⟨_, rfl⟩, ?_⟩
      intro x11
      intro h9
      try simp only [num_vI (n := x5.1) (by assumption)] at h9
      have hput := h9
      have q := sub_ok ha h5
      rw [hba] at q
      exact ⟨(0, x11), by rw [num_vI r_n]; exact (bBurn_ok hw (by have := q.2; simp only; omega) (by rw [hnow, hsu]) hse.1 hse.2 q.1 hput).symm, rfl, rfl, rfl, congrArg (mS Try.mk148 bs bj) (by rw [hput]; try rfl), rfl, trivial⟩

def book_Move_C : List Value → List Slot → Ctr := fun vs hs => ⟨Int × BS, fun zx => .int .i64 zx.1, fun zx => [.blk (vblk (varg vs 1)) (.cells #[.pointer (some ⟨(vblk (scell (sarg hs 0) 0)), 0, none⟩), .pointer (some ⟨(vblk (scell (sarg hs 0) 1)), 0, none⟩)] 108 (0, 0)), (mS Try.mk143 (vblk (scell (sarg hs 0) 0)) (snum (sarg hs 1) 1) zx.2.1), (mS Try.mk148 (vblk (scell (sarg hs 0) 1)) (snum (sarg hs 1) 1) zx.2.2.1), (jS Try.jk (snum (sarg hs 1) 1) zx.2.2.2)], fun zx => zx = bMove (Try.ent143 (vblk (scell (sarg hs 0) 0))) (((skv (sarg hs 1)), (skv (sarg hs 2)), (sents (sarg hs 3))) : BS) (ci (varg vs 2)) (ci (varg vs 3)) (ci (varg vs 4)) (num (varg vs 5))⟩
set_option maxRecDepth 100000 in
set_option maxHeartbeats 1000000 in
theorem book_Move_vc (b : Nat) (bm : Nat) (bs : Nat) (bj : Nat) (mb : KV) (ms : KV) (L : List Ent) (t : Int) (p : Int) (q : Int) (n : Int) : codeW Try.prog 57 none 2000 none (bodyOf Try.f24) (.reg [.sem [.nw 4], .sem []] (.reg [.sem [], .sem [.rd 4, .rd 4, .rd 4, .rd 4], .sem [], .sem [], .sem [.nw 5], .callr [5] book_wrong2_C, .sem []] (.reg [.sem [], .sem []] (.cond (.reg [.sem [], .sem []] (.done)) (.reg [.sem [], .sem [], .sem [], .callr [0, 1] book_Balance_C, .sem [.rd 4, .rd 4, .rd 4, .rd 4], .callr [] huge_Sub_C, .sem [], .sem [], .sem [], .sem [.nw 6], .sem [.wr 6, .wr 6, .wr 6, .wr 6], .sem []] (.reg [.sem [], .sem []] (.cond (.reg [.sem []] (.done)) (.reg [.sem [], .sem [], .sem [], .sem [], .sem [.rd 6, .rd 6, .rd 6, .rd 6], .callw [0, 1, 2, 3] [0, 1, 2, 3] book_put_C] (.reg [.sem [], .sem [], .sem [], .callr [0, 1] book_Balance_C, .sem [.rd 4, .rd 4, .rd 4, .rd 4], .callr [] huge_Add_C, .sem [], .sem [], .sem [], .sem [.nw 7], .sem [.wr 7, .wr 7, .wr 7, .wr 7], .sem []] (.reg [.sem [], .sem [], .sem [], .sem [], .sem [.rd 7, .rd 7, .rd 7, .rd 7], .callw [0, 1, 2, 3] [0, 1, 2, 3] book_put_C] (.reg [.sem []] (.done))))))))))))
    (init #[.pointer (some ⟨b, 0, none⟩), .int .u8 t, .int .u8 p, .int .u8 q, vI n] [.blk b (.cells #[.pointer (some ⟨bm, 0, none⟩), .pointer (some ⟨bs, 0, none⟩)] 108 (0, 0)), (mS Try.mk143 bm bj mb), (mS Try.mk148 bs bj ms), (jS Try.jk bj L)]) (finW Try.prog Try.f24 [] [0, 1, 2, 3] (X := Int × BS) (fun zx => .int .i64 zx.1) (fun zx => [.blk b (.cells #[.pointer (some ⟨bm, 0, none⟩), .pointer (some ⟨bs, 0, none⟩)] 108 (0, 0)), (mS Try.mk143 bm bj zx.2.1), (mS Try.mk148 bs bj zx.2.2.1), (jS Try.jk bj zx.2.2.2)]) (fun zx => (zx = bMove (Try.ent143 bm) ((mb, ms, L) : BS) t p q (num (vI n))))) =
    (∀ b1 : Nat, b1 = b1 ∧ (none : Option Nat) = none ∧ b1 = b1 ∧ (none : Option Nat) = none ∧ b1 = b1 ∧ (none : Option Nat) = none ∧ b1 = b1 ∧ (none : Option Nat) = none ∧ ∀ b2 : Nat, (CallT Try.prog 69 #[.int .u8 t, vI n, .slice (some ⟨b2, 0, none⟩) 2 2] [.blk b2 (.cells #[.int .u8 p, .int .u8 q] 5 (0, 0))] Int (fun zx => .int .i64 zx) (fun _ => [.blk b2 (.cells #[.int .u8 p, .int .u8 q] 5 (0, 0))]) (fun zx => zx = bw2 t p q (num (vI n)))) ∧ (∃ zx : Int, (fun zx => zx = bw2 t p q (num (vI n))) zx) ∧ ∀ x3 : Int, (x3 = bw2 t p q (num (vI n))) → ((x3 != (0 : Int)) = true → ∃ zx : Int × BS, (zx = bMove (Try.ent143 bm) ((mb, ms, L) : BS) t p q (num (vI n))) ∧ Value.int .i64 x3 = .int .i64 zx.1 ∧ Slot.blk b (.cells #[.pointer (some ⟨bm, 0, none⟩), .pointer (some ⟨bs, 0, none⟩)] 108 (0, 0)) = .blk b (.cells #[.pointer (some ⟨bm, 0, none⟩), .pointer (some ⟨bs, 0, none⟩)] 108 (0, 0)) ∧ (mS Try.mk143 bm bj mb) = (mS Try.mk143 bm bj zx.2.1) ∧ (mS Try.mk148 bs bj ms) = (mS Try.mk148 bs bj zx.2.2.1) ∧ (jS Try.jk bj L) = (jS Try.jk bj zx.2.2.2) ∧ True) ∧ ((x3 != (0 : Int)) = false → (CallT Try.prog 25 #[.pointer (some ⟨b, 0, none⟩), .int .u8 t, .int .u8 p] [.blk b (.cells #[.pointer (some ⟨bm, 0, none⟩), .pointer (some ⟨bs, 0, none⟩)] 108 (0, 0)), (mS Try.mk143 bm bj mb)] Int (fun zx => vI zx) (fun _ => [.blk b (.cells #[.pointer (some ⟨bm, 0, none⟩), .pointer (some ⟨bs, 0, none⟩)] 108 (0, 0)), (mS Try.mk143 bm bj mb)]) (fun zx => R4 zx ∧ zx = bal mb t p)) ∧ (∃ zx : Int, (fun zx => R4 zx ∧ zx = bal mb t p) zx) ∧ ∀ x4 : Int, (R4 x4 ∧ x4 = bal mb t p) → b1 = b1 ∧ (none : Option Nat) = none ∧ b1 = b1 ∧ (none : Option Nat) = none ∧ b1 = b1 ∧ (none : Option Nat) = none ∧ b1 = b1 ∧ (none : Option Nat) = none ∧ (CallT Try.prog 54 #[vI x4, vI n] [] (Int × Int) (fun zx => .tuple #[vI zx.1, .int .i64 zx.2]) (fun _ => []) (fun zx => R4 zx.1 ∧ zx = hSub (num (vI x4)) (num (vI n)))) ∧ (∃ zx : Int × Int, (fun zx => R4 zx.1 ∧ zx = hSub (num (vI x4)) (num (vI n))) zx) ∧ ∀ x5 : Int × Int, (R4 x5.1 ∧ x5 = hSub (num (vI x4)) (num (vI n))) → ∀ b6 : Nat, b6 = b6 ∧ (none : Option Nat) = none ∧ b6 = b6 ∧ (none : Option Nat) = none ∧ b6 = b6 ∧ (none : Option Nat) = none ∧ b6 = b6 ∧ (none : Option Nat) = none ∧ ((x5.2 != (0 : Int)) = true → ∃ zx : Int × BS, (zx = bMove (Try.ent143 bm) ((mb, ms, L) : BS) t p q (num (vI n))) ∧ Value.int .i64 8 = .int .i64 zx.1 ∧ Slot.blk b (.cells #[.pointer (some ⟨bm, 0, none⟩), .pointer (some ⟨bs, 0, none⟩)] 108 (0, 0)) = .blk b (.cells #[.pointer (some ⟨bm, 0, none⟩), .pointer (some ⟨bs, 0, none⟩)] 108 (0, 0)) ∧ (mS Try.mk143 bm bj mb) = (mS Try.mk143 bm bj zx.2.1) ∧ (mS Try.mk148 bs bj ms) = (mS Try.mk148 bs bj zx.2.2.1) ∧ (jS Try.jk bj L) = (jS Try.jk bj zx.2.2.2) ∧ True) ∧ ((x5.2 != (0 : Int)) = false → b6 = b6 ∧ (none : Option Nat) = none ∧ b6 = b6 ∧ (none : Option Nat) = none ∧ b6 = b6 ∧ (none : Option Nat) = none ∧ b6 = b6 ∧ (none : Option Nat) = none ∧ (CallT Try.prog 71 #[.pointer (some ⟨b, 0, none⟩), .agg #[.int .u8 t, .int .u8 p], vI x5.1] [.blk b (.cells #[.pointer (some ⟨bm, 0, none⟩), .pointer (some ⟨bs, 0, none⟩)] 108 (0, 0)), (mS Try.mk143 bm bj mb), (mS Try.mk148 bs bj ms), (jS Try.jk bj L)] BS (fun zx => .tuple #[]) (fun zx => [.blk b (.cells #[.pointer (some ⟨bm, 0, none⟩), .pointer (some ⟨bs, 0, none⟩)] 108 (0, 0)), (mS Try.mk143 bm bj zx.1), (mS Try.mk148 bs bj zx.2.1), (jS Try.jk bj zx.2.2)]) (fun zx => zx = bPut (Try.ent143 bm) ((mb, ms, L) : BS) (Value.agg #[.int .u8 t, .int .u8 p]) (num (vI x5.1)))) ∧ (∃ zx : BS, (fun zx => zx = bPut (Try.ent143 bm) ((mb, ms, L) : BS) (Value.agg #[.int .u8 t, .int .u8 p]) (num (vI x5.1))) zx) ∧ ∀ x7 : BS, (x7 = bPut (Try.ent143 bm) ((mb, ms, L) : BS) (Value.agg #[.int .u8 t, .int .u8 p]) (num (vI x5.1))) → (CallT Try.prog 25 #[.pointer (some ⟨b, 0, none⟩), .int .u8 t, .int .u8 q] [.blk b (.cells #[.pointer (some ⟨bm, 0, none⟩), .pointer (some ⟨bs, 0, none⟩)] 108 (0, 0)), (mS Try.mk143 bm bj x7.1)] Int (fun zx => vI zx) (fun _ => [.blk b (.cells #[.pointer (some ⟨bm, 0, none⟩), .pointer (some ⟨bs, 0, none⟩)] 108 (0, 0)), (mS Try.mk143 bm bj x7.1)]) (fun zx => R4 zx ∧ zx = bal x7.1 t q)) ∧ (∃ zx : Int, (fun zx => R4 zx ∧ zx = bal x7.1 t q) zx) ∧ ∀ x8 : Int, (R4 x8 ∧ x8 = bal x7.1 t q) → b1 = b1 ∧ (none : Option Nat) = none ∧ b1 = b1 ∧ (none : Option Nat) = none ∧ b1 = b1 ∧ (none : Option Nat) = none ∧ b1 = b1 ∧ (none : Option Nat) = none ∧ (CallT Try.prog 47 #[vI x8, vI n] [] (Int × Int) (fun zx => .tuple #[vI zx.1, .int .i64 zx.2]) (fun _ => []) (fun zx => R4 zx.1 ∧ zx = hAdd (num (vI x8)) (num (vI n)))) ∧ (∃ zx : Int × Int, (fun zx => R4 zx.1 ∧ zx = hAdd (num (vI x8)) (num (vI n))) zx) ∧ ∀ x9 : Int × Int, (R4 x9.1 ∧ x9 = hAdd (num (vI x8)) (num (vI n))) → ∀ b10 : Nat, b10 = b10 ∧ (none : Option Nat) = none ∧ b10 = b10 ∧ (none : Option Nat) = none ∧ b10 = b10 ∧ (none : Option Nat) = none ∧ b10 = b10 ∧ (none : Option Nat) = none ∧ b10 = b10 ∧ (none : Option Nat) = none ∧ b10 = b10 ∧ (none : Option Nat) = none ∧ b10 = b10 ∧ (none : Option Nat) = none ∧ b10 = b10 ∧ (none : Option Nat) = none ∧ (CallT Try.prog 71 #[.pointer (some ⟨b, 0, none⟩), .agg #[.int .u8 t, .int .u8 q], vI x9.1] [.blk b (.cells #[.pointer (some ⟨bm, 0, none⟩), .pointer (some ⟨bs, 0, none⟩)] 108 (0, 0)), (mS Try.mk143 bm bj x7.1), (mS Try.mk148 bs bj x7.2.1), (jS Try.jk bj x7.2.2)] BS (fun zx => .tuple #[]) (fun zx => [.blk b (.cells #[.pointer (some ⟨bm, 0, none⟩), .pointer (some ⟨bs, 0, none⟩)] 108 (0, 0)), (mS Try.mk143 bm bj zx.1), (mS Try.mk148 bs bj zx.2.1), (jS Try.jk bj zx.2.2)]) (fun zx => zx = bPut (Try.ent143 bm) ((x7.1, x7.2.1, x7.2.2) : BS) (Value.agg #[.int .u8 t, .int .u8 q]) (num (vI x9.1)))) ∧ (∃ zx : BS, (fun zx => zx = bPut (Try.ent143 bm) ((x7.1, x7.2.1, x7.2.2) : BS) (Value.agg #[.int .u8 t, .int .u8 q]) (num (vI x9.1))) zx) ∧ ∀ x11 : BS, (x11 = bPut (Try.ent143 bm) ((x7.1, x7.2.1, x7.2.2) : BS) (Value.agg #[.int .u8 t, .int .u8 q]) (num (vI x9.1))) → ∃ zx : Int × BS, (zx = bMove (Try.ent143 bm) ((mb, ms, L) : BS) t p q (num (vI n))) ∧ Value.int .i64 0 = .int .i64 zx.1 ∧ Slot.blk b (.cells #[.pointer (some ⟨bm, 0, none⟩), .pointer (some ⟨bs, 0, none⟩)] 108 (0, 0)) = .blk b (.cells #[.pointer (some ⟨bm, 0, none⟩), .pointer (some ⟨bs, 0, none⟩)] 108 (0, 0)) ∧ (mS Try.mk143 bm bj x11.1) = (mS Try.mk143 bm bj zx.2.1) ∧ (mS Try.mk148 bs bj x11.2.1) = (mS Try.mk148 bs bj zx.2.2.1) ∧ (jS Try.jk bj x11.2.2) = (jS Try.jk bj zx.2.2.2) ∧ True))) := by kernel_rfl
set_option maxRecDepth 100000 in
set_option maxHeartbeats 1000000 in
theorem book_Move (b : Nat) (bm : Nat) (bs : Nat) (bj : Nat) (mb : KV) (ms : KV) (L : List Ent) (t : Int) (p : Int) (q : Int) (n : Int) (r_n : R4 n) (wp : (Lit.int .u8 p).wf = true) (wq : (Lit.int .u8 q).wf = true) (hb : KOK Try.mk143 mb) (hs : KOK Try.mk148 ms) (hl : L.length ≤ 1000000) : CallT Try.prog 24 #[.pointer (some ⟨b, 0, none⟩), .int .u8 t, .int .u8 p, .int .u8 q, vI n] [.blk b (.cells #[.pointer (some ⟨bm, 0, none⟩), .pointer (some ⟨bs, 0, none⟩)] 108 (0, 0)), (mS Try.mk143 bm bj mb), (mS Try.mk148 bs bj ms), (jS Try.jk bj L)] (Int × BS) (fun zx => .int .i64 zx.1) (fun zx => [.blk b (.cells #[.pointer (some ⟨bm, 0, none⟩), .pointer (some ⟨bs, 0, none⟩)] 108 (0, 0)), (mS Try.mk143 bm bj zx.2.1), (mS Try.mk148 bs bj zx.2.2.1), (jS Try.jk bj zx.2.2.2)]) (fun zx => (zx = bMove (Try.ent143 bm) ((mb, ms, L) : BS) t p q (num (vI n)))) := by
  refine call_of (c := bodyOf Try.f24) (n := 57) (fn := Try.f24) Try.mixed Try.func24 (by kernel_rfl) (by kernel_rfl) (by kernel_rfl) 2000 _ [] [0, 1, 2, 3] rfl rfl (Eq.mpr (book_Move_vc b bm bs bj mb ms L t p q n) ?_)
  intro b1
  refine ⟨rfl, rfl, rfl, rfl, rfl, rfl, rfl, rfl, ?_⟩
  intro b2
  refine ⟨book_wrong2 b2 t n p q (by assumption) (by first | assumption | decide) (by first | assumption | decide), ⟨_, rfl⟩, ?_⟩
  intro x3
  intro h1
  try simp only [num_vI (n := n) (by assumption)] at h1
  have hw := h1
  refine ⟨fun h2 => ?_, fun h2 => ?_⟩
  · exact ⟨(x3, mb, ms, L), by rw [num_vI r_n]; exact (bMove_w hw (bne_iff_ne.1 h2)).symm, rfl, rfl, rfl, rfl, rfl, trivial⟩
  · have hw0 := h2
    have w0' := bne_eq_false_iff_eq.1 hw0
    rw [w0'] at hw
    refine ⟨book_Balance b bm bs bj mb t p (by assumption), ⟨_, KOK.R4v Try.numk143 (by assumption) _, rfl⟩, ?_⟩
    intro x4
    intro h3
    obtain ⟨rh3_, h3⟩ := h3
    have hba := h3
    refine ⟨rfl, rfl, rfl, rfl, rfl, rfl, rfl, rfl, huge_Sub x4 n (by assumption) (by assumption), ⟨hSub (num (vI x4)) (num (vI n)), hSub_R (R4_num _) (R4_num _), rfl⟩, ?_⟩
    intro x5
    intro h4
    obtain ⟨rh4_1, h4⟩ := h4
    try simp only [num_vI (n := x4) (by assumption), num_vI (n := n) (by assumption)] at h4
    have ha := h4
    intro b6
    refine ⟨rfl, rfl, rfl, rfl, rfl, rfl, rfl, rfl, ?_⟩
    refine ⟨fun h5 => ?_, fun h5 => ?_⟩
    · have q := sub_no ha h5
      rw [hba] at q
      exact ⟨(8, mb, ms, L), by rw [num_vI r_n]; exact (bMove_no hw q.2).symm, rfl, rfl, rfl, rfl, rfl, trivial⟩
    · refine ⟨rfl, rfl, rfl, rfl, rfl, rfl, rfl, rfl, book_put b bm bs bj mb ms L t p x5.1 (by assumption) (by omega), ⟨_, rfl⟩, ?_⟩
      intro x7
      intro h6
      try simp only [num_vI (n := x5.1) (by assumption)] at h6
      have hput := h6
      have q0 := sub_ok ha h5
      have kb1 : KOK Try.mk143 x7.1 := by rw [hput]; exact KOK.put Try.numk143 hb ⟨_, _, rfl⟩ (by assumption)
      refine ⟨book_Balance b bm bs bj x7.1 t q (by assumption), ⟨_, KOK.R4v Try.numk143 (by assumption) _, rfl⟩, ?_⟩
      intro x8
      intro h7
      obtain ⟨rh7_, h7⟩ := h7
      have hb2 := h7
      refine ⟨rfl, rfl, rfl, rfl, rfl, rfl, rfl, rfl, huge_Add x8 n (by assumption) (by assumption), ⟨hAdd (num (vI x8)) (num (vI n)), hAdd_R (R4_num _) (R4_num _), rfl⟩, ?_⟩
      intro x9
      intro h8
      obtain ⟨rh8_1, h8⟩ := h8
      try simp only [num_vI (n := x8) (by assumption), num_vI (n := n) (by assumption)] at h8
      have hnow := h8
      intro b10
      refine ⟨rfl, rfl, rfl, rfl, rfl, rfl, rfl, rfl, ?_⟩
      have l1 : List.length x7.2.2 ≤ L.length + 1 := by rw [hput]; exact (bPut_len _ ((mb, ms, L) : BS) _ _).2
      refine ⟨rfl, rfl, rfl, rfl, rfl, rfl, rfl, rfl, book_put b bm bs bj x7.1 x7.2.1 x7.2.2 t q x9.1 (by assumption) (by omega), ⟨_, rfl⟩, ?_⟩
      intro x11
      intro h9
      try simp only [num_vI (n := x9.1) (by assumption)] at h9
      have hput2 := h9
      have q := sub_ok ha h5
      rw [hba] at q
      have lem := bMove_ok (eb := (Try.ent143 bm)) (s := ((mb, ms, L) : BS)) hw (by have := q.2; simp only; omega) q.1 hput (by rw [hnow, hb2]) hput2
      exact ⟨(0, x11), by rw [num_vI r_n]; exact lem.symm, rfl, rfl, rfl, congrArg (mS Try.mk148 bs bj) (by rw [hput2, hput]; try rfl), rfl, trivial⟩

def law13_lives_C : List Value → List Slot → Ctr := fun vs hs => ⟨Unit, fun _ => .bool true, fun _ => hs, fun _ => True⟩
set_option maxRecDepth 100000 in
theorem law13_lives_vc  : codeW Try.prog 27 none 2000 none (bodyOf Try.f18) (.reg [.sem []] (.reg [.sem [], .specw [] [0] (F_newj Try.jk), .callw [] [1, 2, 3] book_New_C, .sem []] (.reg [.sem [], .sem []] (.condF (.reg [.sem [], .sem [], .callw [1, 2, 3, 0] [1, 2, 3, 0] book_Mint_C, .sem [], .sem [], .callw [1, 2, 3, 0] [1, 2, 3, 0] book_Move_C, .sem [], .sem []] (.reg [.sem [], .gen [] (one (.bool true)), .sem [], .sem [], .gen [] (one (.bool true)), .sem [], .sem [], .sem [], .callr [1, 2] book_Balance_C, .sem [], .specr [] (fun _ hs => ⟨Unit, fun _ => .bool true, fun _ => hs, fun _ => True⟩), .sem [], .sem []] (.done)))))))
    (init #[] []) (finW Try.prog Try.f18 [] [] (X := Unit) (fun _ => .bool true) (fun _ => []) (fun _ => True)) =
    ((OpT Try.prog (do pure (Next.value (← Instr.box 40 (.agg #[.slice none 0 0])))) [] Nat (fun zx => .pointer (some ⟨zx, 0, none⟩)) (fun zx => [(jS Try.jk zx ([]))]) (fun zx => True)) ∧ (∃ zx : Nat, (fun zx => True) zx) ∧ ∀ x1 : Nat, (True) → (CallT Try.prog 19 #[.pointer (some ⟨x1, 0, none⟩)] [] (Nat × Nat × Nat) (fun zx => .pointer (some ⟨zx.1, 0, none⟩)) (fun zx => [.blk zx.1 (.cells #[.pointer (some ⟨zx.2.1, 0, none⟩), .pointer (some ⟨zx.2.2, 0, none⟩)] 108 (0, 0)), (mS Try.mk143 zx.2.1 x1 ([])), (mS Try.mk148 zx.2.2 x1 ([]))]) (fun zx => True)) ∧ (∃ zx : Nat × Nat × Nat, (fun zx => True) zx) ∧ ∀ x2 : Nat × Nat × Nat, (True) → (false = false) ∧ (CallT Try.prog 21 #[.pointer (some ⟨x2.1, 0, none⟩), .int .u8 0, .int .u8 3, .agg #[.int .u64 5, .int .u64 0, .int .u64 0, .int .u64 0]] [.blk x2.1 (.cells #[.pointer (some ⟨x2.2.1, 0, none⟩), .pointer (some ⟨x2.2.2, 0, none⟩)] 108 (0, 0)), (mS Try.mk143 x2.2.1 x1 ([])), (mS Try.mk148 x2.2.2 x1 ([])), (jS Try.jk x1 ([]))] (Int × BS) (fun zx => .int .i64 zx.1) (fun zx => [.blk x2.1 (.cells #[.pointer (some ⟨x2.2.1, 0, none⟩), .pointer (some ⟨x2.2.2, 0, none⟩)] 108 (0, 0)), (mS Try.mk143 x2.2.1 x1 zx.2.1), (mS Try.mk148 x2.2.2 x1 zx.2.2.1), (jS Try.jk x1 zx.2.2.2)]) (fun zx => zx = bMint (Try.ent143 x2.2.1) (Try.ent148 x2.2.2) ((([]), ([]), ([])) : BS) (0 : Int) (3 : Int) (num (vI (5 : Int))))) ∧ (∃ zx : Int × BS, (fun zx => zx = bMint (Try.ent143 x2.2.1) (Try.ent148 x2.2.2) ((([]), ([]), ([])) : BS) (0 : Int) (3 : Int) (num (vI (5 : Int)))) zx) ∧ ∀ x3 : Int × BS, (x3 = bMint (Try.ent143 x2.2.1) (Try.ent148 x2.2.2) ((([]), ([]), ([])) : BS) (0 : Int) (3 : Int) (num (vI (5 : Int)))) → (CallT Try.prog 24 #[.pointer (some ⟨x2.1, 0, none⟩), .int .u8 0, .int .u8 3, .int .u8 16, .agg #[.int .u64 6, .int .u64 0, .int .u64 0, .int .u64 0]] [.blk x2.1 (.cells #[.pointer (some ⟨x2.2.1, 0, none⟩), .pointer (some ⟨x2.2.2, 0, none⟩)] 108 (0, 0)), (mS Try.mk143 x2.2.1 x1 x3.2.1), (mS Try.mk148 x2.2.2 x1 x3.2.2.1), (jS Try.jk x1 x3.2.2.2)] (Int × BS) (fun zx => .int .i64 zx.1) (fun zx => [.blk x2.1 (.cells #[.pointer (some ⟨x2.2.1, 0, none⟩), .pointer (some ⟨x2.2.2, 0, none⟩)] 108 (0, 0)), (mS Try.mk143 x2.2.1 x1 zx.2.1), (mS Try.mk148 x2.2.2 x1 zx.2.2.1), (jS Try.jk x1 zx.2.2.2)]) (fun zx => zx = bMove (Try.ent143 x2.2.1) ((x3.2.1, x3.2.2.1, x3.2.2.2) : BS) (0 : Int) (3 : Int) (16 : Int) (num (vI (6 : Int))))) ∧ (∃ zx : Int × BS, (fun zx => zx = bMove (Try.ent143 x2.2.1) ((x3.2.1, x3.2.2.1, x3.2.2.2) : BS) (0 : Int) (3 : Int) (16 : Int) (num (vI (6 : Int)))) zx) ∧ ∀ x4 : Int × BS, (x4 = bMove (Try.ent143 x2.2.1) ((x3.2.1, x3.2.2.1, x3.2.2.2) : BS) (0 : Int) (3 : Int) (16 : Int) (num (vI (6 : Int)))) → (∃ _ : Unit, True ∧ Value.bool (x3.1 == (0 : Int)) = .bool true) ∧ ∀ _ : Unit, (True) → true = true ∧ true = true ∧ (∃ _ : Unit, True ∧ Value.bool (x4.1 == (8 : Int)) = .bool true) ∧ ∀ _ : Unit, (True) → true = true ∧ true = true ∧ (CallT Try.prog 25 #[.pointer (some ⟨x2.1, 0, none⟩), .int .u8 0, .int .u8 3] [.blk x2.1 (.cells #[.pointer (some ⟨x2.2.1, 0, none⟩), .pointer (some ⟨x2.2.2, 0, none⟩)] 108 (0, 0)), (mS Try.mk143 x2.2.1 x1 x4.2.1)] Int (fun zx => vI zx) (fun _ => [.blk x2.1 (.cells #[.pointer (some ⟨x2.2.1, 0, none⟩), .pointer (some ⟨x2.2.2, 0, none⟩)] 108 (0, 0)), (mS Try.mk143 x2.2.1 x1 x4.2.1)]) (fun zx => R4 zx ∧ zx = bal x4.2.1 (0 : Int) (3 : Int))) ∧ (∃ zx : Int, (fun zx => R4 zx ∧ zx = bal x4.2.1 (0 : Int) (3 : Int)) zx) ∧ ∀ x5 : Int, (R4 x5 ∧ x5 = bal x4.2.1 (0 : Int) (3 : Int)) → true = true ∧ true = true ∧ (OpT Try.prog (xBin .eql 44 (vI x5) (vI 5)) [] Unit (fun _ => .bool true) (fun _ => []) (fun _ => True)) ∧ (∃ zx : Unit, (fun _ => True) zx) ∧ ∀ _ : Unit, (True) → ∃ _ : Unit, (True) ∧ Value.bool true = .bool true ∧ True) := by kernel_rfl
set_option maxRecDepth 100000 in
theorem law13_lives   : CallT Try.prog 18 #[] [] Unit (fun _ => .bool true) (fun _ => []) (fun _ => True) := by
  refine call_of (c := bodyOf Try.f18) (n := 27) (fn := Try.f18) Try.mixed Try.func18 (by kernel_rfl) (by kernel_rfl) (by kernel_rfl) 2000 _ [] [] rfl rfl (Eq.mpr (law13_lives_vc ) ?_)
  have kb0 : KOK Try.mk143 [] := KOK.nil
  have ks0 : KOK Try.mk148 [] := KOK.nil
  refine ⟨xnewj (K := Try.jk) (Eq.mpr (by kernel_rfl : symW Try.prog (do pure (Next.value (← Instr.box 40 (.agg #[.slice none 0 0])))) [.nw 0] (ofList []) (fun nx H _ => ∃ b, nx = Next.value (ptr b) ∧ H = upd (ofList []) 0 (.blk b (.cells #[.slice none 0 0] (JK.tj Try.jk) (0, 0)))) = (∀ b, ∃ b', Next.value (ptr b) = .value (ptr b') ∧ upd (ofList []) 0 (.blk b (.cells #[.slice none 0 0] 40 (0, 0))) = upd (ofList []) 0 (.blk b' (.cells #[.slice none 0 0] (JK.tj Try.jk) (0, 0))))) fun b => ⟨b, rfl, rfl⟩), ⟨0, trivial⟩, ?_⟩
  intro x1
  intro h1
  refine ⟨book_New x1, ⟨(0, 0, 0), trivial⟩, ?_⟩
  intro x2
  intro h2
  refine ⟨rfl, ?_⟩
  refine ⟨book_Mint x2.1 x2.2.1 x2.2.2 x1 ([]) ([]) ([]) (0 : Int) (3 : Int) (5 : Int) (by unfold R4; decide) (by decide) (by assumption) (by assumption) (by decide), ⟨_, rfl⟩, ?_⟩
  intro x3
  intro h3
  try simp only [num_vI (n := (5 : Int)) (by unfold R4; decide)] at h3
  have h1 := h3
  have h1 := h1.trans (live_mint _ _)
  have kb1 : KOK Try.mk143 x3.2.1 := by rw [h1]; exact KOK.nil.put Try.numk143 (n := 5) ⟨_, _, rfl⟩ (by unfold R4; decide)
  have ks1 : KOK Try.mk148 x3.2.2.1 := by rw [h1]; exact KOK.nil.set ⟨_, rfl⟩ ((Try.numk148 _).2 ⟨5, by unfold R4; decide, rfl⟩)
  have l1 : List.length x3.2.2.2 = 2 := by rw [h1]; rfl
  refine ⟨book_Move x2.1 x2.2.1 x2.2.2 x1 x3.2.1 x3.2.2.1 x3.2.2.2 (0 : Int) (3 : Int) (16 : Int) (6 : Int) (by unfold R4; decide) (by decide) (by decide) (by assumption) (by assumption) (by omega), ⟨_, rfl⟩, ?_⟩
  intro x4
  intro h4
  try simp only [num_vI (n := (6 : Int)) (by unfold R4; decide)] at h4
  have h2 := h4
  have h2 := h2.trans (live_move h1)
  have kb2 : KOK Try.mk143 x4.2.1 := by rw [h2]; exact kb1
  refine ⟨⟨(), trivial, congrArg Value.bool (by rw [h1]; rfl)⟩, ?_⟩
  intro _
  intro _
  refine ⟨rfl, rfl, ⟨(), trivial, congrArg Value.bool (by rw [h2]; rfl)⟩, ?_⟩
  intro _
  intro _
  refine ⟨rfl, rfl, book_Balance x2.1 x2.2.1 x2.2.2 x1 x4.2.1 (0 : Int) (3 : Int) (by assumption), ⟨_, KOK.R4v Try.numk143 (by assumption) _, rfl⟩, ?_⟩
  intro x5
  intro h5
  obtain ⟨rh5_, h5⟩ := h5
  have h3 : x5 = 5 := by rw [h5, h2]; exact live_bal (x := x3) h1
  refine ⟨rfl, rfl, OpT.ofPure (Try.xeq44 x5 5) (congrArg Value.bool ((by rw [h3]; rfl))), ⟨(), trivial⟩, ?_⟩
  intro _
  intro _
  exact ⟨(), trivial, rfl, trivial⟩

theorem Try.list8 {α : Type} {l : List α} (h : l.length = 8) : ∃ a0 a1 a2 a3 a4 a5 a6 a7, l = [a0, a1, a2, a3, a4, a5, a6, a7] := by
  match l, h with
  | [a0, a1, a2, a3, a4, a5, a6, a7], _ => exact ⟨a0, a1, a2, a3, a4, a5, a6, a7, rfl⟩
def Try.el46 : Int × Int × Int × Int × Int → Value := fun x => .agg #[.int .u8 x.1, .int .u8 x.2.1, .int .u8 x.2.2.1, .int .u8 x.2.2.2.1, .int .u64 (lim x.2.2.2.2 0), .int .u64 (lim x.2.2.2.2 1), .int .u64 (lim x.2.2.2.2 2), .int .u64 (lim x.2.2.2.2 3)]
def Try.el46_ok : Int × Int × Int × Int × Int → Prop := fun x => (Lit.int .u8 x.1).wf = true ∧ (Lit.int .u8 x.2.1).wf = true ∧ (Lit.int .u8 x.2.2.1).wf = true ∧ (Lit.int .u8 x.2.2.2.1).wf = true ∧ R4 x.2.2.2.2
theorem Try.elt34 : ElT Try.prog 34 46 8 := ⟨by kernel_rfl, fun w => by kernel_rfl⟩
theorem Try.elk46 : ElK Try.prog 46 8 (X := Int × Int × Int × Int × Int) Try.el46 Try.el46_ok := by
  refine ⟨.inl ⟨fun w => by kernel_rfl, fun x => ⟨_, rfl⟩⟩, fun w => by kernel_rfl, fun _ => rfl, fun x y hx hy h => ?_⟩
  have e := fun (i : Nat) => congrArg (fun l : List Value => l.getD i undef) h
  have e0 : x.1 = y.1 := congrArg ci (e 0)
  have e1 : x.2.1 = y.2.1 := congrArg ci (e 1)
  have e2 : x.2.2.1 = y.2.2.1 := congrArg ci (e 2)
  have e3 : x.2.2.2.1 = y.2.2.2.1 := congrArg ci (e 3)
  have e4 : x.2.2.2.2 = y.2.2.2.2 := by
    have h0 := congrArg ci (e 4); have h1 := congrArg ci (e 5); have h2 := congrArg ci (e 6); have h3 := congrArg ci (e 7)
    have k0 : lim x.2.2.2.2 0 = lim y.2.2.2.2 0 := h0; have k1 : lim x.2.2.2.2 1 = lim y.2.2.2.2 1 := h1; have k2 : lim x.2.2.2.2 2 = lim y.2.2.2.2 2 := h2; have k3 : lim x.2.2.2.2 3 = lim y.2.2.2.2 3 := h3
    have hn : num (vI x.2.2.2.2) = num (vI y.2.2.2.2) := by rw [lims, lims, k0, k1, k2, k3]
    rwa [num_vI hx.2.2.2.2, num_vI hy.2.2.2.2] at hn
  exact (Prod.ext e0 (Prod.ext e1 (Prod.ext e2 (Prod.ext e3 e4))))
theorem Try.opens46 : Opens Try.prog 46 8 (X := Int × Int × Int × Int × Int) Try.el46 Try.el46_ok := by
  intro H enc W base sp held fuel cs y hl h
  obtain ⟨c0, c1, c2, c3, c4, c5, c6, c7, rfl⟩ := Try.list8 hl
  obtain ⟨xs, n, hn, hx, hsz, hlen, hf⟩ := DataW.trod_struct (fs := Try.prog.fieldsOf 46) (by kernel_rfl) h
  have t0 : ∃ y, DataW.trod enc Try.prog W base sp held n 5 [c0] = some y := trod_field hlen hf 0 (f := (Try.prog.fieldsOf 46).getD 0 default) (off := 0) (k := 1) (by kernel_rfl) (by kernel_rfl) (by kernel_rfl) (by kernel_rfl)
  obtain ⟨y0, t0⟩ := t0
  obtain ⟨v0, q0, k0⟩ := opens_int (P := Try.prog) (t := 5) (k := .u8) (by kernel_rfl) H enc W base sp held n _ _ rfl t0
  have t1 : ∃ y, DataW.trod enc Try.prog W base sp held n 5 [c1] = some y := trod_field hlen hf 1 (f := (Try.prog.fieldsOf 46).getD 1 default) (off := 1) (k := 1) (by kernel_rfl) (by kernel_rfl) (by kernel_rfl) (by kernel_rfl)
  obtain ⟨y1, t1⟩ := t1
  obtain ⟨v1, q1, k1⟩ := opens_int (P := Try.prog) (t := 5) (k := .u8) (by kernel_rfl) H enc W base sp held n _ _ rfl t1
  have t2 : ∃ y, DataW.trod enc Try.prog W base sp held n 5 [c2] = some y := trod_field hlen hf 2 (f := (Try.prog.fieldsOf 46).getD 2 default) (off := 2) (k := 1) (by kernel_rfl) (by kernel_rfl) (by kernel_rfl) (by kernel_rfl)
  obtain ⟨y2, t2⟩ := t2
  obtain ⟨v2, q2, k2⟩ := opens_int (P := Try.prog) (t := 5) (k := .u8) (by kernel_rfl) H enc W base sp held n _ _ rfl t2
  have t3 : ∃ y, DataW.trod enc Try.prog W base sp held n 5 [c3] = some y := trod_field hlen hf 3 (f := (Try.prog.fieldsOf 46).getD 3 default) (off := 3) (k := 1) (by kernel_rfl) (by kernel_rfl) (by kernel_rfl) (by kernel_rfl)
  obtain ⟨y3, t3⟩ := t3
  obtain ⟨v3, q3, k3⟩ := opens_int (P := Try.prog) (t := 5) (k := .u8) (by kernel_rfl) H enc W base sp held n _ _ rfl t3
  have t4 : ∃ y, DataW.trod enc Try.prog W base sp held n 44 [c4, c5, c6, c7] = some y := trod_field hlen hf 4 (f := (Try.prog.fieldsOf 46).getD 4 default) (off := 4) (k := 4) (by kernel_rfl) (by kernel_rfl) (by kernel_rfl) (by kernel_rfl)
  obtain ⟨y4, t4⟩ := t4
  obtain ⟨v4, q4, k4⟩ := opens_num (P := Try.prog) (t := 44) (e := 27) (by kernel_rfl) (by kernel_rfl) (by kernel_rfl) (by kernel_rfl) H enc W base sp held n _ _ rfl t4
  refine ⟨(v0, v1, v2, v3, v4), ?_, ⟨k0, k1, k2, k3, k4⟩⟩
  show [c0] ++ [c1] ++ [c2] ++ [c3] ++ [c4, c5, c6, c7] = _
  rw [q0, q1, q2, q3, q4]
  rfl
end Go.Proofs
