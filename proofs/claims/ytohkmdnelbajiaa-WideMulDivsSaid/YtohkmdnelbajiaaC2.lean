/- Contracts of this program's functions, and their proofs, printed by a program of the prover's own (see the claim's other texts for what the words mean). -/
import Derived.Test.YtohkmdnelbajiaaSxB5
import Derived.Test.YtohkmdnelbajiaaC1
set_option linter.unusedVariables false
set_option linter.unusedSimpArgs false
namespace Go.Proofs
open Go.Sx
def huge_Of_C : List Value → List Slot → Ctr := fun vs hs => ⟨Unit, fun _ => vI (ci (varg vs 1)), fun _ => hs, fun _ => True⟩
set_option maxRecDepth 100000 in
theorem huge_Of_vc (x : Int) : codeW Try.prog 5 none 2000 none (bodyOf Try.f75) (.reg [.sem [.nw 0]] (.reg [.sem [], .sem [], .sem [.wr 0, .wr 0, .wr 0, .wr 0]] (.done)))
    (init #[.int .u64 x] []) (finW Try.prog Try.f75 [.rd 0, .rd 0, .rd 0, .rd 0] [] (X := Unit) (fun _ => vI x) (fun _ => []) (fun _ => True)) =
    (∀ b1 : Nat, b1 = b1 ∧ (none : Option Nat) = none ∧ b1 = b1 ∧ (none : Option Nat) = none ∧ b1 = b1 ∧ (none : Option Nat) = none ∧ b1 = b1 ∧ (none : Option Nat) = none ∧ b1 = b1 ∧ (none : Option Nat) = none ∧ b1 = b1 ∧ (none : Option Nat) = none ∧ b1 = b1 ∧ (none : Option Nat) = none ∧ b1 = b1 ∧ (none : Option Nat) = none ∧ ∃ _ : Unit, (True) ∧ Value.agg #[.int .u64 x, .int .u64 0, .int .u64 0, .int .u64 0] = vI x ∧ True) := by kernel_rfl
set_option maxRecDepth 100000 in
theorem huge_Of (x : Int) (hx : W x) : CallT Try.prog 75 #[.int .u64 x] [] Unit (fun _ => vI x) (fun _ => []) (fun _ => True) := by
  refine call_of (c := bodyOf Try.f75) (n := 5) (fn := Try.f75) Try.mixed Try.func75 (by kernel_rfl) (by kernel_rfl) (by kernel_rfl) 2000 _ [.rd 0, .rd 0, .rd 0, .rd 0] [] rfl rfl (Eq.mpr (huge_Of_vc x) ?_)
  intro b1
  refine ⟨rfl, rfl, rfl, rfl, rfl, rfl, rfl, rfl, ?_⟩
  refine ⟨rfl, rfl, rfl, rfl, rfl, rfl, rfl, rfl, ?_⟩
  exact ⟨(), trivial, (vI_of hx).symm, trivial⟩

def huge_chainAdd_C : List Value → List Slot → Ctr := fun vs hs => ⟨Int × Int, fun zx => .tuple #[vI zx.1, .int .i64 zx.2], fun _ => hs, fun zx => R4 zx.1 ∧ zx = hAdd (num (varg vs 1)) (num (varg vs 2))⟩
set_option maxRecDepth 100000 in
theorem huge_chainAdd_vc (a : Int) (b : Int) : codeW Try.prog 33 none 2000 none (bodyOf Try.f85) (.reg [.sem [.nw 0], .sem [.nw 1], .sem [.nw 2], .sem []] (.reg [.sem [.nw 3]] (.reg [.sem []] (.reg [.sem []] (.reg [.sem []] (.condT (.reg [.sem [], .sem []] (.reg [.sem [], .sem [], .sem [], .sem [], .sem [.rd 0], .sem [], .sem [], .sem [.rd 1], .sem [], .callr [] limb_Add_C, .sem [], .sem [], .sem [], .sem [], .sem [.wr 3], .sem []] (.reg [.sem [], .sem []] (.reg [.sem []] (.condT (.reg [.sem [], .sem []] (.reg [.sem [], .sem [], .sem [], .sem [], .sem [.rd 0], .sem [], .sem [], .sem [.rd 1], .sem [], .callr [] limb_Add_C, .sem [], .sem [], .sem [], .sem [], .sem [.wr 3], .sem []] (.reg [.sem [], .sem []] (.reg [.sem []] (.condT (.reg [.sem [], .sem []] (.reg [.sem [], .sem [], .sem [], .sem [], .sem [.rd 0], .sem [], .sem [], .sem [.rd 1], .sem [], .callr [] limb_Add_C, .sem [], .sem [], .sem [], .sem [], .sem [.wr 3], .sem []] (.reg [.sem [], .sem []] (.reg [.sem []] (.condT (.reg [.sem [], .sem []] (.reg [.sem [], .sem [], .sem [], .sem [], .sem [.rd 0], .sem [], .sem [], .sem [.rd 1], .sem [], .callr [] limb_Add_C, .sem [], .sem [], .sem [], .sem [], .sem [.wr 3], .sem []] (.reg [.sem [], .sem []] (.reg [.sem []] (.condF (.reg [.sem [], .sem []] (.cond (.reg [.sem [], .sem [.wr 2, .wr 2, .wr 2, .wr 2], .sem []] (.done)) (.reg [.sem [.rd 3, .rd 3, .rd 3, .rd 3], .sem [.wr 2, .wr 2, .wr 2, .wr 2], .sem []] (.done))))))))))))))))))))))))))))))
    (init #[vI a, vI b, .func (.func 86) #[] #[]] []) (finW Try.prog Try.f85 [.rd 2, .rd 2, .rd 2, .rd 2] [] (X := Int × Int) (fun zx => .tuple #[vI zx.1, .int .i64 zx.2]) (fun zx => []) (fun zx => (R4 zx.1 ∧ zx = hAdd (num (vI a)) (num (vI b))))) =
    (∀ b1 : Nat, ∀ b2 : Nat, ∀ b3 : Nat, ∀ b4 : Nat, (true = true) ∧ b1 = b1 ∧ (none : Option Nat) = none ∧ b2 = b2 ∧ (none : Option Nat) = none ∧ (CallT Try.prog 86 #[.int .u64 (lim a 0), .int .u64 (lim b 0), .int .u64 0] [] (Int × Int) (fun zx => .tuple #[.int .u64 zx.1, .int .u64 zx.2]) (fun _ => []) (fun zx => AddR (lim a 0) (lim b 0) (0 : Int) zx.1 zx.2)) ∧ (∃ zx : Int × Int, (fun zx => AddR (lim a 0) (lim b 0) (0 : Int) zx.1 zx.2) zx) ∧ ∀ x5 : Int × Int, (AddR (lim a 0) (lim b 0) (0 : Int) x5.1 x5.2) → b4 = b4 ∧ (none : Option Nat) = none ∧ (true = true) ∧ b1 = b1 ∧ (none : Option Nat) = none ∧ b2 = b2 ∧ (none : Option Nat) = none ∧ (CallT Try.prog 86 #[.int .u64 (lim a 1), .int .u64 (lim b 1), .int .u64 x5.2] [] (Int × Int) (fun zx => .tuple #[.int .u64 zx.1, .int .u64 zx.2]) (fun _ => []) (fun zx => AddR (lim a 1) (lim b 1) x5.2 zx.1 zx.2)) ∧ (∃ zx : Int × Int, (fun zx => AddR (lim a 1) (lim b 1) x5.2 zx.1 zx.2) zx) ∧ ∀ x6 : Int × Int, (AddR (lim a 1) (lim b 1) x5.2 x6.1 x6.2) → b4 = b4 ∧ (none : Option Nat) = none ∧ (true = true) ∧ b1 = b1 ∧ (none : Option Nat) = none ∧ b2 = b2 ∧ (none : Option Nat) = none ∧ (CallT Try.prog 86 #[.int .u64 (lim a 2), .int .u64 (lim b 2), .int .u64 x6.2] [] (Int × Int) (fun zx => .tuple #[.int .u64 zx.1, .int .u64 zx.2]) (fun _ => []) (fun zx => AddR (lim a 2) (lim b 2) x6.2 zx.1 zx.2)) ∧ (∃ zx : Int × Int, (fun zx => AddR (lim a 2) (lim b 2) x6.2 zx.1 zx.2) zx) ∧ ∀ x7 : Int × Int, (AddR (lim a 2) (lim b 2) x6.2 x7.1 x7.2) → b4 = b4 ∧ (none : Option Nat) = none ∧ (true = true) ∧ b1 = b1 ∧ (none : Option Nat) = none ∧ b2 = b2 ∧ (none : Option Nat) = none ∧ (CallT Try.prog 86 #[.int .u64 (lim a 3), .int .u64 (lim b 3), .int .u64 x7.2] [] (Int × Int) (fun zx => .tuple #[.int .u64 zx.1, .int .u64 zx.2]) (fun _ => []) (fun zx => AddR (lim a 3) (lim b 3) x7.2 zx.1 zx.2)) ∧ (∃ zx : Int × Int, (fun zx => AddR (lim a 3) (lim b 3) x7.2 zx.1 zx.2) zx) ∧ ∀ x8 : Int × Int, (AddR (lim a 3) (lim b 3) x7.2 x8.1 x8.2) → b4 = b4 ∧ (none : Option Nat) = none ∧ (false = false) ∧ ((x8.2 != (0 : Int)) = true → b3 = b3 ∧ (none : Option Nat) = none ∧ b3 = b3 ∧ (none : Option Nat) = none ∧ b3 = b3 ∧ (none : Option Nat) = none ∧ b3 = b3 ∧ (none : Option Nat) = none ∧ b3 = b3 ∧ (none : Option Nat) = none ∧ b3 = b3 ∧ (none : Option Nat) = none ∧ b3 = b3 ∧ (none : Option Nat) = none ∧ b3 = b3 ∧ (none : Option Nat) = none ∧ ∃ zx : Int × Int, (R4 zx.1 ∧ zx = hAdd (num (vI a)) (num (vI b))) ∧ Value.tuple #[.agg #[.int .u64 0, .int .u64 0, .int .u64 0, .int .u64 0], .int .i64 2] = .tuple #[vI zx.1, .int .i64 zx.2] ∧ True) ∧ ((x8.2 != (0 : Int)) = false → b4 = b4 ∧ (none : Option Nat) = none ∧ b4 = b4 ∧ (none : Option Nat) = none ∧ b4 = b4 ∧ (none : Option Nat) = none ∧ b4 = b4 ∧ (none : Option Nat) = none ∧ b3 = b3 ∧ (none : Option Nat) = none ∧ b3 = b3 ∧ (none : Option Nat) = none ∧ b3 = b3 ∧ (none : Option Nat) = none ∧ b3 = b3 ∧ (none : Option Nat) = none ∧ b3 = b3 ∧ (none : Option Nat) = none ∧ b3 = b3 ∧ (none : Option Nat) = none ∧ b3 = b3 ∧ (none : Option Nat) = none ∧ b3 = b3 ∧ (none : Option Nat) = none ∧ ∃ zx : Int × Int, (R4 zx.1 ∧ zx = hAdd (num (vI a)) (num (vI b))) ∧ Value.tuple #[.agg #[.int .u64 x5.1, .int .u64 x6.1, .int .u64 x7.1, .int .u64 x8.1], .int .i64 0] = .tuple #[vI zx.1, .int .i64 zx.2] ∧ True)) := by kernel_rfl
set_option maxRecDepth 100000 in
theorem huge_chainAdd (a : Int) (b : Int) (r_a : R4 a) (r_b : R4 b) : CallT Try.prog 85 #[vI a, vI b, .func (.func 86) #[] #[]] [] (Int × Int) (fun zx => .tuple #[vI zx.1, .int .i64 zx.2]) (fun zx => []) (fun zx => (R4 zx.1 ∧ zx = hAdd (num (vI a)) (num (vI b)))) := by
  refine call_of (c := bodyOf Try.f85) (n := 33) (fn := Try.f85) Try.mixed Try.func85 (by kernel_rfl) (by kernel_rfl) (by kernel_rfl) 2000 _ [.rd 2, .rd 2, .rd 2, .rd 2] [] rfl rfl (Eq.mpr (huge_chainAdd_vc a b) ?_)
  intro b1
  intro b2
  intro b3
  intro b4
  refine ⟨rfl, ?_⟩
  refine ⟨rfl, rfl, rfl, rfl, limb_Add (lim a 0) (lim b 0) (0 : Int) (by first | assumption | exact W_lim _ _ | (unfold W; decide)) (by first | assumption | exact W_lim _ _ | (unfold W; decide)), wit_add (by first | assumption | exact W_lim _ _ | (unfold W; decide)) (by first | assumption | exact W_lim _ _ | (unfold W; decide)), ?_⟩
  intro x5
  intro h1
  have wh1 := h1.s
  refine ⟨rfl, rfl, ?_⟩
  refine ⟨rfl, ?_⟩
  refine ⟨rfl, rfl, rfl, rfl, limb_Add (lim a 1) (lim b 1) x5.2 (by first | assumption | exact W_lim _ _ | (unfold W; decide)) (by first | assumption | exact W_lim _ _ | (unfold W; decide)), wit_add (by first | assumption | exact W_lim _ _ | (unfold W; decide)) (by first | assumption | exact W_lim _ _ | (unfold W; decide)), ?_⟩
  intro x6
  intro h2
  have wh2 := h2.s
  refine ⟨rfl, rfl, ?_⟩
  refine ⟨rfl, ?_⟩
  refine ⟨rfl, rfl, rfl, rfl, limb_Add (lim a 2) (lim b 2) x6.2 (by first | assumption | exact W_lim _ _ | (unfold W; decide)) (by first | assumption | exact W_lim _ _ | (unfold W; decide)), wit_add (by first | assumption | exact W_lim _ _ | (unfold W; decide)) (by first | assumption | exact W_lim _ _ | (unfold W; decide)), ?_⟩
  intro x7
  intro h3
  have wh3 := h3.s
  refine ⟨rfl, rfl, ?_⟩
  refine ⟨rfl, ?_⟩
  refine ⟨rfl, rfl, rfl, rfl, limb_Add (lim a 3) (lim b 3) x7.2 (by first | assumption | exact W_lim _ _ | (unfold W; decide)) (by first | assumption | exact W_lim _ _ | (unfold W; decide)), wit_add (by first | assumption | exact W_lim _ _ | (unfold W; decide)) (by first | assumption | exact W_lim _ _ | (unfold W; decide)), ?_⟩
  intro x8
  intro h4
  have wh4 := h4.s
  refine ⟨rfl, rfl, ?_⟩
  refine ⟨rfl, ?_⟩
  refine ⟨fun h5 => ?_, fun h5 => ?_⟩
  · refine ⟨rfl, rfl, rfl, rfl, rfl, rfl, rfl, rfl, ?_⟩
    refine ⟨rfl, rfl, rfl, rfl, rfl, rfl, rfl, rfl, ?_⟩
    exact fin2 (chain_add_ov (by assumption) (by assumption) (by assumption) (by assumption) ‹_›) R4_zero vI_zero
  · refine ⟨rfl, rfl, rfl, rfl, rfl, rfl, rfl, rfl, rfl, rfl, rfl, rfl, rfl, rfl, rfl, rfl, ?_⟩
    refine ⟨rfl, rfl, rfl, rfl, rfl, rfl, rfl, rfl, ?_⟩
    exact fin2 (chain_add_ok (by assumption) (by assumption) (by assumption) (by assumption) ‹_›) (R4_num4 (by assumption) (by assumption) (by assumption) (by assumption)) (vI_num4 (by assumption) (by assumption) (by assumption) (by assumption))

def huge_chainSub_C : List Value → List Slot → Ctr := fun vs hs => ⟨Int × Int, fun zx => .tuple #[vI zx.1, .int .i64 zx.2], fun _ => hs, fun zx => R4 zx.1 ∧ zx = hSub (num (varg vs 1)) (num (varg vs 2))⟩
set_option maxRecDepth 100000 in
theorem huge_chainSub_vc (a : Int) (b : Int) : codeW Try.prog 33 none 2000 none (bodyOf Try.f85) (.reg [.sem [.nw 0], .sem [.nw 1], .sem [.nw 2], .sem []] (.reg [.sem [.nw 3]] (.reg [.sem []] (.reg [.sem []] (.reg [.sem []] (.condT (.reg [.sem [], .sem []] (.reg [.sem [], .sem [], .sem [], .sem [], .sem [.rd 0], .sem [], .sem [], .sem [.rd 1], .sem [], .callr [] limb_Sub_C, .sem [], .sem [], .sem [], .sem [], .sem [.wr 3], .sem []] (.reg [.sem [], .sem []] (.reg [.sem []] (.condT (.reg [.sem [], .sem []] (.reg [.sem [], .sem [], .sem [], .sem [], .sem [.rd 0], .sem [], .sem [], .sem [.rd 1], .sem [], .callr [] limb_Sub_C, .sem [], .sem [], .sem [], .sem [], .sem [.wr 3], .sem []] (.reg [.sem [], .sem []] (.reg [.sem []] (.condT (.reg [.sem [], .sem []] (.reg [.sem [], .sem [], .sem [], .sem [], .sem [.rd 0], .sem [], .sem [], .sem [.rd 1], .sem [], .callr [] limb_Sub_C, .sem [], .sem [], .sem [], .sem [], .sem [.wr 3], .sem []] (.reg [.sem [], .sem []] (.reg [.sem []] (.condT (.reg [.sem [], .sem []] (.reg [.sem [], .sem [], .sem [], .sem [], .sem [.rd 0], .sem [], .sem [], .sem [.rd 1], .sem [], .callr [] limb_Sub_C, .sem [], .sem [], .sem [], .sem [], .sem [.wr 3], .sem []] (.reg [.sem [], .sem []] (.reg [.sem []] (.condF (.reg [.sem [], .sem []] (.cond (.reg [.sem [], .sem [.wr 2, .wr 2, .wr 2, .wr 2], .sem []] (.done)) (.reg [.sem [.rd 3, .rd 3, .rd 3, .rd 3], .sem [.wr 2, .wr 2, .wr 2, .wr 2], .sem []] (.done))))))))))))))))))))))))))))))
    (init #[vI a, vI b, .func (.func 89) #[] #[]] []) (finW Try.prog Try.f85 [.rd 2, .rd 2, .rd 2, .rd 2] [] (X := Int × Int) (fun zx => .tuple #[vI zx.1, .int .i64 zx.2]) (fun zx => []) (fun zx => (R4 zx.1 ∧ zx = hSub (num (vI a)) (num (vI b))))) =
    (∀ b1 : Nat, ∀ b2 : Nat, ∀ b3 : Nat, ∀ b4 : Nat, (true = true) ∧ b1 = b1 ∧ (none : Option Nat) = none ∧ b2 = b2 ∧ (none : Option Nat) = none ∧ (CallT Try.prog 89 #[.int .u64 (lim a 0), .int .u64 (lim b 0), .int .u64 0] [] (Int × Int) (fun zx => .tuple #[.int .u64 zx.1, .int .u64 zx.2]) (fun _ => []) (fun zx => SubR (lim a 0) (lim b 0) (0 : Int) zx.1 zx.2)) ∧ (∃ zx : Int × Int, (fun zx => SubR (lim a 0) (lim b 0) (0 : Int) zx.1 zx.2) zx) ∧ ∀ x5 : Int × Int, (SubR (lim a 0) (lim b 0) (0 : Int) x5.1 x5.2) → b4 = b4 ∧ (none : Option Nat) = none ∧ (true = true) ∧ b1 = b1 ∧ (none : Option Nat) = none ∧ b2 = b2 ∧ (none : Option Nat) = none ∧ (CallT Try.prog 89 #[.int .u64 (lim a 1), .int .u64 (lim b 1), .int .u64 x5.2] [] (Int × Int) (fun zx => .tuple #[.int .u64 zx.1, .int .u64 zx.2]) (fun _ => []) (fun zx => SubR (lim a 1) (lim b 1) x5.2 zx.1 zx.2)) ∧ (∃ zx : Int × Int, (fun zx => SubR (lim a 1) (lim b 1) x5.2 zx.1 zx.2) zx) ∧ ∀ x6 : Int × Int, (SubR (lim a 1) (lim b 1) x5.2 x6.1 x6.2) → b4 = b4 ∧ (none : Option Nat) = none ∧ (true = true) ∧ b1 = b1 ∧ (none : Option Nat) = none ∧ b2 = b2 ∧ (none : Option Nat) = none ∧ (CallT Try.prog 89 #[.int .u64 (lim a 2), .int .u64 (lim b 2), .int .u64 x6.2] [] (Int × Int) (fun zx => .tuple #[.int .u64 zx.1, .int .u64 zx.2]) (fun _ => []) (fun zx => SubR (lim a 2) (lim b 2) x6.2 zx.1 zx.2)) ∧ (∃ zx : Int × Int, (fun zx => SubR (lim a 2) (lim b 2) x6.2 zx.1 zx.2) zx) ∧ ∀ x7 : Int × Int, (SubR (lim a 2) (lim b 2) x6.2 x7.1 x7.2) → b4 = b4 ∧ (none : Option Nat) = none ∧ (true = true) ∧ b1 = b1 ∧ (none : Option Nat) = none ∧ b2 = b2 ∧ (none : Option Nat) = none ∧ (CallT Try.prog 89 #[.int .u64 (lim a 3), .int .u64 (lim b 3), .int .u64 x7.2] [] (Int × Int) (fun zx => .tuple #[.int .u64 zx.1, .int .u64 zx.2]) (fun _ => []) (fun zx => SubR (lim a 3) (lim b 3) x7.2 zx.1 zx.2)) ∧ (∃ zx : Int × Int, (fun zx => SubR (lim a 3) (lim b 3) x7.2 zx.1 zx.2) zx) ∧ ∀ x8 : Int × Int, (SubR (lim a 3) (lim b 3) x7.2 x8.1 x8.2) → b4 = b4 ∧ (none : Option Nat) = none ∧ (false = false) ∧ ((x8.2 != (0 : Int)) = true → b3 = b3 ∧ (none : Option Nat) = none ∧ b3 = b3 ∧ (none : Option Nat) = none ∧ b3 = b3 ∧ (none : Option Nat) = none ∧ b3 = b3 ∧ (none : Option Nat) = none ∧ b3 = b3 ∧ (none : Option Nat) = none ∧ b3 = b3 ∧ (none : Option Nat) = none ∧ b3 = b3 ∧ (none : Option Nat) = none ∧ b3 = b3 ∧ (none : Option Nat) = none ∧ ∃ zx : Int × Int, (R4 zx.1 ∧ zx = hSub (num (vI a)) (num (vI b))) ∧ Value.tuple #[.agg #[.int .u64 0, .int .u64 0, .int .u64 0, .int .u64 0], .int .i64 2] = .tuple #[vI zx.1, .int .i64 zx.2] ∧ True) ∧ ((x8.2 != (0 : Int)) = false → b4 = b4 ∧ (none : Option Nat) = none ∧ b4 = b4 ∧ (none : Option Nat) = none ∧ b4 = b4 ∧ (none : Option Nat) = none ∧ b4 = b4 ∧ (none : Option Nat) = none ∧ b3 = b3 ∧ (none : Option Nat) = none ∧ b3 = b3 ∧ (none : Option Nat) = none ∧ b3 = b3 ∧ (none : Option Nat) = none ∧ b3 = b3 ∧ (none : Option Nat) = none ∧ b3 = b3 ∧ (none : Option Nat) = none ∧ b3 = b3 ∧ (none : Option Nat) = none ∧ b3 = b3 ∧ (none : Option Nat) = none ∧ b3 = b3 ∧ (none : Option Nat) = none ∧ ∃ zx : Int × Int, (R4 zx.1 ∧ zx = hSub (num (vI a)) (num (vI b))) ∧ Value.tuple #[.agg #[.int .u64 x5.1, .int .u64 x6.1, .int .u64 x7.1, .int .u64 x8.1], .int .i64 0] = .tuple #[vI zx.1, .int .i64 zx.2] ∧ True)) := by kernel_rfl
set_option maxRecDepth 100000 in
theorem huge_chainSub (a : Int) (b : Int) (r_a : R4 a) (r_b : R4 b) : CallT Try.prog 85 #[vI a, vI b, .func (.func 89) #[] #[]] [] (Int × Int) (fun zx => .tuple #[vI zx.1, .int .i64 zx.2]) (fun zx => []) (fun zx => (R4 zx.1 ∧ zx = hSub (num (vI a)) (num (vI b)))) := by
  refine call_of (c := bodyOf Try.f85) (n := 33) (fn := Try.f85) Try.mixed Try.func85 (by kernel_rfl) (by kernel_rfl) (by kernel_rfl) 2000 _ [.rd 2, .rd 2, .rd 2, .rd 2] [] rfl rfl (Eq.mpr (huge_chainSub_vc a b) ?_)
  intro b1
  intro b2
  intro b3
  intro b4
  refine ⟨rfl, ?_⟩
  refine ⟨rfl, rfl, rfl, rfl, limb_Sub (lim a 0) (lim b 0) (0 : Int) (by first | assumption | exact W_lim _ _ | (unfold W; decide)) (by first | assumption | exact W_lim _ _ | (unfold W; decide)), wit_sub (by first | assumption | exact W_lim _ _ | (unfold W; decide)) (by first | assumption | exact W_lim _ _ | (unfold W; decide)), ?_⟩
  intro x5
  intro h1
  have wh1 := h1.s
  refine ⟨rfl, rfl, ?_⟩
  refine ⟨rfl, ?_⟩
  refine ⟨rfl, rfl, rfl, rfl, limb_Sub (lim a 1) (lim b 1) x5.2 (by first | assumption | exact W_lim _ _ | (unfold W; decide)) (by first | assumption | exact W_lim _ _ | (unfold W; decide)), wit_sub (by first | assumption | exact W_lim _ _ | (unfold W; decide)) (by first | assumption | exact W_lim _ _ | (unfold W; decide)), ?_⟩
  intro x6
  intro h2
  have wh2 := h2.s
  refine ⟨rfl, rfl, ?_⟩
  refine ⟨rfl, ?_⟩
  refine ⟨rfl, rfl, rfl, rfl, limb_Sub (lim a 2) (lim b 2) x6.2 (by first | assumption | exact W_lim _ _ | (unfold W; decide)) (by first | assumption | exact W_lim _ _ | (unfold W; decide)), wit_sub (by first | assumption | exact W_lim _ _ | (unfold W; decide)) (by first | assumption | exact W_lim _ _ | (unfold W; decide)), ?_⟩
  intro x7
  intro h3
  have wh3 := h3.s
  refine ⟨rfl, rfl, ?_⟩
  refine ⟨rfl, ?_⟩
  refine ⟨rfl, rfl, rfl, rfl, limb_Sub (lim a 3) (lim b 3) x7.2 (by first | assumption | exact W_lim _ _ | (unfold W; decide)) (by first | assumption | exact W_lim _ _ | (unfold W; decide)), wit_sub (by first | assumption | exact W_lim _ _ | (unfold W; decide)) (by first | assumption | exact W_lim _ _ | (unfold W; decide)), ?_⟩
  intro x8
  intro h4
  have wh4 := h4.s
  refine ⟨rfl, rfl, ?_⟩
  refine ⟨rfl, ?_⟩
  refine ⟨fun h5 => ?_, fun h5 => ?_⟩
  · refine ⟨rfl, rfl, rfl, rfl, rfl, rfl, rfl, rfl, ?_⟩
    refine ⟨rfl, rfl, rfl, rfl, rfl, rfl, rfl, rfl, ?_⟩
    exact fin2 (chain_sub_ov (by assumption) (by assumption) (by assumption) (by assumption) ‹_›) R4_zero vI_zero
  · refine ⟨rfl, rfl, rfl, rfl, rfl, rfl, rfl, rfl, rfl, rfl, rfl, rfl, rfl, rfl, rfl, rfl, ?_⟩
    refine ⟨rfl, rfl, rfl, rfl, rfl, rfl, rfl, rfl, ?_⟩
    exact fin2 (chain_sub_ok (by assumption) (by assumption) (by assumption) (by assumption) ‹_›) (R4_num4 (by assumption) (by assumption) (by assumption) (by assumption)) (vI_num4 (by assumption) (by assumption) (by assumption) (by assumption))

def huge_Add_C : List Value → List Slot → Ctr := fun vs hs => ⟨Int × Int, fun zx => .tuple #[vI zx.1, .int .i64 zx.2], fun _ => hs, fun zx => R4 zx.1 ∧ zx = hAdd (num (varg vs 1)) (num (varg vs 2))⟩
set_option maxRecDepth 100000 in
theorem huge_Add_vc (a : Int) (b : Int) : codeW Try.prog 11 none 2000 none (bodyOf Try.f47) (.reg [.sem [.nw 0], .sem [.nw 1], .sem [.nw 2], .sem []] (.reg [.sem [.rd 0, .rd 0, .rd 0, .rd 0], .sem [.rd 1, .rd 1, .rd 1, .rd 1], .callr [] huge_chainAdd_C, .sem [], .sem [], .sem [.wr 2, .wr 2, .wr 2, .wr 2], .sem []] (.done)))
    (init #[vI a, vI b] []) (finW Try.prog Try.f47 [.rd 2, .rd 2, .rd 2, .rd 2] [] (X := Int × Int) (fun zx => .tuple #[vI zx.1, .int .i64 zx.2]) (fun zx => []) (fun zx => (R4 zx.1 ∧ zx = hAdd (num (vI a)) (num (vI b))))) =
    (∀ b1 : Nat, ∀ b2 : Nat, ∀ b3 : Nat, b1 = b1 ∧ (none : Option Nat) = none ∧ b1 = b1 ∧ (none : Option Nat) = none ∧ b1 = b1 ∧ (none : Option Nat) = none ∧ b1 = b1 ∧ (none : Option Nat) = none ∧ b2 = b2 ∧ (none : Option Nat) = none ∧ b2 = b2 ∧ (none : Option Nat) = none ∧ b2 = b2 ∧ (none : Option Nat) = none ∧ b2 = b2 ∧ (none : Option Nat) = none ∧ (CallT Try.prog 85 #[vI a, vI b, .func (.func 86) #[] #[]] [] (Int × Int) (fun zx => .tuple #[vI zx.1, .int .i64 zx.2]) (fun _ => []) (fun zx => R4 zx.1 ∧ zx = hAdd (num (vI a)) (num (vI b)))) ∧ (∃ zx : Int × Int, (fun zx => R4 zx.1 ∧ zx = hAdd (num (vI a)) (num (vI b))) zx) ∧ ∀ x4 : Int × Int, (R4 x4.1 ∧ x4 = hAdd (num (vI a)) (num (vI b))) → b3 = b3 ∧ (none : Option Nat) = none ∧ b3 = b3 ∧ (none : Option Nat) = none ∧ b3 = b3 ∧ (none : Option Nat) = none ∧ b3 = b3 ∧ (none : Option Nat) = none ∧ b3 = b3 ∧ (none : Option Nat) = none ∧ b3 = b3 ∧ (none : Option Nat) = none ∧ b3 = b3 ∧ (none : Option Nat) = none ∧ b3 = b3 ∧ (none : Option Nat) = none ∧ ∃ zx : Int × Int, (R4 zx.1 ∧ zx = hAdd (num (vI a)) (num (vI b))) ∧ Value.tuple #[vI x4.1, .int .i64 x4.2] = .tuple #[vI zx.1, .int .i64 zx.2] ∧ True) := by kernel_rfl
set_option maxRecDepth 100000 in
theorem huge_Add (a : Int) (b : Int) (r_a : R4 a) (r_b : R4 b) : CallT Try.prog 47 #[vI a, vI b] [] (Int × Int) (fun zx => .tuple #[vI zx.1, .int .i64 zx.2]) (fun zx => []) (fun zx => (R4 zx.1 ∧ zx = hAdd (num (vI a)) (num (vI b)))) := by
  refine call_of (c := bodyOf Try.f47) (n := 11) (fn := Try.f47) Try.mixed Try.func47 (by kernel_rfl) (by kernel_rfl) (by kernel_rfl) 2000 _ [.rd 2, .rd 2, .rd 2, .rd 2] [] rfl rfl (Eq.mpr (huge_Add_vc a b) ?_)
  intro b1
  intro b2
  intro b3
  refine ⟨rfl, rfl, rfl, rfl, rfl, rfl, rfl, rfl, rfl, rfl, rfl, rfl, rfl, rfl, rfl, rfl, huge_chainAdd a b (by assumption) (by assumption), ⟨hAdd (num (vI a)) (num (vI b)), hAdd_R (R4_num _) (R4_num _), rfl⟩, ?_⟩
  intro x4
  intro h1
  obtain ⟨rh1_1, h1⟩ := h1
  try simp only [num_vI (n := a) (by assumption), num_vI (n := b) (by assumption)] at h1
  refine ⟨rfl, rfl, rfl, rfl, rfl, rfl, rfl, rfl, ?_⟩
  refine ⟨rfl, rfl, rfl, rfl, rfl, rfl, rfl, rfl, ?_⟩
  exact ⟨_, ⟨rh1_1, by rw [num_vI r_a, num_vI r_b]; exact h1⟩, rfl, trivial⟩

def huge_Sub_C : List Value → List Slot → Ctr := fun vs hs => ⟨Int × Int, fun zx => .tuple #[vI zx.1, .int .i64 zx.2], fun _ => hs, fun zx => R4 zx.1 ∧ zx = hSub (num (varg vs 1)) (num (varg vs 2))⟩
set_option maxRecDepth 100000 in
theorem huge_Sub_vc (a : Int) (b : Int) : codeW Try.prog 11 none 2000 none (bodyOf Try.f54) (.reg [.sem [.nw 0], .sem [.nw 1], .sem [.nw 2], .sem []] (.reg [.sem [.rd 0, .rd 0, .rd 0, .rd 0], .sem [.rd 1, .rd 1, .rd 1, .rd 1], .callr [] huge_chainSub_C, .sem [], .sem [], .sem [.wr 2, .wr 2, .wr 2, .wr 2], .sem []] (.done)))
    (init #[vI a, vI b] []) (finW Try.prog Try.f54 [.rd 2, .rd 2, .rd 2, .rd 2] [] (X := Int × Int) (fun zx => .tuple #[vI zx.1, .int .i64 zx.2]) (fun zx => []) (fun zx => (R4 zx.1 ∧ zx = hSub (num (vI a)) (num (vI b))))) =
    (∀ b1 : Nat, ∀ b2 : Nat, ∀ b3 : Nat, b1 = b1 ∧ (none : Option Nat) = none ∧ b1 = b1 ∧ (none : Option Nat) = none ∧ b1 = b1 ∧ (none : Option Nat) = none ∧ b1 = b1 ∧ (none : Option Nat) = none ∧ b2 = b2 ∧ (none : Option Nat) = none ∧ b2 = b2 ∧ (none : Option Nat) = none ∧ b2 = b2 ∧ (none : Option Nat) = none ∧ b2 = b2 ∧ (none : Option Nat) = none ∧ (CallT Try.prog 85 #[vI a, vI b, .func (.func 89) #[] #[]] [] (Int × Int) (fun zx => .tuple #[vI zx.1, .int .i64 zx.2]) (fun _ => []) (fun zx => R4 zx.1 ∧ zx = hSub (num (vI a)) (num (vI b)))) ∧ (∃ zx : Int × Int, (fun zx => R4 zx.1 ∧ zx = hSub (num (vI a)) (num (vI b))) zx) ∧ ∀ x4 : Int × Int, (R4 x4.1 ∧ x4 = hSub (num (vI a)) (num (vI b))) → b3 = b3 ∧ (none : Option Nat) = none ∧ b3 = b3 ∧ (none : Option Nat) = none ∧ b3 = b3 ∧ (none : Option Nat) = none ∧ b3 = b3 ∧ (none : Option Nat) = none ∧ b3 = b3 ∧ (none : Option Nat) = none ∧ b3 = b3 ∧ (none : Option Nat) = none ∧ b3 = b3 ∧ (none : Option Nat) = none ∧ b3 = b3 ∧ (none : Option Nat) = none ∧ ∃ zx : Int × Int, (R4 zx.1 ∧ zx = hSub (num (vI a)) (num (vI b))) ∧ Value.tuple #[vI x4.1, .int .i64 x4.2] = .tuple #[vI zx.1, .int .i64 zx.2] ∧ True) := by kernel_rfl
set_option maxRecDepth 100000 in
theorem huge_Sub (a : Int) (b : Int) (r_a : R4 a) (r_b : R4 b) : CallT Try.prog 54 #[vI a, vI b] [] (Int × Int) (fun zx => .tuple #[vI zx.1, .int .i64 zx.2]) (fun zx => []) (fun zx => (R4 zx.1 ∧ zx = hSub (num (vI a)) (num (vI b)))) := by
  refine call_of (c := bodyOf Try.f54) (n := 11) (fn := Try.f54) Try.mixed Try.func54 (by kernel_rfl) (by kernel_rfl) (by kernel_rfl) 2000 _ [.rd 2, .rd 2, .rd 2, .rd 2] [] rfl rfl (Eq.mpr (huge_Sub_vc a b) ?_)
  intro b1
  intro b2
  intro b3
  refine ⟨rfl, rfl, rfl, rfl, rfl, rfl, rfl, rfl, rfl, rfl, rfl, rfl, rfl, rfl, rfl, rfl, huge_chainSub a b (by assumption) (by assumption), ⟨hSub (num (vI a)) (num (vI b)), hSub_R (R4_num _) (R4_num _), rfl⟩, ?_⟩
  intro x4
  intro h1
  obtain ⟨rh1_1, h1⟩ := h1
  try simp only [num_vI (n := a) (by assumption), num_vI (n := b) (by assumption)] at h1
  refine ⟨rfl, rfl, rfl, rfl, rfl, rfl, rfl, rfl, ?_⟩
  refine ⟨rfl, rfl, rfl, rfl, rfl, rfl, rfl, rfl, ?_⟩
  exact ⟨_, ⟨rh1_1, by rw [num_vI r_a, num_vI r_b]; exact h1⟩, rfl, trivial⟩

def huge_row_C : List Value → List Slot → Ctr := fun vs hs => ⟨Int × Int, fun zx => .tuple #[vI zx.1, .int .u64 zx.2], fun _ => hs, fun zx => R4 zx.1 ∧ zx = hRow (num (varg vs 1)) (ci (varg vs 2))⟩
set_option maxRecDepth 100000 in
theorem huge_row_vc (a : Int) (y : Int) : codeW Try.prog 38 none 2000 none (bodyOf Try.f84) (.reg [.sem [.nw 0], .sem [.nw 1], .sem []] (.reg [.sem [.rd 0, .rd 0, .rd 0, .rd 0], .sem []] (.reg [.sem []] (.condT (.reg [.sem [], .sem [], .sem [], .sem []] (.reg [.sem [], .sem [], .callr [] limb_Mul_C, .sem [], .sem [], .sem [], .sem [], .sem []] (.reg [.sem [], .sem [], .callr [] limb_Add_C, .sem [], .sem [], .sem [], .sem [], .sem []] (.reg [.sem [], .sem [], .sem [], .sem [], .gen [] (fun vs => one (.int .u64 (ci (varg vs 0) + ci (varg vs 1))) vs), .sem [], .sem [.wr 1], .sem []] (.reg [.sem [], .sem []] (.reg [.sem []] (.condT (.reg [.sem [], .sem [], .sem [], .sem []] (.reg [.sem [], .sem [], .callr [] limb_Mul_C, .sem [], .sem [], .sem [], .sem [], .sem []] (.reg [.sem [], .sem [], .callr [] limb_Add_C, .sem [], .sem [], .sem [], .sem [], .sem []] (.reg [.sem [], .sem [], .sem [], .sem [], .gen [] (fun vs => one (.int .u64 (ci (varg vs 0) + ci (varg vs 1))) vs), .sem [], .sem [.wr 1], .sem []] (.reg [.sem [], .sem []] (.reg [.sem []] (.condT (.reg [.sem [], .sem [], .sem [], .sem []] (.reg [.sem [], .sem [], .callr [] limb_Mul_C, .sem [], .sem [], .sem [], .sem [], .sem []] (.reg [.sem [], .sem [], .callr [] limb_Add_C, .sem [], .sem [], .sem [], .sem [], .sem []] (.reg [.sem [], .sem [], .sem [], .sem [], .gen [] (fun vs => one (.int .u64 (ci (varg vs 0) + ci (varg vs 1))) vs), .sem [], .sem [.wr 1], .sem []] (.reg [.sem [], .sem []] (.reg [.sem []] (.condT (.reg [.sem [], .sem [], .sem [], .sem []] (.reg [.sem [], .sem [], .callr [] limb_Mul_C, .sem [], .sem [], .sem [], .sem [], .sem []] (.reg [.sem [], .sem [], .callr [] limb_Add_C, .sem [], .sem [], .sem [], .sem [], .sem []] (.reg [.sem [], .sem [], .sem [], .sem [], .gen [] (fun vs => one (.int .u64 (ci (varg vs 0) + ci (varg vs 1))) vs), .sem [], .sem [.wr 1], .sem []] (.reg [.sem [], .sem []] (.reg [.sem []] (.condF (.reg [.sem [.rd 1, .rd 1, .rd 1, .rd 1], .sem [], .sem [.wr 1, .wr 1, .wr 1, .wr 1], .sem []] (.done))))))))))))))))))))))))))))))))))
    (init #[vI a, .int .u64 y] []) (finW Try.prog Try.f84 [.rd 1, .rd 1, .rd 1, .rd 1] [] (X := Int × Int) (fun zx => .tuple #[vI zx.1, .int .u64 zx.2]) (fun zx => []) (fun zx => (R4 zx.1 ∧ zx = hRow (num (vI a)) y))) =
    (∀ b1 : Nat, ∀ b2 : Nat, b1 = b1 ∧ (none : Option Nat) = none ∧ b1 = b1 ∧ (none : Option Nat) = none ∧ b1 = b1 ∧ (none : Option Nat) = none ∧ b1 = b1 ∧ (none : Option Nat) = none ∧ (true = true) ∧ (CallT Try.prog 99 #[.int .u64 (lim a 0), .int .u64 y] [] (Int × Int) (fun zx => .tuple #[.int .u64 zx.1, .int .u64 zx.2]) (fun _ => []) (fun zx => MulR (lim a 0) y zx.1 zx.2)) ∧ (∃ zx : Int × Int, (fun zx => MulR (lim a 0) y zx.1 zx.2) zx) ∧ ∀ x3 : Int × Int, (MulR (lim a 0) y x3.1 x3.2) → (CallT Try.prog 86 #[.int .u64 x3.2, .int .u64 0, .int .u64 0] [] (Int × Int) (fun zx => .tuple #[.int .u64 zx.1, .int .u64 zx.2]) (fun _ => []) (fun zx => AddR x3.2 (0 : Int) (0 : Int) zx.1 zx.2)) ∧ (∃ zx : Int × Int, (fun zx => AddR x3.2 (0 : Int) (0 : Int) zx.1 zx.2) zx) ∧ ∀ x4 : Int × Int, (AddR x3.2 (0 : Int) (0 : Int) x4.1 x4.2) → (∃ _ : Unit, True ∧ Value.int .u64 (IntKind.u64.wrap (x3.1 + x4.2)) = .int .u64 (x3.1 + x4.2)) ∧ ∀ _ : Unit, (True) → b2 = b2 ∧ (none : Option Nat) = none ∧ (true = true) ∧ (CallT Try.prog 99 #[.int .u64 (lim a 1), .int .u64 y] [] (Int × Int) (fun zx => .tuple #[.int .u64 zx.1, .int .u64 zx.2]) (fun _ => []) (fun zx => MulR (lim a 1) y zx.1 zx.2)) ∧ (∃ zx : Int × Int, (fun zx => MulR (lim a 1) y zx.1 zx.2) zx) ∧ ∀ x5 : Int × Int, (MulR (lim a 1) y x5.1 x5.2) → (CallT Try.prog 86 #[.int .u64 x5.2, .int .u64 (x3.1 + x4.2), .int .u64 0] [] (Int × Int) (fun zx => .tuple #[.int .u64 zx.1, .int .u64 zx.2]) (fun _ => []) (fun zx => AddR x5.2 (x3.1 + x4.2) (0 : Int) zx.1 zx.2)) ∧ (∃ zx : Int × Int, (fun zx => AddR x5.2 (x3.1 + x4.2) (0 : Int) zx.1 zx.2) zx) ∧ ∀ x6 : Int × Int, (AddR x5.2 (x3.1 + x4.2) (0 : Int) x6.1 x6.2) → (∃ _ : Unit, True ∧ Value.int .u64 (IntKind.u64.wrap (x5.1 + x6.2)) = .int .u64 (x5.1 + x6.2)) ∧ ∀ _ : Unit, (True) → b2 = b2 ∧ (none : Option Nat) = none ∧ (true = true) ∧ (CallT Try.prog 99 #[.int .u64 (lim a 2), .int .u64 y] [] (Int × Int) (fun zx => .tuple #[.int .u64 zx.1, .int .u64 zx.2]) (fun _ => []) (fun zx => MulR (lim a 2) y zx.1 zx.2)) ∧ (∃ zx : Int × Int, (fun zx => MulR (lim a 2) y zx.1 zx.2) zx) ∧ ∀ x7 : Int × Int, (MulR (lim a 2) y x7.1 x7.2) → (CallT Try.prog 86 #[.int .u64 x7.2, .int .u64 (x5.1 + x6.2), .int .u64 0] [] (Int × Int) (fun zx => .tuple #[.int .u64 zx.1, .int .u64 zx.2]) (fun _ => []) (fun zx => AddR x7.2 (x5.1 + x6.2) (0 : Int) zx.1 zx.2)) ∧ (∃ zx : Int × Int, (fun zx => AddR x7.2 (x5.1 + x6.2) (0 : Int) zx.1 zx.2) zx) ∧ ∀ x8 : Int × Int, (AddR x7.2 (x5.1 + x6.2) (0 : Int) x8.1 x8.2) → (∃ _ : Unit, True ∧ Value.int .u64 (IntKind.u64.wrap (x7.1 + x8.2)) = .int .u64 (x7.1 + x8.2)) ∧ ∀ _ : Unit, (True) → b2 = b2 ∧ (none : Option Nat) = none ∧ (true = true) ∧ (CallT Try.prog 99 #[.int .u64 (lim a 3), .int .u64 y] [] (Int × Int) (fun zx => .tuple #[.int .u64 zx.1, .int .u64 zx.2]) (fun _ => []) (fun zx => MulR (lim a 3) y zx.1 zx.2)) ∧ (∃ zx : Int × Int, (fun zx => MulR (lim a 3) y zx.1 zx.2) zx) ∧ ∀ x9 : Int × Int, (MulR (lim a 3) y x9.1 x9.2) → (CallT Try.prog 86 #[.int .u64 x9.2, .int .u64 (x7.1 + x8.2), .int .u64 0] [] (Int × Int) (fun zx => .tuple #[.int .u64 zx.1, .int .u64 zx.2]) (fun _ => []) (fun zx => AddR x9.2 (x7.1 + x8.2) (0 : Int) zx.1 zx.2)) ∧ (∃ zx : Int × Int, (fun zx => AddR x9.2 (x7.1 + x8.2) (0 : Int) zx.1 zx.2) zx) ∧ ∀ x10 : Int × Int, (AddR x9.2 (x7.1 + x8.2) (0 : Int) x10.1 x10.2) → (∃ _ : Unit, True ∧ Value.int .u64 (IntKind.u64.wrap (x9.1 + x10.2)) = .int .u64 (x9.1 + x10.2)) ∧ ∀ _ : Unit, (True) → b2 = b2 ∧ (none : Option Nat) = none ∧ (false = false) ∧ b2 = b2 ∧ (none : Option Nat) = none ∧ b2 = b2 ∧ (none : Option Nat) = none ∧ b2 = b2 ∧ (none : Option Nat) = none ∧ b2 = b2 ∧ (none : Option Nat) = none ∧ b2 = b2 ∧ (none : Option Nat) = none ∧ b2 = b2 ∧ (none : Option Nat) = none ∧ b2 = b2 ∧ (none : Option Nat) = none ∧ b2 = b2 ∧ (none : Option Nat) = none ∧ b2 = b2 ∧ (none : Option Nat) = none ∧ b2 = b2 ∧ (none : Option Nat) = none ∧ b2 = b2 ∧ (none : Option Nat) = none ∧ b2 = b2 ∧ (none : Option Nat) = none ∧ ∃ zx : Int × Int, (R4 zx.1 ∧ zx = hRow (num (vI a)) y) ∧ Value.tuple #[.agg #[.int .u64 x4.1, .int .u64 x6.1, .int .u64 x8.1, .int .u64 x10.1], .int .u64 (x9.1 + x10.2)] = .tuple #[vI zx.1, .int .u64 zx.2] ∧ True) := by kernel_rfl
set_option maxRecDepth 100000 in
theorem huge_row (a : Int) (y : Int) (r_a : R4 a) (hy : W y) : CallT Try.prog 84 #[vI a, .int .u64 y] [] (Int × Int) (fun zx => .tuple #[vI zx.1, .int .u64 zx.2]) (fun zx => []) (fun zx => (R4 zx.1 ∧ zx = hRow (num (vI a)) y)) := by
  refine call_of (c := bodyOf Try.f84) (n := 38) (fn := Try.f84) Try.mixed Try.func84 (by kernel_rfl) (by kernel_rfl) (by kernel_rfl) 2000 _ [.rd 1, .rd 1, .rd 1, .rd 1] [] rfl rfl (Eq.mpr (huge_row_vc a y) ?_)
  intro b1
  intro b2
  refine ⟨rfl, rfl, rfl, rfl, rfl, rfl, rfl, rfl, ?_⟩
  refine ⟨rfl, ?_⟩
  refine ⟨limb_Mul (lim a 0) y (by first | assumption | exact W_lim _ _ | (exact row_w (by assumption) (W_lim _ _) hy (by assumption)) | (unfold W; decide)) (by first | assumption | exact W_lim _ _ | (exact row_w (by assumption) (W_lim _ _) hy (by assumption)) | (unfold W; decide)), wit_mul (by first | assumption | exact W_lim _ _ | (exact row_w (by assumption) (W_lim _ _) hy (by assumption)) | (unfold W; decide)) (by first | assumption | exact W_lim _ _ | (exact row_w (by assumption) (W_lim _ _) hy (by assumption)) | (unfold W; decide)), ?_⟩
  intro x3
  intro h1
  have wh1 := h1.h; have wlh1 := h1.l
  refine ⟨limb_Add x3.2 (0 : Int) (0 : Int) (by first | assumption | exact W_lim _ _ | (exact row_w (by assumption) (W_lim _ _) hy (by assumption)) | (unfold W; decide)) (by first | assumption | exact W_lim _ _ | (exact row_w (by assumption) (W_lim _ _) hy (by assumption)) | (unfold W; decide)), wit_add (by first | assumption | exact W_lim _ _ | (exact row_w (by assumption) (W_lim _ _) hy (by assumption)) | (unfold W; decide)) (by first | assumption | exact W_lim _ _ | (exact row_w (by assumption) (W_lim _ _) hy (by assumption)) | (unfold W; decide)), ?_⟩
  intro x4
  intro h2
  have wh2 := h2.s
  refine ⟨⟨(), trivial, congrArg (Value.int .u64) (wrap_W (row_w (by assumption) (W_lim _ _) hy (by assumption)))⟩, ?_⟩
  intro _
  intro _
  refine ⟨rfl, rfl, ?_⟩
  refine ⟨rfl, ?_⟩
  refine ⟨limb_Mul (lim a 1) y (by first | assumption | exact W_lim _ _ | (exact row_w (by assumption) (W_lim _ _) hy (by assumption)) | (unfold W; decide)) (by first | assumption | exact W_lim _ _ | (exact row_w (by assumption) (W_lim _ _) hy (by assumption)) | (unfold W; decide)), wit_mul (by first | assumption | exact W_lim _ _ | (exact row_w (by assumption) (W_lim _ _) hy (by assumption)) | (unfold W; decide)) (by first | assumption | exact W_lim _ _ | (exact row_w (by assumption) (W_lim _ _) hy (by assumption)) | (unfold W; decide)), ?_⟩
  intro x5
  intro h3
  have wh3 := h3.h; have wlh3 := h3.l
  refine ⟨limb_Add x5.2 (x3.1 + x4.2) (0 : Int) (by first | assumption | exact W_lim _ _ | (exact row_w (by assumption) (W_lim _ _) hy (by assumption)) | (unfold W; decide)) (by first | assumption | exact W_lim _ _ | (exact row_w (by assumption) (W_lim _ _) hy (by assumption)) | (unfold W; decide)), wit_add (by first | assumption | exact W_lim _ _ | (exact row_w (by assumption) (W_lim _ _) hy (by assumption)) | (unfold W; decide)) (by first | assumption | exact W_lim _ _ | (exact row_w (by assumption) (W_lim _ _) hy (by assumption)) | (unfold W; decide)), ?_⟩
  intro x6
  intro h4
  have wh4 := h4.s
  refine ⟨⟨(), trivial, congrArg (Value.int .u64) (wrap_W (row_w (by assumption) (W_lim _ _) hy (by assumption)))⟩, ?_⟩
  intro _
  intro _
  refine ⟨rfl, rfl, ?_⟩
  refine ⟨rfl, ?_⟩
  refine ⟨limb_Mul (lim a 2) y (by first | assumption | exact W_lim _ _ | (exact row_w (by assumption) (W_lim _ _) hy (by assumption)) | (unfold W; decide)) (by first | assumption | exact W_lim _ _ | (exact row_w (by assumption) (W_lim _ _) hy (by assumption)) | (unfold W; decide)), wit_mul (by first | assumption | exact W_lim _ _ | (exact row_w (by assumption) (W_lim _ _) hy (by assumption)) | (unfold W; decide)) (by first | assumption | exact W_lim _ _ | (exact row_w (by assumption) (W_lim _ _) hy (by assumption)) | (unfold W; decide)), ?_⟩
  intro x7
  intro h5
  have wh5 := h5.h; have wlh5 := h5.l
  refine ⟨limb_Add x7.2 (x5.1 + x6.2) (0 : Int) (by first | assumption | exact W_lim _ _ | (exact row_w (by assumption) (W_lim _ _) hy (by assumption)) | (unfold W; decide)) (by first | assumption | exact W_lim _ _ | (exact row_w (by assumption) (W_lim _ _) hy (by assumption)) | (unfold W; decide)), wit_add (by first | assumption | exact W_lim _ _ | (exact row_w (by assumption) (W_lim _ _) hy (by assumption)) | (unfold W; decide)) (by first | assumption | exact W_lim _ _ | (exact row_w (by assumption) (W_lim _ _) hy (by assumption)) | (unfold W; decide)), ?_⟩
  intro x8
  intro h6
  have wh6 := h6.s
  refine ⟨⟨(), trivial, congrArg (Value.int .u64) (wrap_W (row_w (by assumption) (W_lim _ _) hy (by assumption)))⟩, ?_⟩
  intro _
  intro _
  refine ⟨rfl, rfl, ?_⟩
  refine ⟨rfl, ?_⟩
  refine ⟨limb_Mul (lim a 3) y (by first | assumption | exact W_lim _ _ | (exact row_w (by assumption) (W_lim _ _) hy (by assumption)) | (unfold W; decide)) (by first | assumption | exact W_lim _ _ | (exact row_w (by assumption) (W_lim _ _) hy (by assumption)) | (unfold W; decide)), wit_mul (by first | assumption | exact W_lim _ _ | (exact row_w (by assumption) (W_lim _ _) hy (by assumption)) | (unfold W; decide)) (by first | assumption | exact W_lim _ _ | (exact row_w (by assumption) (W_lim _ _) hy (by assumption)) | (unfold W; decide)), ?_⟩
  intro x9
  intro h7
  have wh7 := h7.h; have wlh7 := h7.l
  refine ⟨limb_Add x9.2 (x7.1 + x8.2) (0 : Int) (by first | assumption | exact W_lim _ _ | (exact row_w (by assumption) (W_lim _ _) hy (by assumption)) | (unfold W; decide)) (by first | assumption | exact W_lim _ _ | (exact row_w (by assumption) (W_lim _ _) hy (by assumption)) | (unfold W; decide)), wit_add (by first | assumption | exact W_lim _ _ | (exact row_w (by assumption) (W_lim _ _) hy (by assumption)) | (unfold W; decide)) (by first | assumption | exact W_lim _ _ | (exact row_w (by assumption) (W_lim _ _) hy (by assumption)) | (unfold W; decide)), ?_⟩
  intro x10
  intro h8
  have wh8 := h8.s
  refine ⟨⟨(), trivial, congrArg (Value.int .u64) (wrap_W (row_w (by assumption) (W_lim _ _) hy (by assumption)))⟩, ?_⟩
  intro _
  intro _
  refine ⟨rfl, rfl, ?_⟩
  refine ⟨rfl, ?_⟩
  refine ⟨rfl, rfl, rfl, rfl, rfl, rfl, rfl, rfl, rfl, rfl, rfl, rfl, rfl, rfl, rfl, rfl, ?_⟩
  refine ⟨rfl, rfl, rfl, rfl, rfl, rfl, rfl, rfl, ?_⟩
  exact fin2r (row_fin (by assumption) (by assumption) (by assumption) (by assumption) (by assumption) (by assumption) (by assumption) (by assumption)) (R4_num4 (by assumption) (by assumption) (by assumption) (by assumption)) (vI_num4 (by assumption) (by assumption) (by assumption) (by assumption))

def huge_Mul_C : List Value → List Slot → Ctr := fun vs hs => ⟨Int × Int, fun zx => .tuple #[vI zx.1, .int .i64 zx.2], fun _ => hs, fun zx => R4 zx.1 ∧ zx = hMul (num (varg vs 1)) (num (varg vs 2))⟩
set_option maxRecDepth 100000 in
theorem huge_Mul_vc (a : Int) (b : Int) : codeW Try.prog 49 none 2000 none (bodyOf Try.f46) (.reg [.sem [.nw 0], .sem [.nw 1], .sem [.nw 2], .sem []] (.reg [.sem [.nw 3]] (.reg [.sem []] (.reg [.sem [], .sem []] (.condT (.reg [.sem [], .sem [.rd 3], .sem []] (.condF (.reg [.sem [.rd 0, .rd 0, .rd 0, .rd 0], .sem [], .sem [], .sem [.rd 1], .callr [] huge_row_C, .sem [], .sem [], .sem [], .sem [.nw 4], .sem [.wr 4, .wr 4, .wr 4, .wr 4], .sem []] (.reg [.sem [], .sem [.rd 3], .sem [], .sem [.rd 3], .sem [], .sem [.rd 3], .sem [], .sem [.rd 4, .rd 4, .rd 4, .rd 4], .callr [] huge_Add_C, .sem [], .sem [], .sem [], .sem [.nw 5], .sem [.wr 5, .wr 5, .wr 5, .wr 5], .sem []] (.caseP (fun s => (ci (s.fr 9)) != (0 : Int)) (.reg [.sem [], .gen [] (one (.bool true)), .sem [], .no, .no, .sem []] (.condT (.reg [.sem [], .sem [.wr 2, .wr 2, .wr 2, .wr 2], .sem []] (.done)))) (.reg [.sem [], .gen [] (one (.bool false)), .sem [], .sem [], .sem [], .sem []] (.cond (.reg [.sem [], .sem [.wr 2, .wr 2, .wr 2, .wr 2], .sem []] (.done)) (.reg [.sem [.rd 5, .rd 5, .rd 5, .rd 5], .sem [.wr 3, .wr 3, .wr 3, .wr 3]] (.reg [.sem [], .sem [], .sem []] (.reg [.sem [], .sem []] (.condT (.reg [.sem [], .sem [.rd 3], .sem []] (.cond (.reg [.sem [], .sem [.wr 2, .wr 2, .wr 2, .wr 2], .sem []] (.done)) (.reg [.sem [.rd 0, .rd 0, .rd 0, .rd 0], .sem [], .sem [], .sem [.rd 1], .callr [] huge_row_C, .sem [], .sem [], .sem [], .sem [.nw 4], .sem [.wr 4, .wr 4, .wr 4, .wr 4], .sem []] (.reg [.sem [], .sem [.rd 3], .sem [], .sem [.rd 3], .sem [], .sem [.rd 3], .gen [] (fun vs => one (vI (num (.agg #[varg vs 0, varg vs 1, varg vs 2, varg vs 3]))) vs), .sem [.rd 4, .rd 4, .rd 4, .rd 4], .callr [] huge_Add_C, .sem [], .sem [], .sem [], .sem [.nw 5], .sem [.wr 5, .wr 5, .wr 5, .wr 5], .sem []] (.caseP (fun s => (ci (s.fr 9)) != (0 : Int)) (.reg [.sem [], .gen [] (one (.bool true)), .sem [], .no, .no, .sem []] (.condT (.reg [.sem [], .sem [.wr 2, .wr 2, .wr 2, .wr 2], .sem []] (.done)))) (.reg [.sem [], .gen [] (one (.bool false)), .sem [], .sem [], .sem [], .sem []] (.cond (.reg [.sem [], .sem [.wr 2, .wr 2, .wr 2, .wr 2], .sem []] (.done)) (.reg [.sem [.rd 5, .rd 5, .rd 5, .rd 5], .sem [.wr 3, .wr 3, .wr 3, .wr 3]] (.reg [.sem [], .sem [], .sem []] (.reg [.sem [], .sem []] (.condT (.reg [.sem [], .sem [.rd 3], .sem []] (.cond (.reg [.sem [], .sem [.wr 2, .wr 2, .wr 2, .wr 2], .sem []] (.done)) (.reg [.sem [.rd 0, .rd 0, .rd 0, .rd 0], .sem [], .sem [], .sem [.rd 1], .callr [] huge_row_C, .sem [], .sem [], .sem [], .sem [.nw 4], .sem [.wr 4, .wr 4, .wr 4, .wr 4], .sem []] (.reg [.sem [], .sem [.rd 3], .sem [], .sem [.rd 3], .sem [], .sem [.rd 3], .gen [] (fun vs => one (vI (num (.agg #[varg vs 0, varg vs 1, varg vs 2, varg vs 3]))) vs), .sem [.rd 4, .rd 4, .rd 4, .rd 4], .callr [] huge_Add_C, .sem [], .sem [], .sem [], .sem [.nw 5], .sem [.wr 5, .wr 5, .wr 5, .wr 5], .sem []] (.caseP (fun s => (ci (s.fr 9)) != (0 : Int)) (.reg [.sem [], .gen [] (one (.bool true)), .sem [], .no, .no, .sem []] (.condT (.reg [.sem [], .sem [.wr 2, .wr 2, .wr 2, .wr 2], .sem []] (.done)))) (.reg [.sem [], .gen [] (one (.bool false)), .sem [], .sem [], .sem [], .sem []] (.cond (.reg [.sem [], .sem [.wr 2, .wr 2, .wr 2, .wr 2], .sem []] (.done)) (.reg [.sem [.rd 5, .rd 5, .rd 5, .rd 5], .sem [.wr 3, .wr 3, .wr 3, .wr 3]] (.reg [.sem [], .sem [], .sem []] (.reg [.sem [], .sem []] (.condT (.reg [.sem [], .sem [.rd 3], .sem []] (.cond (.reg [.sem [], .sem [.wr 2, .wr 2, .wr 2, .wr 2], .sem []] (.done)) (.reg [.sem [.rd 0, .rd 0, .rd 0, .rd 0], .sem [], .sem [], .sem [.rd 1], .callr [] huge_row_C, .sem [], .sem [], .sem [], .sem [.nw 4], .sem [.wr 4, .wr 4, .wr 4, .wr 4], .sem []] (.reg [.sem [], .sem [.rd 3], .sem [], .sem [.rd 3], .sem [], .sem [.rd 3], .gen [] (fun vs => one (vI (num (.agg #[varg vs 0, varg vs 1, varg vs 2, varg vs 3]))) vs), .sem [.rd 4, .rd 4, .rd 4, .rd 4], .callr [] huge_Add_C, .sem [], .sem [], .sem [], .sem [.nw 5], .sem [.wr 5, .wr 5, .wr 5, .wr 5], .sem []] (.caseP (fun s => (ci (s.fr 9)) != (0 : Int)) (.reg [.sem [], .gen [] (one (.bool true)), .sem [], .no, .no, .sem []] (.condT (.reg [.sem [], .sem [.wr 2, .wr 2, .wr 2, .wr 2], .sem []] (.done)))) (.reg [.sem [], .gen [] (one (.bool false)), .sem [], .sem [], .sem [], .sem []] (.cond (.reg [.sem [], .sem [.wr 2, .wr 2, .wr 2, .wr 2], .sem []] (.done)) (.reg [.sem [.rd 5, .rd 5, .rd 5, .rd 5], .sem [.wr 3, .wr 3, .wr 3, .wr 3]] (.reg [.sem [], .sem [], .sem []] (.reg [.sem [], .sem []] (.condF (.reg [.sem [.rd 3, .rd 3, .rd 3, .rd 3], .sem [.wr 2, .wr 2, .wr 2, .wr 2], .sem []] (.done)))))))))))))))))))))))))))))))))))))))))))))))))))
    (init #[vI a, vI b] []) (finW Try.prog Try.f46 [.rd 2, .rd 2, .rd 2, .rd 2] [] (X := Int × Int) (fun zx => .tuple #[vI zx.1, .int .i64 zx.2]) (fun zx => []) (fun zx => (R4 zx.1 ∧ zx = hMul (num (vI a)) (num (vI b))))) =
    (∀ b1 : Nat, ∀ b2 : Nat, ∀ b3 : Nat, ∀ b4 : Nat, (true = true) ∧ b4 = b4 ∧ (none : Option Nat) = none ∧ (false = false) ∧ b1 = b1 ∧ (none : Option Nat) = none ∧ b1 = b1 ∧ (none : Option Nat) = none ∧ b1 = b1 ∧ (none : Option Nat) = none ∧ b1 = b1 ∧ (none : Option Nat) = none ∧ b2 = b2 ∧ (none : Option Nat) = none ∧ (CallT Try.prog 84 #[vI a, .int .u64 (lim b 3)] [] (Int × Int) (fun zx => .tuple #[vI zx.1, .int .u64 zx.2]) (fun _ => []) (fun zx => R4 zx.1 ∧ zx = hRow (num (vI a)) (lim b 3))) ∧ (∃ zx : Int × Int, (fun zx => R4 zx.1 ∧ zx = hRow (num (vI a)) (lim b 3)) zx) ∧ ∀ x5 : Int × Int, (R4 x5.1 ∧ x5 = hRow (num (vI a)) (lim b 3)) → ∀ b6 : Nat, b6 = b6 ∧ (none : Option Nat) = none ∧ b6 = b6 ∧ (none : Option Nat) = none ∧ b6 = b6 ∧ (none : Option Nat) = none ∧ b6 = b6 ∧ (none : Option Nat) = none ∧ b4 = b4 ∧ (none : Option Nat) = none ∧ b4 = b4 ∧ (none : Option Nat) = none ∧ b4 = b4 ∧ (none : Option Nat) = none ∧ b6 = b6 ∧ (none : Option Nat) = none ∧ b6 = b6 ∧ (none : Option Nat) = none ∧ b6 = b6 ∧ (none : Option Nat) = none ∧ b6 = b6 ∧ (none : Option Nat) = none ∧ (CallT Try.prog 47 #[.agg #[.int .u64 0, .int .u64 0, .int .u64 0, .int .u64 0], vI x5.1] [] (Int × Int) (fun zx => .tuple #[vI zx.1, .int .i64 zx.2]) (fun _ => []) (fun zx => R4 zx.1 ∧ zx = hAdd (num (vI (0 : Int))) (num (vI x5.1)))) ∧ (∃ zx : Int × Int, (fun zx => R4 zx.1 ∧ zx = hAdd (num (vI (0 : Int))) (num (vI x5.1))) zx) ∧ ∀ x7 : Int × Int, (R4 x7.1 ∧ x7 = hAdd (num (vI (0 : Int))) (num (vI x5.1))) → ∀ b8 : Nat, b8 = b8 ∧ (none : Option Nat) = none ∧ b8 = b8 ∧ (none : Option Nat) = none ∧ b8 = b8 ∧ (none : Option Nat) = none ∧ b8 = b8 ∧ (none : Option Nat) = none ∧ ((x5.2 != (0 : Int)) = true → (∃ _ : Unit, True ∧ Value.bool (x5.2 != (0 : Int)) = .bool true) ∧ ∀ _ : Unit, (True) → true = !false ∧ true = !false ∧ (true = true) ∧ b3 = b3 ∧ (none : Option Nat) = none ∧ b3 = b3 ∧ (none : Option Nat) = none ∧ b3 = b3 ∧ (none : Option Nat) = none ∧ b3 = b3 ∧ (none : Option Nat) = none ∧ b3 = b3 ∧ (none : Option Nat) = none ∧ b3 = b3 ∧ (none : Option Nat) = none ∧ b3 = b3 ∧ (none : Option Nat) = none ∧ b3 = b3 ∧ (none : Option Nat) = none ∧ ∃ zx : Int × Int, (R4 zx.1 ∧ zx = hMul (num (vI a)) (num (vI b))) ∧ Value.tuple #[.agg #[.int .u64 0, .int .u64 0, .int .u64 0, .int .u64 0], .int .i64 2] = .tuple #[vI zx.1, .int .i64 zx.2] ∧ True) ∧ ((x5.2 != (0 : Int)) = false → (∃ _ : Unit, True ∧ Value.bool (x5.2 != (0 : Int)) = .bool false) ∧ ∀ _ : Unit, (True) → false = false ∧ false = false ∧ ((x7.2 != (0 : Int)) = true → b3 = b3 ∧ (none : Option Nat) = none ∧ b3 = b3 ∧ (none : Option Nat) = none ∧ b3 = b3 ∧ (none : Option Nat) = none ∧ b3 = b3 ∧ (none : Option Nat) = none ∧ b3 = b3 ∧ (none : Option Nat) = none ∧ b3 = b3 ∧ (none : Option Nat) = none ∧ b3 = b3 ∧ (none : Option Nat) = none ∧ b3 = b3 ∧ (none : Option Nat) = none ∧ ∃ zx : Int × Int, (R4 zx.1 ∧ zx = hMul (num (vI a)) (num (vI b))) ∧ Value.tuple #[.agg #[.int .u64 0, .int .u64 0, .int .u64 0, .int .u64 0], .int .i64 2] = .tuple #[vI zx.1, .int .i64 zx.2] ∧ True) ∧ ((x7.2 != (0 : Int)) = false → b8 = b8 ∧ (none : Option Nat) = none ∧ b8 = b8 ∧ (none : Option Nat) = none ∧ b8 = b8 ∧ (none : Option Nat) = none ∧ b8 = b8 ∧ (none : Option Nat) = none ∧ b4 = b4 ∧ (none : Option Nat) = none ∧ b4 = b4 ∧ (none : Option Nat) = none ∧ b4 = b4 ∧ (none : Option Nat) = none ∧ b4 = b4 ∧ (none : Option Nat) = none ∧ (true = true) ∧ b4 = b4 ∧ (none : Option Nat) = none ∧ (((lim x7.1 3) != (0 : Int)) = true → b3 = b3 ∧ (none : Option Nat) = none ∧ b3 = b3 ∧ (none : Option Nat) = none ∧ b3 = b3 ∧ (none : Option Nat) = none ∧ b3 = b3 ∧ (none : Option Nat) = none ∧ b3 = b3 ∧ (none : Option Nat) = none ∧ b3 = b3 ∧ (none : Option Nat) = none ∧ b3 = b3 ∧ (none : Option Nat) = none ∧ b3 = b3 ∧ (none : Option Nat) = none ∧ ∃ zx : Int × Int, (R4 zx.1 ∧ zx = hMul (num (vI a)) (num (vI b))) ∧ Value.tuple #[.agg #[.int .u64 0, .int .u64 0, .int .u64 0, .int .u64 0], .int .i64 2] = .tuple #[vI zx.1, .int .i64 zx.2] ∧ True) ∧ (((lim x7.1 3) != (0 : Int)) = false → b1 = b1 ∧ (none : Option Nat) = none ∧ b1 = b1 ∧ (none : Option Nat) = none ∧ b1 = b1 ∧ (none : Option Nat) = none ∧ b1 = b1 ∧ (none : Option Nat) = none ∧ b2 = b2 ∧ (none : Option Nat) = none ∧ (CallT Try.prog 84 #[vI a, .int .u64 (lim b 2)] [] (Int × Int) (fun zx => .tuple #[vI zx.1, .int .u64 zx.2]) (fun _ => []) (fun zx => R4 zx.1 ∧ zx = hRow (num (vI a)) (lim b 2))) ∧ (∃ zx : Int × Int, (fun zx => R4 zx.1 ∧ zx = hRow (num (vI a)) (lim b 2)) zx) ∧ ∀ x9 : Int × Int, (R4 x9.1 ∧ x9 = hRow (num (vI a)) (lim b 2)) → ∀ b10 : Nat, b10 = b10 ∧ (none : Option Nat) = none ∧ b10 = b10 ∧ (none : Option Nat) = none ∧ b10 = b10 ∧ (none : Option Nat) = none ∧ b10 = b10 ∧ (none : Option Nat) = none ∧ b4 = b4 ∧ (none : Option Nat) = none ∧ b4 = b4 ∧ (none : Option Nat) = none ∧ b4 = b4 ∧ (none : Option Nat) = none ∧ (∃ _ : Unit, True ∧ Value.agg #[.int .u64 0, .int .u64 (lim x7.1 0), .int .u64 (lim x7.1 1), .int .u64 (lim x7.1 2)] = vI (num (.agg #[.int .u64 0, .int .u64 (lim x7.1 0), .int .u64 (lim x7.1 1), .int .u64 (lim x7.1 2)]))) ∧ ∀ _ : Unit, (True) → b10 = b10 ∧ (none : Option Nat) = none ∧ b10 = b10 ∧ (none : Option Nat) = none ∧ b10 = b10 ∧ (none : Option Nat) = none ∧ b10 = b10 ∧ (none : Option Nat) = none ∧ (CallT Try.prog 47 #[vI (num (.agg #[.int .u64 0, .int .u64 (lim x7.1 0), .int .u64 (lim x7.1 1), .int .u64 (lim x7.1 2)])), vI x9.1] [] (Int × Int) (fun zx => .tuple #[vI zx.1, .int .i64 zx.2]) (fun _ => []) (fun zx => R4 zx.1 ∧ zx = hAdd (num (vI (num (.agg #[.int .u64 0, .int .u64 (lim x7.1 0), .int .u64 (lim x7.1 1), .int .u64 (lim x7.1 2)])))) (num (vI x9.1)))) ∧ (∃ zx : Int × Int, (fun zx => R4 zx.1 ∧ zx = hAdd (num (vI (num (.agg #[.int .u64 0, .int .u64 (lim x7.1 0), .int .u64 (lim x7.1 1), .int .u64 (lim x7.1 2)])))) (num (vI x9.1))) zx) ∧ ∀ x11 : Int × Int, (R4 x11.1 ∧ x11 = hAdd (num (vI (num (.agg #[.int .u64 0, .int .u64 (lim x7.1 0), .int .u64 (lim x7.1 1), .int .u64 (lim x7.1 2)])))) (num (vI x9.1))) → ∀ b12 : Nat, b12 = b12 ∧ (none : Option Nat) = none ∧ b12 = b12 ∧ (none : Option Nat) = none ∧ b12 = b12 ∧ (none : Option Nat) = none ∧ b12 = b12 ∧ (none : Option Nat) = none ∧ ((x9.2 != (0 : Int)) = true → (∃ _ : Unit, True ∧ Value.bool (x9.2 != (0 : Int)) = .bool true) ∧ ∀ _ : Unit, (True) → true = !false ∧ true = !false ∧ (true = true) ∧ b3 = b3 ∧ (none : Option Nat) = none ∧ b3 = b3 ∧ (none : Option Nat) = none ∧ b3 = b3 ∧ (none : Option Nat) = none ∧ b3 = b3 ∧ (none : Option Nat) = none ∧ b3 = b3 ∧ (none : Option Nat) = none ∧ b3 = b3 ∧ (none : Option Nat) = none ∧ b3 = b3 ∧ (none : Option Nat) = none ∧ b3 = b3 ∧ (none : Option Nat) = none ∧ ∃ zx : Int × Int, (R4 zx.1 ∧ zx = hMul (num (vI a)) (num (vI b))) ∧ Value.tuple #[.agg #[.int .u64 0, .int .u64 0, .int .u64 0, .int .u64 0], .int .i64 2] = .tuple #[vI zx.1, .int .i64 zx.2] ∧ True) ∧ ((x9.2 != (0 : Int)) = false → (∃ _ : Unit, True ∧ Value.bool (x9.2 != (0 : Int)) = .bool false) ∧ ∀ _ : Unit, (True) → false = false ∧ false = false ∧ ((x11.2 != (0 : Int)) = true → b3 = b3 ∧ (none : Option Nat) = none ∧ b3 = b3 ∧ (none : Option Nat) = none ∧ b3 = b3 ∧ (none : Option Nat) = none ∧ b3 = b3 ∧ (none : Option Nat) = none ∧ b3 = b3 ∧ (none : Option Nat) = none ∧ b3 = b3 ∧ (none : Option Nat) = none ∧ b3 = b3 ∧ (none : Option Nat) = none ∧ b3 = b3 ∧ (none : Option Nat) = none ∧ ∃ zx : Int × Int, (R4 zx.1 ∧ zx = hMul (num (vI a)) (num (vI b))) ∧ Value.tuple #[.agg #[.int .u64 0, .int .u64 0, .int .u64 0, .int .u64 0], .int .i64 2] = .tuple #[vI zx.1, .int .i64 zx.2] ∧ True) ∧ ((x11.2 != (0 : Int)) = false → b12 = b12 ∧ (none : Option Nat) = none ∧ b12 = b12 ∧ (none : Option Nat) = none ∧ b12 = b12 ∧ (none : Option Nat) = none ∧ b12 = b12 ∧ (none : Option Nat) = none ∧ b4 = b4 ∧ (none : Option Nat) = none ∧ b4 = b4 ∧ (none : Option Nat) = none ∧ b4 = b4 ∧ (none : Option Nat) = none ∧ b4 = b4 ∧ (none : Option Nat) = none ∧ (true = true) ∧ b4 = b4 ∧ (none : Option Nat) = none ∧ (((lim x11.1 3) != (0 : Int)) = true → b3 = b3 ∧ (none : Option Nat) = none ∧ b3 = b3 ∧ (none : Option Nat) = none ∧ b3 = b3 ∧ (none : Option Nat) = none ∧ b3 = b3 ∧ (none : Option Nat) = none ∧ b3 = b3 ∧ (none : Option Nat) = none ∧ b3 = b3 ∧ (none : Option Nat) = none ∧ b3 = b3 ∧ (none : Option Nat) = none ∧ b3 = b3 ∧ (none : Option Nat) = none ∧ ∃ zx : Int × Int, (R4 zx.1 ∧ zx = hMul (num (vI a)) (num (vI b))) ∧ Value.tuple #[.agg #[.int .u64 0, .int .u64 0, .int .u64 0, .int .u64 0], .int .i64 2] = .tuple #[vI zx.1, .int .i64 zx.2] ∧ True) ∧ (((lim x11.1 3) != (0 : Int)) = false → b1 = b1 ∧ (none : Option Nat) = none ∧ b1 = b1 ∧ (none : Option Nat) = none ∧ b1 = b1 ∧ (none : Option Nat) = none ∧ b1 = b1 ∧ (none : Option Nat) = none ∧ b2 = b2 ∧ (none : Option Nat) = none ∧ (CallT Try.prog 84 #[vI a, .int .u64 (lim b 1)] [] (Int × Int) (fun zx => .tuple #[vI zx.1, .int .u64 zx.2]) (fun _ => []) (fun zx => R4 zx.1 ∧ zx = hRow (num (vI a)) (lim b 1))) ∧ (∃ zx : Int × Int, (fun zx => R4 zx.1 ∧ zx = hRow (num (vI a)) (lim b 1)) zx) ∧ ∀ x13 : Int × Int, (R4 x13.1 ∧ x13 = hRow (num (vI a)) (lim b 1)) → ∀ b14 : Nat, b14 = b14 ∧ (none : Option Nat) = none ∧ b14 = b14 ∧ (none : Option Nat) = none ∧ b14 = b14 ∧ (none : Option Nat) = none ∧ b14 = b14 ∧ (none : Option Nat) = none ∧ b4 = b4 ∧ (none : Option Nat) = none ∧ b4 = b4 ∧ (none : Option Nat) = none ∧ b4 = b4 ∧ (none : Option Nat) = none ∧ (∃ _ : Unit, True ∧ Value.agg #[.int .u64 0, .int .u64 (lim x11.1 0), .int .u64 (lim x11.1 1), .int .u64 (lim x11.1 2)] = vI (num (.agg #[.int .u64 0, .int .u64 (lim x11.1 0), .int .u64 (lim x11.1 1), .int .u64 (lim x11.1 2)]))) ∧ ∀ _ : Unit, (True) → b14 = b14 ∧ (none : Option Nat) = none ∧ b14 = b14 ∧ (none : Option Nat) = none ∧ b14 = b14 ∧ (none : Option Nat) = none ∧ b14 = b14 ∧ (none : Option Nat) = none ∧ (CallT Try.prog 47 #[vI (num (.agg #[.int .u64 0, .int .u64 (lim x11.1 0), .int .u64 (lim x11.1 1), .int .u64 (lim x11.1 2)])), vI x13.1] [] (Int × Int) (fun zx => .tuple #[vI zx.1, .int .i64 zx.2]) (fun _ => []) (fun zx => R4 zx.1 ∧ zx = hAdd (num (vI (num (.agg #[.int .u64 0, .int .u64 (lim x11.1 0), .int .u64 (lim x11.1 1), .int .u64 (lim x11.1 2)])))) (num (vI x13.1)))) ∧ (∃ zx : Int × Int, (fun zx => R4 zx.1 ∧ zx = hAdd (num (vI (num (.agg #[.int .u64 0, .int .u64 (lim x11.1 0), .int .u64 (lim x11.1 1), .int .u64 (lim x11.1 2)])))) (num (vI x13.1))) zx) ∧ ∀ x15 : Int × Int, (R4 x15.1 ∧ x15 = hAdd (num (vI (num (.agg #[.int .u64 0, .int .u64 (lim x11.1 0), .int .u64 (lim x11.1 1), .int .u64 (lim x11.1 2)])))) (num (vI x13.1))) → ∀ b16 : Nat, b16 = b16 ∧ (none : Option Nat) = none ∧ b16 = b16 ∧ (none : Option Nat) = none ∧ b16 = b16 ∧ (none : Option Nat) = none ∧ b16 = b16 ∧ (none : Option Nat) = none ∧ ((x13.2 != (0 : Int)) = true → (∃ _ : Unit, True ∧ Value.bool (x13.2 != (0 : Int)) = .bool true) ∧ ∀ _ : Unit, (True) → true = !false ∧ true = !false ∧ (true = true) ∧ b3 = b3 ∧ (none : Option Nat) = none ∧ b3 = b3 ∧ (none : Option Nat) = none ∧ b3 = b3 ∧ (none : Option Nat) = none ∧ b3 = b3 ∧ (none : Option Nat) = none ∧ b3 = b3 ∧ (none : Option Nat) = none ∧ b3 = b3 ∧ (none : Option Nat) = none ∧ b3 = b3 ∧ (none : Option Nat) = none ∧ b3 = b3 ∧ (none : Option Nat) = none ∧ ∃ zx : Int × Int, (R4 zx.1 ∧ zx = hMul (num (vI a)) (num (vI b))) ∧ Value.tuple #[.agg #[.int .u64 0, .int .u64 0, .int .u64 0, .int .u64 0], .int .i64 2] = .tuple #[vI zx.1, .int .i64 zx.2] ∧ True) ∧ ((x13.2 != (0 : Int)) = false → (∃ _ : Unit, True ∧ Value.bool (x13.2 != (0 : Int)) = .bool false) ∧ ∀ _ : Unit, (True) → false = false ∧ false = false ∧ ((x15.2 != (0 : Int)) = true → b3 = b3 ∧ (none : Option Nat) = none ∧ b3 = b3 ∧ (none : Option Nat) = none ∧ b3 = b3 ∧ (none : Option Nat) = none ∧ b3 = b3 ∧ (none : Option Nat) = none ∧ b3 = b3 ∧ (none : Option Nat) = none ∧ b3 = b3 ∧ (none : Option Nat) = none ∧ b3 = b3 ∧ (none : Option Nat) = none ∧ b3 = b3 ∧ (none : Option Nat) = none ∧ ∃ zx : Int × Int, (R4 zx.1 ∧ zx = hMul (num (vI a)) (num (vI b))) ∧ Value.tuple #[.agg #[.int .u64 0, .int .u64 0, .int .u64 0, .int .u64 0], .int .i64 2] = .tuple #[vI zx.1, .int .i64 zx.2] ∧ True) ∧ ((x15.2 != (0 : Int)) = false → b16 = b16 ∧ (none : Option Nat) = none ∧ b16 = b16 ∧ (none : Option Nat) = none ∧ b16 = b16 ∧ (none : Option Nat) = none ∧ b16 = b16 ∧ (none : Option Nat) = none ∧ b4 = b4 ∧ (none : Option Nat) = none ∧ b4 = b4 ∧ (none : Option Nat) = none ∧ b4 = b4 ∧ (none : Option Nat) = none ∧ b4 = b4 ∧ (none : Option Nat) = none ∧ (true = true) ∧ b4 = b4 ∧ (none : Option Nat) = none ∧ (((lim x15.1 3) != (0 : Int)) = true → b3 = b3 ∧ (none : Option Nat) = none ∧ b3 = b3 ∧ (none : Option Nat) = none ∧ b3 = b3 ∧ (none : Option Nat) = none ∧ b3 = b3 ∧ (none : Option Nat) = none ∧ b3 = b3 ∧ (none : Option Nat) = none ∧ b3 = b3 ∧ (none : Option Nat) = none ∧ b3 = b3 ∧ (none : Option Nat) = none ∧ b3 = b3 ∧ (none : Option Nat) = none ∧ ∃ zx : Int × Int, (R4 zx.1 ∧ zx = hMul (num (vI a)) (num (vI b))) ∧ Value.tuple #[.agg #[.int .u64 0, .int .u64 0, .int .u64 0, .int .u64 0], .int .i64 2] = .tuple #[vI zx.1, .int .i64 zx.2] ∧ True) ∧ (((lim x15.1 3) != (0 : Int)) = false → b1 = b1 ∧ (none : Option Nat) = none ∧ b1 = b1 ∧ (none : Option Nat) = none ∧ b1 = b1 ∧ (none : Option Nat) = none ∧ b1 = b1 ∧ (none : Option Nat) = none ∧ b2 = b2 ∧ (none : Option Nat) = none ∧ (CallT Try.prog 84 #[vI a, .int .u64 (lim b 0)] [] (Int × Int) (fun zx => .tuple #[vI zx.1, .int .u64 zx.2]) (fun _ => []) (fun zx => R4 zx.1 ∧ zx = hRow (num (vI a)) (lim b 0))) ∧ (∃ zx : Int × Int, (fun zx => R4 zx.1 ∧ zx = hRow (num (vI a)) (lim b 0)) zx) ∧ ∀ x17 : Int × Int, (R4 x17.1 ∧ x17 = hRow (num (vI a)) (lim b 0)) → ∀ b18 : Nat, b18 = b18 ∧ (none : Option Nat) = none ∧ b18 = b18 ∧ (none : Option Nat) = none ∧ b18 = b18 ∧ (none : Option Nat) = none ∧ b18 = b18 ∧ (none : Option Nat) = none ∧ b4 = b4 ∧ (none : Option Nat) = none ∧ b4 = b4 ∧ (none : Option Nat) = none ∧ b4 = b4 ∧ (none : Option Nat) = none ∧ (∃ _ : Unit, True ∧ Value.agg #[.int .u64 0, .int .u64 (lim x15.1 0), .int .u64 (lim x15.1 1), .int .u64 (lim x15.1 2)] = vI (num (.agg #[.int .u64 0, .int .u64 (lim x15.1 0), .int .u64 (lim x15.1 1), .int .u64 (lim x15.1 2)]))) ∧ ∀ _ : Unit, (True) → b18 = b18 ∧ (none : Option Nat) = none ∧ b18 = b18 ∧ (none : Option Nat) = none ∧ b18 = b18 ∧ (none : Option Nat) = none ∧ b18 = b18 ∧ (none : Option Nat) = none ∧ (CallT Try.prog 47 #[vI (num (.agg #[.int .u64 0, .int .u64 (lim x15.1 0), .int .u64 (lim x15.1 1), .int .u64 (lim x15.1 2)])), vI x17.1] [] (Int × Int) (fun zx => .tuple #[vI zx.1, .int .i64 zx.2]) (fun _ => []) (fun zx => R4 zx.1 ∧ zx = hAdd (num (vI (num (.agg #[.int .u64 0, .int .u64 (lim x15.1 0), .int .u64 (lim x15.1 1), .int .u64 (lim x15.1 2)])))) (num (vI x17.1)))) ∧ (∃ zx : Int × Int, (fun zx => R4 zx.1 ∧ zx = hAdd (num (vI (num (.agg #[.int .u64 0, .int .u64 (lim x15.1 0), .int .u64 (lim x15.1 1), .int .u64 (lim x15.1 2)])))) (num (vI x17.1))) zx) ∧ ∀ x19 : Int × Int, (R4 x19.1 ∧ x19 = hAdd (num (vI (num (.agg #[.int .u64 0, .int .u64 (lim x15.1 0), .int .u64 (lim x15.1 1), .int .u64 (lim x15.1 2)])))) (num (vI x17.1))) → ∀ b20 : Nat, b20 = b20 ∧ (none : Option Nat) = none ∧ b20 = b20 ∧ (none : Option Nat) = none ∧ b20 = b20 ∧ (none : Option Nat) = none ∧ b20 = b20 ∧ (none : Option Nat) = none ∧ ((x17.2 != (0 : Int)) = true → (∃ _ : Unit, True ∧ Value.bool (x17.2 != (0 : Int)) = .bool true) ∧ ∀ _ : Unit, (True) → true = !false ∧ true = !false ∧ (true = true) ∧ b3 = b3 ∧ (none : Option Nat) = none ∧ b3 = b3 ∧ (none : Option Nat) = none ∧ b3 = b3 ∧ (none : Option Nat) = none ∧ b3 = b3 ∧ (none : Option Nat) = none ∧ b3 = b3 ∧ (none : Option Nat) = none ∧ b3 = b3 ∧ (none : Option Nat) = none ∧ b3 = b3 ∧ (none : Option Nat) = none ∧ b3 = b3 ∧ (none : Option Nat) = none ∧ ∃ zx : Int × Int, (R4 zx.1 ∧ zx = hMul (num (vI a)) (num (vI b))) ∧ Value.tuple #[.agg #[.int .u64 0, .int .u64 0, .int .u64 0, .int .u64 0], .int .i64 2] = .tuple #[vI zx.1, .int .i64 zx.2] ∧ True) ∧ ((x17.2 != (0 : Int)) = false → (∃ _ : Unit, True ∧ Value.bool (x17.2 != (0 : Int)) = .bool false) ∧ ∀ _ : Unit, (True) → false = false ∧ false = false ∧ ((x19.2 != (0 : Int)) = true → b3 = b3 ∧ (none : Option Nat) = none ∧ b3 = b3 ∧ (none : Option Nat) = none ∧ b3 = b3 ∧ (none : Option Nat) = none ∧ b3 = b3 ∧ (none : Option Nat) = none ∧ b3 = b3 ∧ (none : Option Nat) = none ∧ b3 = b3 ∧ (none : Option Nat) = none ∧ b3 = b3 ∧ (none : Option Nat) = none ∧ b3 = b3 ∧ (none : Option Nat) = none ∧ ∃ zx : Int × Int, (R4 zx.1 ∧ zx = hMul (num (vI a)) (num (vI b))) ∧ Value.tuple #[.agg #[.int .u64 0, .int .u64 0, .int .u64 0, .int .u64 0], .int .i64 2] = .tuple #[vI zx.1, .int .i64 zx.2] ∧ True) ∧ ((x19.2 != (0 : Int)) = false → b20 = b20 ∧ (none : Option Nat) = none ∧ b20 = b20 ∧ (none : Option Nat) = none ∧ b20 = b20 ∧ (none : Option Nat) = none ∧ b20 = b20 ∧ (none : Option Nat) = none ∧ b4 = b4 ∧ (none : Option Nat) = none ∧ b4 = b4 ∧ (none : Option Nat) = none ∧ b4 = b4 ∧ (none : Option Nat) = none ∧ b4 = b4 ∧ (none : Option Nat) = none ∧ (false = false) ∧ b4 = b4 ∧ (none : Option Nat) = none ∧ b4 = b4 ∧ (none : Option Nat) = none ∧ b4 = b4 ∧ (none : Option Nat) = none ∧ b4 = b4 ∧ (none : Option Nat) = none ∧ b3 = b3 ∧ (none : Option Nat) = none ∧ b3 = b3 ∧ (none : Option Nat) = none ∧ b3 = b3 ∧ (none : Option Nat) = none ∧ b3 = b3 ∧ (none : Option Nat) = none ∧ b3 = b3 ∧ (none : Option Nat) = none ∧ b3 = b3 ∧ (none : Option Nat) = none ∧ b3 = b3 ∧ (none : Option Nat) = none ∧ b3 = b3 ∧ (none : Option Nat) = none ∧ ∃ zx : Int × Int, (R4 zx.1 ∧ zx = hMul (num (vI a)) (num (vI b))) ∧ Value.tuple #[vI x19.1, .int .i64 0] = .tuple #[vI zx.1, .int .i64 zx.2] ∧ True)))))))))))) := by kernel_rfl
set_option maxRecDepth 100000 in
theorem huge_Mul (a : Int) (b : Int) (r_a : R4 a) (r_b : R4 b) : CallT Try.prog 46 #[vI a, vI b] [] (Int × Int) (fun zx => .tuple #[vI zx.1, .int .i64 zx.2]) (fun zx => []) (fun zx => (R4 zx.1 ∧ zx = hMul (num (vI a)) (num (vI b)))) := by
  refine call_of (c := bodyOf Try.f46) (n := 49) (fn := Try.f46) Try.mixed Try.func46 (by kernel_rfl) (by kernel_rfl) (by kernel_rfl) 2000 _ [.rd 2, .rd 2, .rd 2, .rd 2] [] rfl rfl (Eq.mpr (huge_Mul_vc a b) ?_)
  have n0 := Int.mul_nonneg r_a.1 (W_lim b 0).1
  have n1 := Int.mul_nonneg r_a.1 (W_lim b 1).1
  have n2 := Int.mul_nonneg r_a.1 (W_lim b 2).1
  have n3 := Int.mul_nonneg r_a.1 (W_lim b 3).1
  intro b1
  intro b2
  intro b3
  intro b4
  refine ⟨rfl, ?_⟩
  refine ⟨rfl, rfl, ?_⟩
  refine ⟨rfl, ?_⟩
  refine ⟨rfl, rfl, rfl, rfl, rfl, rfl, rfl, rfl, rfl, rfl, huge_row a (lim b 3) (by assumption) (by first | assumption | exact W_lim _ _ | (unfold W; decide)), ⟨hRow (num (vI a)) (lim b 3), hRow_R _ _, rfl⟩, ?_⟩
  intro x5
  intro h1
  obtain ⟨rh1_1, h1⟩ := h1
  try simp only [num_vI (n := a) (by assumption)] at h1
  intro b6
  refine ⟨rfl, rfl, rfl, rfl, rfl, rfl, rfl, rfl, ?_⟩
  refine ⟨rfl, rfl, rfl, rfl, rfl, rfl, rfl, rfl, rfl, rfl, rfl, rfl, rfl, rfl, huge_Add (0 : Int) x5.1 (by unfold R4; decide) (by assumption), ⟨hAdd (num (vI (0 : Int))) (num (vI x5.1)), hAdd_R (R4_num _) (R4_num _), rfl⟩, ?_⟩
  intro x7
  intro h2
  obtain ⟨rh2_1, h2⟩ := h2
  try simp only [num_vI (n := (0 : Int)) (by unfold R4; decide), num_vI (n := x5.1) (by assumption)] at h2
  intro b8
  refine ⟨rfl, rfl, rfl, rfl, rfl, rfl, rfl, rfl, ?_⟩
  refine ⟨fun h3 => ?_, fun h3 => ?_⟩
  · refine ⟨⟨(), trivial, congrArg Value.bool h3⟩, ?_⟩
    intro _
    intro _
    refine ⟨rfl, rfl, ?_⟩
    refine ⟨rfl, ?_⟩
    refine ⟨rfl, rfl, rfl, rfl, rfl, rfl, rfl, rfl, ?_⟩
    refine ⟨rfl, rfl, rfl, rfl, rfl, rfl, rfl, rfl, ?_⟩
    first
      | exact fin2 (mul_big r_b r_a (by have q := mul_over2 (o := 0) (x := x5) r_a (W_lim b 3) R4_zero (by assumption) (by assumption); omega)) R4_zero vI_zero
      | exact fin2 (mul_big r_b r_a (by have q := mul_over3 (o := 0) (x := x5) (y := x7) r_a (W_lim b 3) R4_zero (by assumption) (by assumption) (by assumption) (by omega) (by assumption); omega)) R4_zero vI_zero
  · refine ⟨⟨(), trivial, congrArg Value.bool h3⟩, ?_⟩
    intro _
    intro _
    refine ⟨rfl, rfl, ?_⟩
    refine ⟨fun h4 => ?_, fun h4 => ?_⟩
    · refine ⟨rfl, rfl, rfl, rfl, rfl, rfl, rfl, rfl, ?_⟩
      refine ⟨rfl, rfl, rfl, rfl, rfl, rfl, rfl, rfl, ?_⟩
      first
        | exact fin2 (mul_big r_b r_a (by have q := mul_over2 (o := 0) (x := x5) r_a (W_lim b 3) R4_zero (by assumption) (by assumption); omega)) R4_zero vI_zero
        | exact fin2 (mul_big r_b r_a (by have q := mul_over3 (o := 0) (x := x5) (y := x7) r_a (W_lim b 3) R4_zero (by assumption) (by assumption) (by assumption) (by omega) (by assumption); omega)) R4_zero vI_zero
    · have m3 := mul_step (o := 0) (x := x5) (y := x7) r_a (W_lim b 3) R4_zero (by assumption) (by assumption) (by assumption) (by omega) (by assumption)
      refine ⟨rfl, rfl, rfl, rfl, rfl, rfl, rfl, rfl, rfl, rfl, rfl, rfl, rfl, rfl, rfl, rfl, ?_⟩
      refine ⟨rfl, ?_⟩
      refine ⟨rfl, rfl, ?_⟩
      refine ⟨fun h5 => ?_, fun h5 => ?_⟩
      · refine ⟨rfl, rfl, rfl, rfl, rfl, rfl, rfl, rfl, ?_⟩
        refine ⟨rfl, rfl, rfl, rfl, rfl, rfl, rfl, rfl, ?_⟩
        first
          | exact fin2 (mul_big r_b r_a (by have q := mul_over1 (o := x7.1) r_a (W_lim b 2) (show R4 x7.1 by assumption) (by assumption); omega)) R4_zero vI_zero
      · refine ⟨rfl, rfl, rfl, rfl, rfl, rfl, rfl, rfl, rfl, rfl, huge_row a (lim b 2) (by assumption) (by first | assumption | exact W_lim _ _ | (unfold W; decide)), ⟨hRow (num (vI a)) (lim b 2), hRow_R _ _, rfl⟩, ?_⟩
        intro x9
        intro h6
        obtain ⟨rh6_1, h6⟩ := h6
        try simp only [num_vI (n := a) (by assumption)] at h6
        intro b10
        refine ⟨rfl, rfl, rfl, rfl, rfl, rfl, rfl, rfl, ?_⟩
        refine ⟨rfl, rfl, rfl, rfl, rfl, rfl, ⟨(), trivial, (vI_num4 (by first | assumption | exact W_lim _ _ | (unfold W; decide)) (by first | assumption | exact W_lim _ _ | (unfold W; decide)) (by first | assumption | exact W_lim _ _ | (unfold W; decide)) (by first | assumption | exact W_lim _ _ | (unfold W; decide))).symm⟩, ?_⟩
        intro _
        intro _
        refine ⟨rfl, rfl, rfl, rfl, rfl, rfl, rfl, rfl, huge_Add (num (.agg #[.int .u64 0, .int .u64 (lim x7.1 0), .int .u64 (lim x7.1 1), .int .u64 (lim x7.1 2)])) x9.1 (R4_num4 (by first | assumption | exact W_lim _ _ | (unfold W; decide)) (by first | assumption | exact W_lim _ _ | (unfold W; decide)) (by first | assumption | exact W_lim _ _ | (unfold W; decide)) (by first | assumption | exact W_lim _ _ | (unfold W; decide))) (by assumption), ⟨hAdd (num (vI (num (.agg #[.int .u64 0, .int .u64 (lim x7.1 0), .int .u64 (lim x7.1 1), .int .u64 (lim x7.1 2)])))) (num (vI x9.1)), hAdd_R (R4_num _) (R4_num _), rfl⟩, ?_⟩
        intro x11
        intro h7
        obtain ⟨rh7_1, h7⟩ := h7
        try simp only [num_vI (n := (num (.agg #[.int .u64 0, .int .u64 (lim x7.1 0), .int .u64 (lim x7.1 1), .int .u64 (lim x7.1 2)]))) (R4_num4 (by first | assumption | exact W_lim _ _ | (unfold W; decide)) (by first | assumption | exact W_lim _ _ | (unfold W; decide)) (by first | assumption | exact W_lim _ _ | (unfold W; decide)) (by first | assumption | exact W_lim _ _ | (unfold W; decide))), num_vI (n := x9.1) (by assumption)] at h7
        intro b12
        refine ⟨rfl, rfl, rfl, rfl, rfl, rfl, rfl, rfl, ?_⟩
        refine ⟨fun h8 => ?_, fun h8 => ?_⟩
        · refine ⟨⟨(), trivial, congrArg Value.bool h8⟩, ?_⟩
          intro _
          intro _
          refine ⟨rfl, rfl, ?_⟩
          refine ⟨rfl, ?_⟩
          refine ⟨rfl, rfl, rfl, rfl, rfl, rfl, rfl, rfl, ?_⟩
          refine ⟨rfl, rfl, rfl, rfl, rfl, rfl, rfl, rfl, ?_⟩
          first
            | exact fin2 (mul_big r_b r_a (by have q := mul_over2 (o := x7.1) (x := x9) r_a (W_lim b 2) (show R4 x7.1 by assumption) (by assumption) (by assumption); omega)) R4_zero vI_zero
            | exact fin2 (mul_big r_b r_a (by have q := mul_over3 (o := x7.1) (x := x9) (y := x11) r_a (W_lim b 2) (show R4 x7.1 by assumption) (by assumption) (by assumption) (by assumption) (mul_shift (show R4 x7.1 by assumption) (by assumption)) (by assumption); omega)) R4_zero vI_zero
        · refine ⟨⟨(), trivial, congrArg Value.bool h8⟩, ?_⟩
          intro _
          intro _
          refine ⟨rfl, rfl, ?_⟩
          refine ⟨fun h9 => ?_, fun h9 => ?_⟩
          · refine ⟨rfl, rfl, rfl, rfl, rfl, rfl, rfl, rfl, ?_⟩
            refine ⟨rfl, rfl, rfl, rfl, rfl, rfl, rfl, rfl, ?_⟩
            first
              | exact fin2 (mul_big r_b r_a (by have q := mul_over2 (o := x7.1) (x := x9) r_a (W_lim b 2) (show R4 x7.1 by assumption) (by assumption) (by assumption); omega)) R4_zero vI_zero
              | exact fin2 (mul_big r_b r_a (by have q := mul_over3 (o := x7.1) (x := x9) (y := x11) r_a (W_lim b 2) (show R4 x7.1 by assumption) (by assumption) (by assumption) (by assumption) (mul_shift (show R4 x7.1 by assumption) (by assumption)) (by assumption); omega)) R4_zero vI_zero
          · have m2 := mul_step (o := x7.1) (x := x9) (y := x11) r_a (W_lim b 2) (show R4 x7.1 by assumption) (by assumption) (by assumption) (by assumption) (mul_shift (show R4 x7.1 by assumption) (by assumption)) (by assumption)
            refine ⟨rfl, rfl, rfl, rfl, rfl, rfl, rfl, rfl, rfl, rfl, rfl, rfl, rfl, rfl, rfl, rfl, ?_⟩
            refine ⟨rfl, ?_⟩
            refine ⟨rfl, rfl, ?_⟩
            refine ⟨fun h10 => ?_, fun h10 => ?_⟩
            · refine ⟨rfl, rfl, rfl, rfl, rfl, rfl, rfl, rfl, ?_⟩
              refine ⟨rfl, rfl, rfl, rfl, rfl, rfl, rfl, rfl, ?_⟩
              first
                | exact fin2 (mul_big r_b r_a (by have q := mul_over1 (o := x11.1) r_a (W_lim b 1) (show R4 x11.1 by assumption) (by assumption); omega)) R4_zero vI_zero
            · refine ⟨rfl, rfl, rfl, rfl, rfl, rfl, rfl, rfl, rfl, rfl, huge_row a (lim b 1) (by assumption) (by first | assumption | exact W_lim _ _ | (unfold W; decide)), ⟨hRow (num (vI a)) (lim b 1), hRow_R _ _, rfl⟩, ?_⟩
              intro x13
              intro h11
              obtain ⟨rh11_1, h11⟩ := h11
              try simp only [num_vI (n := a) (by assumption)] at h11
              intro b14
              refine ⟨rfl, rfl, rfl, rfl, rfl, rfl, rfl, rfl, ?_⟩
              refine ⟨rfl, rfl, rfl, rfl, rfl, rfl, ⟨(), trivial, (vI_num4 (by first | assumption | exact W_lim _ _ | (unfold W; decide)) (by first | assumption | exact W_lim _ _ | (unfold W; decide)) (by first | assumption | exact W_lim _ _ | (unfold W; decide)) (by first | assumption | exact W_lim _ _ | (unfold W; decide))).symm⟩, ?_⟩
              intro _
              intro _
              refine ⟨rfl, rfl, rfl, rfl, rfl, rfl, rfl, rfl, huge_Add (num (.agg #[.int .u64 0, .int .u64 (lim x11.1 0), .int .u64 (lim x11.1 1), .int .u64 (lim x11.1 2)])) x13.1 (R4_num4 (by first | assumption | exact W_lim _ _ | (unfold W; decide)) (by first | assumption | exact W_lim _ _ | (unfold W; decide)) (by first | assumption | exact W_lim _ _ | (unfold W; decide)) (by first | assumption | exact W_lim _ _ | (unfold W; decide))) (by assumption), ⟨hAdd (num (vI (num (.agg #[.int .u64 0, .int .u64 (lim x11.1 0), .int .u64 (lim x11.1 1), .int .u64 (lim x11.1 2)])))) (num (vI x13.1)), hAdd_R (R4_num _) (R4_num _), rfl⟩, ?_⟩
              intro x15
              intro h12
              obtain ⟨rh12_1, h12⟩ := h12
              try simp only [num_vI (n := (num (.agg #[.int .u64 0, .int .u64 (lim x11.1 0), .int .u64 (lim x11.1 1), .int .u64 (lim x11.1 2)]))) (R4_num4 (by first | assumption | exact W_lim _ _ | (unfold W; decide)) (by first | assumption | exact W_lim _ _ | (unfold W; decide)) (by first | assumption | exact W_lim _ _ | (unfold W; decide)) (by first | assumption | exact W_lim _ _ | (unfold W; decide))), num_vI (n := x13.1) (by assumption)] at h12
              intro b16
              refine ⟨rfl, rfl, rfl, rfl, rfl, rfl, rfl, rfl, ?_⟩
              refine ⟨fun h13 => ?_, fun h13 => ?_⟩
              · refine ⟨⟨(), trivial, congrArg Value.bool h13⟩, ?_⟩
                intro _
                intro _
                refine ⟨rfl, rfl, ?_⟩
                refine ⟨rfl, ?_⟩
                refine ⟨rfl, rfl, rfl, rfl, rfl, rfl, rfl, rfl, ?_⟩
                refine ⟨rfl, rfl, rfl, rfl, rfl, rfl, rfl, rfl, ?_⟩
                first
                  | exact fin2 (mul_big r_b r_a (by have q := mul_over2 (o := x11.1) (x := x13) r_a (W_lim b 1) (show R4 x11.1 by assumption) (by assumption) (by assumption); omega)) R4_zero vI_zero
                  | exact fin2 (mul_big r_b r_a (by have q := mul_over3 (o := x11.1) (x := x13) (y := x15) r_a (W_lim b 1) (show R4 x11.1 by assumption) (by assumption) (by assumption) (by assumption) (mul_shift (show R4 x11.1 by assumption) (by assumption)) (by assumption); omega)) R4_zero vI_zero
              · refine ⟨⟨(), trivial, congrArg Value.bool h13⟩, ?_⟩
                intro _
                intro _
                refine ⟨rfl, rfl, ?_⟩
                refine ⟨fun h14 => ?_, fun h14 => ?_⟩
                · refine ⟨rfl, rfl, rfl, rfl, rfl, rfl, rfl, rfl, ?_⟩
                  refine ⟨rfl, rfl, rfl, rfl, rfl, rfl, rfl, rfl, ?_⟩
                  first
                    | exact fin2 (mul_big r_b r_a (by have q := mul_over2 (o := x11.1) (x := x13) r_a (W_lim b 1) (show R4 x11.1 by assumption) (by assumption) (by assumption); omega)) R4_zero vI_zero
                    | exact fin2 (mul_big r_b r_a (by have q := mul_over3 (o := x11.1) (x := x13) (y := x15) r_a (W_lim b 1) (show R4 x11.1 by assumption) (by assumption) (by assumption) (by assumption) (mul_shift (show R4 x11.1 by assumption) (by assumption)) (by assumption); omega)) R4_zero vI_zero
                · have m1 := mul_step (o := x11.1) (x := x13) (y := x15) r_a (W_lim b 1) (show R4 x11.1 by assumption) (by assumption) (by assumption) (by assumption) (mul_shift (show R4 x11.1 by assumption) (by assumption)) (by assumption)
                  refine ⟨rfl, rfl, rfl, rfl, rfl, rfl, rfl, rfl, rfl, rfl, rfl, rfl, rfl, rfl, rfl, rfl, ?_⟩
                  refine ⟨rfl, ?_⟩
                  refine ⟨rfl, rfl, ?_⟩
                  refine ⟨fun h15 => ?_, fun h15 => ?_⟩
                  · refine ⟨rfl, rfl, rfl, rfl, rfl, rfl, rfl, rfl, ?_⟩
                    refine ⟨rfl, rfl, rfl, rfl, rfl, rfl, rfl, rfl, ?_⟩
                    first
                      | exact fin2 (mul_big r_b r_a (by have q := mul_over1 (o := x15.1) r_a (W_lim b 0) (show R4 x15.1 by assumption) (by assumption); omega)) R4_zero vI_zero
                  · refine ⟨rfl, rfl, rfl, rfl, rfl, rfl, rfl, rfl, rfl, rfl, huge_row a (lim b 0) (by assumption) (by first | assumption | exact W_lim _ _ | (unfold W; decide)), ⟨hRow (num (vI a)) (lim b 0), hRow_R _ _, rfl⟩, ?_⟩
                    intro x17
                    intro h16
                    obtain ⟨rh16_1, h16⟩ := h16
                    try simp only [num_vI (n := a) (by assumption)] at h16
                    intro b18
                    refine ⟨rfl, rfl, rfl, rfl, rfl, rfl, rfl, rfl, ?_⟩
                    refine ⟨rfl, rfl, rfl, rfl, rfl, rfl, ⟨(), trivial, (vI_num4 (by first | assumption | exact W_lim _ _ | (unfold W; decide)) (by first | assumption | exact W_lim _ _ | (unfold W; decide)) (by first | assumption | exact W_lim _ _ | (unfold W; decide)) (by first | assumption | exact W_lim _ _ | (unfold W; decide))).symm⟩, ?_⟩
                    intro _
                    intro _
                    refine ⟨rfl, rfl, rfl, rfl, rfl, rfl, rfl, rfl, huge_Add (num (.agg #[.int .u64 0, .int .u64 (lim x15.1 0), .int .u64 (lim x15.1 1), .int .u64 (lim x15.1 2)])) x17.1 (R4_num4 (by first | assumption | exact W_lim _ _ | (unfold W; decide)) (by first | assumption | exact W_lim _ _ | (unfold W; decide)) (by first | assumption | exact W_lim _ _ | (unfold W; decide)) (by first | assumption | exact W_lim _ _ | (unfold W; decide))) (by assumption), ⟨hAdd (num (vI (num (.agg #[.int .u64 0, .int .u64 (lim x15.1 0), .int .u64 (lim x15.1 1), .int .u64 (lim x15.1 2)])))) (num (vI x17.1)), hAdd_R (R4_num _) (R4_num _), rfl⟩, ?_⟩
                    intro x19
                    intro h17
                    obtain ⟨rh17_1, h17⟩ := h17
                    try simp only [num_vI (n := (num (.agg #[.int .u64 0, .int .u64 (lim x15.1 0), .int .u64 (lim x15.1 1), .int .u64 (lim x15.1 2)]))) (R4_num4 (by first | assumption | exact W_lim _ _ | (unfold W; decide)) (by first | assumption | exact W_lim _ _ | (unfold W; decide)) (by first | assumption | exact W_lim _ _ | (unfold W; decide)) (by first | assumption | exact W_lim _ _ | (unfold W; decide))), num_vI (n := x17.1) (by assumption)] at h17
                    intro b20
                    refine ⟨rfl, rfl, rfl, rfl, rfl, rfl, rfl, rfl, ?_⟩
                    refine ⟨fun h18 => ?_, fun h18 => ?_⟩
                    · refine ⟨⟨(), trivial, congrArg Value.bool h18⟩, ?_⟩
                      intro _
                      intro _
                      refine ⟨rfl, rfl, ?_⟩
                      refine ⟨rfl, ?_⟩
                      refine ⟨rfl, rfl, rfl, rfl, rfl, rfl, rfl, rfl, ?_⟩
                      refine ⟨rfl, rfl, rfl, rfl, rfl, rfl, rfl, rfl, ?_⟩
                      first
                        | exact fin2 (mul_big r_b r_a (by have q := mul_over2 (o := x15.1) (x := x17) r_a (W_lim b 0) (show R4 x15.1 by assumption) (by assumption) (by assumption); omega)) R4_zero vI_zero
                        | exact fin2 (mul_big r_b r_a (by have q := mul_over3 (o := x15.1) (x := x17) (y := x19) r_a (W_lim b 0) (show R4 x15.1 by assumption) (by assumption) (by assumption) (by assumption) (mul_shift (show R4 x15.1 by assumption) (by assumption)) (by assumption); omega)) R4_zero vI_zero
                    · refine ⟨⟨(), trivial, congrArg Value.bool h18⟩, ?_⟩
                      intro _
                      intro _
                      refine ⟨rfl, rfl, ?_⟩
                      refine ⟨fun h19 => ?_, fun h19 => ?_⟩
                      · refine ⟨rfl, rfl, rfl, rfl, rfl, rfl, rfl, rfl, ?_⟩
                        refine ⟨rfl, rfl, rfl, rfl, rfl, rfl, rfl, rfl, ?_⟩
                        first
                          | exact fin2 (mul_big r_b r_a (by have q := mul_over2 (o := x15.1) (x := x17) r_a (W_lim b 0) (show R4 x15.1 by assumption) (by assumption) (by assumption); omega)) R4_zero vI_zero
                          | exact fin2 (mul_big r_b r_a (by have q := mul_over3 (o := x15.1) (x := x17) (y := x19) r_a (W_lim b 0) (show R4 x15.1 by assumption) (by assumption) (by assumption) (by assumption) (mul_shift (show R4 x15.1 by assumption) (by assumption)) (by assumption); omega)) R4_zero vI_zero
                      · have m0 := mul_step (o := x15.1) (x := x17) (y := x19) r_a (W_lim b 0) (show R4 x15.1 by assumption) (by assumption) (by assumption) (by assumption) (mul_shift (show R4 x15.1 by assumption) (by assumption)) (by assumption)
                        refine ⟨rfl, rfl, rfl, rfl, rfl, rfl, rfl, rfl, rfl, rfl, rfl, rfl, rfl, rfl, rfl, rfl, ?_⟩
                        refine ⟨rfl, ?_⟩
                        refine ⟨rfl, rfl, rfl, rfl, rfl, rfl, rfl, rfl, rfl, rfl, rfl, rfl, rfl, rfl, rfl, rfl, ?_⟩
                        refine ⟨rfl, rfl, rfl, rfl, rfl, rfl, rfl, rfl, ?_⟩
                        exact fin2 (mul_small r_b r_a (by assumption) (by omega)) (by assumption) rfl

def huge_Cmp_C : List Value → List Slot → Ctr := fun vs hs => ⟨Unit, fun _ => .int .i64 (hCmp (num (varg vs 1)) (num (varg vs 2))), fun _ => hs, fun _ => True⟩
set_option maxRecDepth 100000 in
theorem huge_Cmp_vc (a : Int) (b : Int) : codeW Try.prog 26 none 2000 none (bodyOf Try.f48) (.reg [.sem [.nw 0], .sem [.nw 1], .sem []] (.reg [.sem []] (.reg [.sem [], .sem []] (.condT (.reg [.sem [], .sem [], .sem [.rd 0], .sem [], .sem [], .sem [.rd 1], .sem [], .sem []] (.cond (.reg [.sem []] (.done)) (.reg [.sem [], .sem [], .sem [.rd 0], .sem [], .sem [], .sem [.rd 1], .sem [], .sem []] (.cond (.reg [.sem []] (.done)) (.reg [.sem [], .sem [], .sem []] (.reg [.sem [], .sem []] (.condT (.reg [.sem [], .sem [], .sem [.rd 0], .sem [], .sem [], .sem [.rd 1], .sem [], .sem []] (.cond (.reg [.sem []] (.done)) (.reg [.sem [], .sem [], .sem [.rd 0], .sem [], .sem [], .sem [.rd 1], .sem [], .sem []] (.cond (.reg [.sem []] (.done)) (.reg [.sem [], .sem [], .sem []] (.reg [.sem [], .sem []] (.condT (.reg [.sem [], .sem [], .sem [.rd 0], .sem [], .sem [], .sem [.rd 1], .sem [], .sem []] (.cond (.reg [.sem []] (.done)) (.reg [.sem [], .sem [], .sem [.rd 0], .sem [], .sem [], .sem [.rd 1], .sem [], .sem []] (.cond (.reg [.sem []] (.done)) (.reg [.sem [], .sem [], .sem []] (.reg [.sem [], .sem []] (.condT (.reg [.sem [], .sem [], .sem [.rd 0], .sem [], .sem [], .sem [.rd 1], .sem [], .sem []] (.cond (.reg [.sem []] (.done)) (.reg [.sem [], .sem [], .sem [.rd 0], .sem [], .sem [], .sem [.rd 1], .sem [], .sem []] (.cond (.reg [.sem []] (.done)) (.reg [.sem [], .sem [], .sem []] (.reg [.sem [], .sem []] (.condF (.reg [.sem []] (.done))))))))))))))))))))))))))))))))))
    (init #[vI a, vI b] []) (finW Try.prog Try.f48 [] [] (X := Unit) (fun _ => .int .i64 (hCmp (num (vI a)) (num (vI b)))) (fun _ => []) (fun _ => True)) =
    (∀ b1 : Nat, ∀ b2 : Nat, (true = true) ∧ b1 = b1 ∧ (none : Option Nat) = none ∧ b2 = b2 ∧ (none : Option Nat) = none ∧ ((decide ((lim a 3) < (lim b 3))) = true → ∃ _ : Unit, (True) ∧ Value.int .i64 (-1) = .int .i64 (hCmp (num (vI a)) (num (vI b))) ∧ True) ∧ ((decide ((lim a 3) < (lim b 3))) = false → b1 = b1 ∧ (none : Option Nat) = none ∧ b2 = b2 ∧ (none : Option Nat) = none ∧ ((decide ((lim a 3) > (lim b 3))) = true → ∃ _ : Unit, (True) ∧ Value.int .i64 1 = .int .i64 (hCmp (num (vI a)) (num (vI b))) ∧ True) ∧ ((decide ((lim a 3) > (lim b 3))) = false → (true = true) ∧ b1 = b1 ∧ (none : Option Nat) = none ∧ b2 = b2 ∧ (none : Option Nat) = none ∧ ((decide ((lim a 2) < (lim b 2))) = true → ∃ _ : Unit, (True) ∧ Value.int .i64 (-1) = .int .i64 (hCmp (num (vI a)) (num (vI b))) ∧ True) ∧ ((decide ((lim a 2) < (lim b 2))) = false → b1 = b1 ∧ (none : Option Nat) = none ∧ b2 = b2 ∧ (none : Option Nat) = none ∧ ((decide ((lim a 2) > (lim b 2))) = true → ∃ _ : Unit, (True) ∧ Value.int .i64 1 = .int .i64 (hCmp (num (vI a)) (num (vI b))) ∧ True) ∧ ((decide ((lim a 2) > (lim b 2))) = false → (true = true) ∧ b1 = b1 ∧ (none : Option Nat) = none ∧ b2 = b2 ∧ (none : Option Nat) = none ∧ ((decide ((lim a 1) < (lim b 1))) = true → ∃ _ : Unit, (True) ∧ Value.int .i64 (-1) = .int .i64 (hCmp (num (vI a)) (num (vI b))) ∧ True) ∧ ((decide ((lim a 1) < (lim b 1))) = false → b1 = b1 ∧ (none : Option Nat) = none ∧ b2 = b2 ∧ (none : Option Nat) = none ∧ ((decide ((lim a 1) > (lim b 1))) = true → ∃ _ : Unit, (True) ∧ Value.int .i64 1 = .int .i64 (hCmp (num (vI a)) (num (vI b))) ∧ True) ∧ ((decide ((lim a 1) > (lim b 1))) = false → (true = true) ∧ b1 = b1 ∧ (none : Option Nat) = none ∧ b2 = b2 ∧ (none : Option Nat) = none ∧ ((decide ((lim a 0) < (lim b 0))) = true → ∃ _ : Unit, (True) ∧ Value.int .i64 (-1) = .int .i64 (hCmp (num (vI a)) (num (vI b))) ∧ True) ∧ ((decide ((lim a 0) < (lim b 0))) = false → b1 = b1 ∧ (none : Option Nat) = none ∧ b2 = b2 ∧ (none : Option Nat) = none ∧ ((decide ((lim a 0) > (lim b 0))) = true → ∃ _ : Unit, (True) ∧ Value.int .i64 1 = .int .i64 (hCmp (num (vI a)) (num (vI b))) ∧ True) ∧ ((decide ((lim a 0) > (lim b 0))) = false → (false = false) ∧ ∃ _ : Unit, (True) ∧ Value.int .i64 0 = .int .i64 (hCmp (num (vI a)) (num (vI b))) ∧ True))))))))) := by kernel_rfl
set_option maxRecDepth 100000 in
theorem huge_Cmp (a : Int) (b : Int) (r_a : R4 a) (r_b : R4 b) : CallT Try.prog 48 #[vI a, vI b] [] Unit (fun _ => .int .i64 (hCmp (num (vI a)) (num (vI b)))) (fun _ => []) (fun _ => True) := by
  refine call_of (c := bodyOf Try.f48) (n := 26) (fn := Try.f48) Try.mixed Try.func48 (by kernel_rfl) (by kernel_rfl) (by kernel_rfl) 2000 _ [] [] rfl rfl (Eq.mpr (huge_Cmp_vc a b) ?_)
  intro b1
  intro b2
  refine ⟨rfl, ?_⟩
  refine ⟨rfl, rfl, rfl, rfl, ?_⟩
  refine ⟨fun h1 => ?_, fun h1 => ?_⟩
  · refine ⟨(), trivial, congrArg (Value.int .i64) ?_, trivial⟩
    simp only [decide_eq_true_eq, decide_eq_false_iff_not, gt_iff_lt] at *
    exact cmp_fin (by omega)
  · refine ⟨rfl, rfl, rfl, rfl, ?_⟩
    refine ⟨fun h2 => ?_, fun h2 => ?_⟩
    · refine ⟨(), trivial, congrArg (Value.int .i64) ?_, trivial⟩
      simp only [decide_eq_true_eq, decide_eq_false_iff_not, gt_iff_lt] at *
      exact cmp_fin (by omega)
    · refine ⟨rfl, ?_⟩
      refine ⟨rfl, rfl, rfl, rfl, ?_⟩
      refine ⟨fun h3 => ?_, fun h3 => ?_⟩
      · refine ⟨(), trivial, congrArg (Value.int .i64) ?_, trivial⟩
        simp only [decide_eq_true_eq, decide_eq_false_iff_not, gt_iff_lt] at *
        exact cmp_fin (by omega)
      · refine ⟨rfl, rfl, rfl, rfl, ?_⟩
        refine ⟨fun h4 => ?_, fun h4 => ?_⟩
        · refine ⟨(), trivial, congrArg (Value.int .i64) ?_, trivial⟩
          simp only [decide_eq_true_eq, decide_eq_false_iff_not, gt_iff_lt] at *
          exact cmp_fin (by omega)
        · refine ⟨rfl, ?_⟩
          refine ⟨rfl, rfl, rfl, rfl, ?_⟩
          refine ⟨fun h5 => ?_, fun h5 => ?_⟩
          · refine ⟨(), trivial, congrArg (Value.int .i64) ?_, trivial⟩
            simp only [decide_eq_true_eq, decide_eq_false_iff_not, gt_iff_lt] at *
            exact cmp_fin (by omega)
          · refine ⟨rfl, rfl, rfl, rfl, ?_⟩
            refine ⟨fun h6 => ?_, fun h6 => ?_⟩
            · refine ⟨(), trivial, congrArg (Value.int .i64) ?_, trivial⟩
              simp only [decide_eq_true_eq, decide_eq_false_iff_not, gt_iff_lt] at *
              exact cmp_fin (by omega)
            · refine ⟨rfl, ?_⟩
              refine ⟨rfl, rfl, rfl, rfl, ?_⟩
              refine ⟨fun h7 => ?_, fun h7 => ?_⟩
              · refine ⟨(), trivial, congrArg (Value.int .i64) ?_, trivial⟩
                simp only [decide_eq_true_eq, decide_eq_false_iff_not, gt_iff_lt] at *
                exact cmp_fin (by omega)
              · refine ⟨rfl, rfl, rfl, rfl, ?_⟩
                refine ⟨fun h8 => ?_, fun h8 => ?_⟩
                · refine ⟨(), trivial, congrArg (Value.int .i64) ?_, trivial⟩
                  simp only [decide_eq_true_eq, decide_eq_false_iff_not, gt_iff_lt] at *
                  exact cmp_fin (by omega)
                · refine ⟨rfl, ?_⟩
                  refine ⟨(), trivial, congrArg (Value.int .i64) ?_, trivial⟩
                  simp only [decide_eq_true_eq, decide_eq_false_iff_not, gt_iff_lt] at *
                  exact cmp_fin (by omega)

end Go.Proofs
