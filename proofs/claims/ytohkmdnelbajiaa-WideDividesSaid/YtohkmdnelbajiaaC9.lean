/- Contracts of this program's functions, and their proofs, printed by a program of the prover's own (see the claim's other texts for what the words mean). -/
import Derived.Test.YtohkmdnelbajiaaSxB18
import Derived.Test.YtohkmdnelbajiaaC8
set_option linter.unusedVariables false
set_option linter.unusedSimpArgs false
namespace Go.Proofs
open Go.Sx
def law3_row_C : List Value → List Slot → Ctr := fun vs hs => ⟨Row, fun zx => sv zx, fun zx => [(ss 3 zx)], fun zx => RowOK zx ∧ nv (dg zx) = (num (varg vs 1)) ∧ Canon (dg zx) ∧ (dg zx).length ≤ 64⟩
set_option maxRecDepth 100000 in
theorem law3_row_vc (w : Int) : codeW Try.prog 30 none 2000 none (bodyOf Try.f30) (.reg [.sem [.nw 0], .sem []] (.reg [.sem [], .sem [.rd 0], .sem [], .sem [.rd 0], .sem [], .sem [.rd 0], .sem [], .sem [.rd 0], .sem [], .callw [] [1] ref2_Row_C, .sem []] (.reg [.sem [], .sem [.rd 0], .sem [], .sem [.rd 0], .sem [], .sem [.rd 0], .sem [], .sem [.rd 0], .sem [], .callw [] [2] ref2_Row_C, .sem []] (.reg [.sem [], .sem [], .sem [.nw 3], .callw [2, 3] [2, 3, 4] ref1_Mul_C, .callw [1, 4] [1, 4, 20] ref1_Add_C, .sem []] (.done)))))
    (init #[vW w] []) (finW Try.prog Try.f30 [] [20] (X := Row) (fun zx => sv zx) (fun zx => [(ss 3 zx)]) (fun zx => (RowOK zx ∧ nv (dg zx) = (num (vW w)) ∧ Canon (dg zx) ∧ (dg zx).length ≤ 64))) =
    (∀ b1 : Nat, b1 = b1 ∧ (none : Option Nat) = none ∧ b1 = b1 ∧ (none : Option Nat) = none ∧ b1 = b1 ∧ (none : Option Nat) = none ∧ b1 = b1 ∧ (none : Option Nat) = none ∧ (CallT Try.prog 20 #[.agg #[.int .u64 (lim w 0), .int .u64 (lim w 1), .int .u64 (lim w 2), .int .u64 (lim w 3)]] [] Row (fun zx => sv zx) (fun zx => [(ss 3 zx)]) (fun zx => RowOK zx ∧ nv (dg zx) = (num (.agg #[.int .u64 (lim w 0), .int .u64 (lim w 1), .int .u64 (lim w 2), .int .u64 (lim w 3)])) ∧ Canon (dg zx) ∧ (dg zx).length ≤ 16)) ∧ (∃ zx : Row, (fun zx => RowOK zx ∧ nv (dg zx) = (num (.agg #[.int .u64 (lim w 0), .int .u64 (lim w 1), .int .u64 (lim w 2), .int .u64 (lim w 3)])) ∧ Canon (dg zx) ∧ (dg zx).length ≤ 16) zx) ∧ ∀ x2 : Row, (RowOK x2 ∧ nv (dg x2) = (num (.agg #[.int .u64 (lim w 0), .int .u64 (lim w 1), .int .u64 (lim w 2), .int .u64 (lim w 3)])) ∧ Canon (dg x2) ∧ (dg x2).length ≤ 16) → b1 = b1 ∧ (none : Option Nat) = none ∧ b1 = b1 ∧ (none : Option Nat) = none ∧ b1 = b1 ∧ (none : Option Nat) = none ∧ b1 = b1 ∧ (none : Option Nat) = none ∧ (CallT Try.prog 20 #[.agg #[.int .u64 (lim w 4), .int .u64 (lim w 5), .int .u64 (lim w 6), .int .u64 (lim w 7)]] [] Row (fun zx => sv zx) (fun zx => [(ss 3 zx)]) (fun zx => RowOK zx ∧ nv (dg zx) = (num (.agg #[.int .u64 (lim w 4), .int .u64 (lim w 5), .int .u64 (lim w 6), .int .u64 (lim w 7)])) ∧ Canon (dg zx) ∧ (dg zx).length ≤ 16)) ∧ (∃ zx : Row, (fun zx => RowOK zx ∧ nv (dg zx) = (num (.agg #[.int .u64 (lim w 4), .int .u64 (lim w 5), .int .u64 (lim w 6), .int .u64 (lim w 7)])) ∧ Canon (dg zx) ∧ (dg zx).length ≤ 16) zx) ∧ ∀ x3 : Row, (RowOK x3 ∧ nv (dg x3) = (num (.agg #[.int .u64 (lim w 4), .int .u64 (lim w 5), .int .u64 (lim w 6), .int .u64 (lim w 7)])) ∧ Canon (dg x3) ∧ (dg x3).length ≤ 16) → ∀ b4 : Nat, (CallT Try.prog 31 #[sv x3, .slice (some ⟨b4, 0, none⟩) 17 17] [(ss 3 x3), (ss 3 (Row.mk b4 [.int .i64 0, .int .i64 0, .int .i64 0, .int .i64 0, .int .i64 0, .int .i64 0, .int .i64 0, .int .i64 0, .int .i64 0, .int .i64 0, .int .i64 0, .int .i64 0, .int .i64 0, .int .i64 0, .int .i64 0, .int .i64 0, .int .i64 1] []))] Row (fun zx => sv zx) (fun zx => [(ss 3 x3), (ss 3 (Row.mk b4 [.int .i64 0, .int .i64 0, .int .i64 0, .int .i64 0, .int .i64 0, .int .i64 0, .int .i64 0, .int .i64 0, .int .i64 0, .int .i64 0, .int .i64 0, .int .i64 0, .int .i64 0, .int .i64 0, .int .i64 0, .int .i64 0, .int .i64 1] [])), (ss 3 zx)]) (fun zx => RowOK zx ∧ nv (dg zx) = nv (rdv (sv x3) (ss 3 x3)) * nv (rdv (sv (Row.mk b4 [.int .i64 0, .int .i64 0, .int .i64 0, .int .i64 0, .int .i64 0, .int .i64 0, .int .i64 0, .int .i64 0, .int .i64 0, .int .i64 0, .int .i64 0, .int .i64 0, .int .i64 0, .int .i64 0, .int .i64 0, .int .i64 0, .int .i64 1] [])) (ss 3 (Row.mk b4 [.int .i64 0, .int .i64 0, .int .i64 0, .int .i64 0, .int .i64 0, .int .i64 0, .int .i64 0, .int .i64 0, .int .i64 0, .int .i64 0, .int .i64 0, .int .i64 0, .int .i64 0, .int .i64 0, .int .i64 0, .int .i64 0, .int .i64 1] []))) ∧ Canon (dg zx))) ∧ (∃ zx : Row, (fun zx => RowOK zx ∧ nv (dg zx) = nv (rdv (sv x3) (ss 3 x3)) * nv (rdv (sv (Row.mk b4 [.int .i64 0, .int .i64 0, .int .i64 0, .int .i64 0, .int .i64 0, .int .i64 0, .int .i64 0, .int .i64 0, .int .i64 0, .int .i64 0, .int .i64 0, .int .i64 0, .int .i64 0, .int .i64 0, .int .i64 0, .int .i64 0, .int .i64 1] [])) (ss 3 (Row.mk b4 [.int .i64 0, .int .i64 0, .int .i64 0, .int .i64 0, .int .i64 0, .int .i64 0, .int .i64 0, .int .i64 0, .int .i64 0, .int .i64 0, .int .i64 0, .int .i64 0, .int .i64 0, .int .i64 0, .int .i64 0, .int .i64 0, .int .i64 1] []))) ∧ Canon (dg zx)) zx) ∧ ∀ x5 : Row, (RowOK x5 ∧ nv (dg x5) = nv (rdv (sv x3) (ss 3 x3)) * nv (rdv (sv (Row.mk b4 [.int .i64 0, .int .i64 0, .int .i64 0, .int .i64 0, .int .i64 0, .int .i64 0, .int .i64 0, .int .i64 0, .int .i64 0, .int .i64 0, .int .i64 0, .int .i64 0, .int .i64 0, .int .i64 0, .int .i64 0, .int .i64 0, .int .i64 1] [])) (ss 3 (Row.mk b4 [.int .i64 0, .int .i64 0, .int .i64 0, .int .i64 0, .int .i64 0, .int .i64 0, .int .i64 0, .int .i64 0, .int .i64 0, .int .i64 0, .int .i64 0, .int .i64 0, .int .i64 0, .int .i64 0, .int .i64 0, .int .i64 0, .int .i64 1] []))) ∧ Canon (dg x5)) → (CallT Try.prog 22 #[sv x2, sv x5] [(ss 3 x2), (ss 3 x5)] Row (fun zx => sv zx) (fun zx => [(ss 3 x2), (ss 3 x5), (ss 3 zx)]) (fun zx => RowOK zx ∧ nv (dg zx) = nv (rdv (sv x2) (ss 3 x2)) + nv (rdv (sv x5) (ss 3 x5)) ∧ Canon (dg zx))) ∧ (∃ zx : Row, (fun zx => RowOK zx ∧ nv (dg zx) = nv (rdv (sv x2) (ss 3 x2)) + nv (rdv (sv x5) (ss 3 x5)) ∧ Canon (dg zx)) zx) ∧ ∀ x6 : Row, (RowOK x6 ∧ nv (dg x6) = nv (rdv (sv x2) (ss 3 x2)) + nv (rdv (sv x5) (ss 3 x5)) ∧ Canon (dg x6)) → ∃ zx : Row, (RowOK zx ∧ nv (dg zx) = (num (vW w)) ∧ Canon (dg zx) ∧ (dg zx).length ≤ 64) ∧ sv x6 = sv zx ∧ (ss 3 x6) = (ss 3 zx) ∧ True) := by kernel_rfl
set_option maxRecDepth 100000 in
theorem law3_row (w : Int) (r_w : R8 w) : CallT Try.prog 30 #[vW w] [] Row (fun zx => sv zx) (fun zx => [(ss 3 zx)]) (fun zx => (RowOK zx ∧ nv (dg zx) = (num (vW w)) ∧ Canon (dg zx) ∧ (dg zx).length ≤ 64)) := by
  refine call_of (c := bodyOf Try.f30) (n := 30) (fn := Try.f30) Try.mixed Try.func30 (by kernel_rfl) (by kernel_rfl) (by kernel_rfl) 2000 _ [] [20] rfl rfl (Eq.mpr (law3_row_vc w) ?_)
  intro b1
  refine ⟨rfl, rfl, rfl, rfl, rfl, rfl, rfl, rfl, ?_⟩
  refine ⟨?_, ?_⟩
  ·   have hraw := ref2_Row (num (.agg #[.int .u64 (lim w 0), .int .u64 (lim w 1), .int .u64 (lim w 2), .int .u64 (lim w 3)])) (R4_num4 (by first | assumption | exact W_lim _ _ | (unfold W; decide)) (by first | assumption | exact W_lim _ _ | (unfold W; decide)) (by first | assumption | exact W_lim _ _ | (unfold W; decide)) (by first | assumption | exact W_lim _ _ | (unfold W; decide)))
      rw [vI_num4 (by first | assumption | exact W_lim _ _ | (unfold W; decide)) (by first | assumption | exact W_lim _ _ | (unfold W; decide)) (by first | assumption | exact W_lim _ _ | (unfold W; decide)) (by first | assumption | exact W_lim _ _ | (unfold W; decide))] at hraw
      exact hraw
  refine ⟨wit_num (by first | exact R4_num _ | exact R4_num4 (by first | assumption | exact W_lim _ _ | (unfold W; decide)) (by first | assumption | exact W_lim _ _ | (unfold W; decide)) (by first | assumption | exact W_lim _ _ | (unfold W; decide)) (by first | assumption | exact W_lim _ _ | (unfold W; decide))), ?_⟩
  intro x2
  intro h1
  obtain ⟨rh1_, h1⟩ := h1
  have hlo := h1
  refine ⟨rfl, rfl, rfl, rfl, rfl, rfl, rfl, rfl, ?_⟩
  refine ⟨?_, ?_⟩
  ·   have hraw := ref2_Row (num (.agg #[.int .u64 (lim w 4), .int .u64 (lim w 5), .int .u64 (lim w 6), .int .u64 (lim w 7)])) (R4_num4 (by first | assumption | exact W_lim _ _ | (unfold W; decide)) (by first | assumption | exact W_lim _ _ | (unfold W; decide)) (by first | assumption | exact W_lim _ _ | (unfold W; decide)) (by first | assumption | exact W_lim _ _ | (unfold W; decide)))
      rw [vI_num4 (by first | assumption | exact W_lim _ _ | (unfold W; decide)) (by first | assumption | exact W_lim _ _ | (unfold W; decide)) (by first | assumption | exact W_lim _ _ | (unfold W; decide)) (by first | assumption | exact W_lim _ _ | (unfold W; decide))] at hraw
      exact hraw
  refine ⟨wit_num (by first | exact R4_num _ | exact R4_num4 (by first | assumption | exact W_lim _ _ | (unfold W; decide)) (by first | assumption | exact W_lim _ _ | (unfold W; decide)) (by first | assumption | exact W_lim _ _ | (unfold W; decide)) (by first | assumption | exact W_lim _ _ | (unfold W; decide))), ?_⟩
  intro x3
  intro h2
  obtain ⟨rh2_, h2⟩ := h2
  have hhi := h2
  intro b4
  refine ⟨ref1_Mul x3 (Row.mk b4 [.int .i64 0, .int .i64 0, .int .i64 0, .int .i64 0, .int .i64 0, .int .i64 0, .int .i64 0, .int .i64 0, .int .i64 0, .int .i64 0, .int .i64 0, .int .i64 0, .int .i64 0, .int .i64 0, .int .i64 0, .int .i64 0, .int .i64 1] []) (by first | assumption | exact rowOK_lit _ _ (by decide)) (rowOK_lit b4 [0, 0, 0, 0, 0, 0, 0, 0, 0, 0, 0, 0, 0, 0, 0, 0, 1] (by decide)) (by omega) (Nat.le_of_ble_eq_true rfl), wit_row (by rw [rdv_eq x3, rdv_eq (Row.mk b4 [.int .i64 0, .int .i64 0, .int .i64 0, .int .i64 0, .int .i64 0, .int .i64 0, .int .i64 0, .int .i64 0, .int .i64 0, .int .i64 0, .int .i64 0, .int .i64 0, .int .i64 0, .int .i64 0, .int .i64 0, .int .i64 0, .int .i64 1] [])]; exact Int.mul_nonneg (nv_nonneg (RowOK.dig (by first | assumption | exact rowOK_lit _ _ (by decide)))) (nv_nonneg (RowOK.dig (rowOK_lit b4 [0, 0, 0, 0, 0, 0, 0, 0, 0, 0, 0, 0, 0, 0, 0, 0, 1] (by decide))))), ?_⟩
  intro x5
  intro h3
  simp only [rdv_eq] at h3
  obtain ⟨rh3_, h3⟩ := h3
  have Q1 := h3
  have lq : (dg x5).length ≤ 64 := len40 (RowOK.dig (by assumption)) Q1.2 rfl (by rw [Q1.1, hhi.1]; exact wide_mul (R4_num4 (W_lim _ _) (W_lim _ _) (W_lim _ _) (W_lim _ _)) _)
  refine ⟨ref1_Add x2 x5 (by first | assumption | exact rowOK_lit _ _ (by decide)) (by first | assumption | exact rowOK_lit _ _ (by decide)) (by omega) (by omega), wit_row (by rw [rdv_eq x2, rdv_eq x5]; exact Int.add_nonneg (nv_nonneg (RowOK.dig (by first | assumption | exact rowOK_lit _ _ (by decide)))) (nv_nonneg (RowOK.dig (by first | assumption | exact rowOK_lit _ _ (by decide))))), ?_⟩
  intro x6
  intro h4
  simp only [rdv_eq] at h4
  obtain ⟨rh4_, h4⟩ := h4
  have Q2 := h4
  have e0 : nv (dg x6) = w := by
    rw [Q2.1, Q1.1]
    have e1 := wide_parts r_w
    rw [hlo.1, hhi.1]
    exact e1
  exact ⟨_, ⟨by assumption, by rw [num_vW r_w]; exact e0, Q2.2, len40 (RowOK.dig (by assumption)) Q2.2 e0 (wide_num r_w)⟩, rfl, rfl, trivial⟩

def law3_lives_C : List Value → List Slot → Ctr := fun vs hs => ⟨Unit, fun _ => .bool true, fun _ => hs, fun _ => True⟩
set_option maxRecDepth 100000 in
theorem law3_lives_vc  : codeW Try.prog 17 none 2000 none (bodyOf Try.f28) (.reg [.sem []] (.reg [.callr [] huge_Of_C, .callr [] huge_Of_C, .callr [] huge_Of_C, .callr [] wide_MulDivUp_C, .sem [], .sem [], .sem [], .sem [.nw 0], .sem [.wr 0, .wr 0, .wr 0, .wr 0], .sem []] (.caseP (fun s => (ci (s.fr 2)) == (0 : Int)) (.reg [.sem [], .gen [] (one (.bool true)), .sem [], .sem [.rd 0, .rd 0, .rd 0, .rd 0], .callr [] huge_Of_C, .eq (f_eq), .sem [], .sem []] (.done)) (.reg [.sem [], .gen [] (one (.bool false)), .sem [], .no, .no, .no, .sem [], .sem []] (.done)))))
    (init #[] []) (finW Try.prog Try.f28 [] [] (X := Unit) (fun _ => .bool true) (fun _ => []) (fun _ => True)) =
    ((CallT Try.prog 75 #[.int .u64 7] [] Unit (fun _ => vI (7 : Int)) (fun _ => []) (fun _ => True)) ∧ (∃ zx : Unit, (fun _ => True) zx) ∧ ∀ _ : Unit, (True) → (CallT Try.prog 75 #[.int .u64 5] [] Unit (fun _ => vI (5 : Int)) (fun _ => []) (fun _ => True)) ∧ (∃ zx : Unit, (fun _ => True) zx) ∧ ∀ _ : Unit, (True) → (CallT Try.prog 75 #[.int .u64 3] [] Unit (fun _ => vI (3 : Int)) (fun _ => []) (fun _ => True)) ∧ (∃ zx : Unit, (fun _ => True) zx) ∧ ∀ _ : Unit, (True) → (CallT Try.prog 35 #[vI (7 : Int), vI (5 : Int), vI (3 : Int)] [] (Int × Int) (fun zx => .tuple #[vI zx.1, .int .i64 zx.2]) (fun _ => []) (fun zx => R4 zx.1 ∧ zx = wMulDivUp (num (vI (7 : Int))) (num (vI (5 : Int))) (num (vI (3 : Int))))) ∧ (∃ zx : Int × Int, (fun zx => R4 zx.1 ∧ zx = wMulDivUp (num (vI (7 : Int))) (num (vI (5 : Int))) (num (vI (3 : Int)))) zx) ∧ ∀ x1 : Int × Int, (R4 x1.1 ∧ x1 = wMulDivUp (num (vI (7 : Int))) (num (vI (5 : Int))) (num (vI (3 : Int)))) → ∀ b2 : Nat, b2 = b2 ∧ (none : Option Nat) = none ∧ b2 = b2 ∧ (none : Option Nat) = none ∧ b2 = b2 ∧ (none : Option Nat) = none ∧ b2 = b2 ∧ (none : Option Nat) = none ∧ ((x1.2 == (0 : Int)) = true → (∃ _ : Unit, True ∧ Value.bool (x1.2 == (0 : Int)) = .bool true) ∧ ∀ _ : Unit, (True) → true = true ∧ b2 = b2 ∧ (none : Option Nat) = none ∧ b2 = b2 ∧ (none : Option Nat) = none ∧ b2 = b2 ∧ (none : Option Nat) = none ∧ b2 = b2 ∧ (none : Option Nat) = none ∧ true = true ∧ (CallT Try.prog 75 #[.int .u64 12] [] Unit (fun _ => vI (12 : Int)) (fun _ => []) (fun _ => True)) ∧ (∃ zx : Unit, (fun _ => True) zx) ∧ ∀ _ : Unit, (True) → true = true ∧ (PureRun Try.prog (xBin .eql 44 (vI x1.1) (vI (12 : Int))) (.bool (num (vI x1.1) == num (vI (12 : Int))))) ∧ ∃ _ : Unit, (True) ∧ Value.bool (num (vI x1.1) == num (vI (12 : Int))) = .bool true ∧ True) ∧ ((x1.2 == (0 : Int)) = false → (∃ _ : Unit, True ∧ Value.bool (x1.2 == (0 : Int)) = .bool false) ∧ ∀ _ : Unit, (True) → false = !true ∧ false = !true ∧ false = !true ∧ ∃ _ : Unit, (True) ∧ Value.bool false = .bool true ∧ True)) := by kernel_rfl
set_option maxRecDepth 100000 in
theorem law3_lives   : CallT Try.prog 28 #[] [] Unit (fun _ => .bool true) (fun _ => []) (fun _ => True) := by
  refine call_of (c := bodyOf Try.f28) (n := 17) (fn := Try.f28) Try.mixed Try.func28 (by kernel_rfl) (by kernel_rfl) (by kernel_rfl) 2000 _ [] [] rfl rfl (Eq.mpr (law3_lives_vc ) ?_)
  refine ⟨huge_Of (7 : Int) (by first | assumption | exact W_lim _ _ | (unfold W; decide)), ⟨(), trivial⟩, ?_⟩
  intro _
  intro _
  refine ⟨huge_Of (5 : Int) (by first | assumption | exact W_lim _ _ | (unfold W; decide)), ⟨(), trivial⟩, ?_⟩
  intro _
  intro _
  refine ⟨huge_Of (3 : Int) (by first | assumption | exact W_lim _ _ | (unfold W; decide)), ⟨(), trivial⟩, ?_⟩
  intro _
  intro _
  refine ⟨wide_MulDivUp (7 : Int) (5 : Int) (3 : Int) (by unfold R4; decide) (by unfold R4; decide) (by unfold R4; decide), ⟨_, wMulDivUp_R (R4_num _) (R4_num _) (R4_num _), rfl⟩, ?_⟩
  intro x1
  intro h1
  obtain ⟨rh1_1, h1⟩ := h1
  try simp only [num_vI (n := (7 : Int)) (by unfold R4; decide), num_vI (n := (5 : Int)) (by unfold R4; decide), num_vI (n := (3 : Int)) (by unfold R4; decide)] at h1
  have hx : x1 = (12, 0) := by rw [h1]; rfl
  intro b2
  refine ⟨rfl, rfl, rfl, rfl, rfl, rfl, rfl, rfl, ?_⟩
  refine ⟨fun h2 => ?_, fun h2 => ?_⟩
  · refine ⟨⟨(), trivial, congrArg Value.bool h2⟩, ?_⟩
    intro _
    intro _
    refine ⟨rfl, rfl, rfl, rfl, rfl, rfl, rfl, rfl, rfl, rfl, huge_Of (12 : Int) (by first | assumption | exact W_lim _ _ | (unfold W; decide)), ⟨(), trivial⟩, ?_⟩
    intro _
    intro _
    refine ⟨rfl, Try.xeq44 x1.1 (12 : Int), ?_⟩
    refine ⟨(), trivial, ?_, trivial⟩
    rw [hx]
    simp
  · refine ⟨⟨(), trivial, congrArg Value.bool h2⟩, ?_⟩
    intro _
    intro _
    refine ⟨rfl, rfl, rfl, ?_⟩
    exfalso
    rw [hx] at h2
    exact absurd h2 (by decide)

def law3_WideProducts_C : List Value → List Slot → Ctr := fun vs hs => ⟨Unit, fun _ => .bool true, fun _ => hs, fun _ => True⟩
set_option maxRecDepth 100000 in
theorem law3_WideProducts_vc (a : Int) (b : Int) : codeW Try.prog 27 none 2000 none (bodyOf Try.f5) (.reg [.sem [.nw 0], .sem [.nw 1], .sem []] (.reg [.callr [] law3_lives_C, .sem []] (.condF (.reg [.sem [.rd 0, .rd 0, .rd 0, .rd 0], .sem [.rd 1, .rd 1, .rd 1, .rd 1], .callr [] wide_Product_C, .sem [.nw 2], .sem [.wr 2, .wr 2, .wr 2, .wr 2, .wr 2, .wr 2, .wr 2, .wr 2]] (.reg [.sem [.rd 2, .rd 2, .rd 2, .rd 2, .rd 2, .rd 2, .rd 2, .rd 2], .sem [.rd 1, .rd 1, .rd 1, .rd 1], .sem [.rd 0, .rd 0, .rd 0, .rd 0], .callr [] wide_Product_C, .specr [] (fun _ hs => ⟨Unit, fun _ => .bool true, fun _ => hs, fun _ => True⟩), .sem [], .sem [.rd 2, .rd 2, .rd 2, .rd 2, .rd 2, .rd 2, .rd 2, .rd 2], .callw [] [3] law3_row_C, .sem [.rd 0, .rd 0, .rd 0, .rd 0], .callw [] [4] ref2_Row_C, .sem [.rd 1, .rd 1, .rd 1, .rd 1], .callw [] [5] ref2_Row_C, .callw [4, 5] [4, 5, 6] ref1_Mul_C, .callr [3, 6] ref1_Cmp_C, .sem [], .sem [], .sem []] (.done))))))
    (init #[vI a, vI b] []) (finW Try.prog Try.f5 [] [] (X := Unit) (fun _ => .bool true) (fun _ => []) (fun _ => True)) =
    (∀ b1 : Nat, ∀ b2 : Nat, (CallT Try.prog 28 #[] [] Unit (fun _ => .bool true) (fun _ => []) (fun _ => True)) ∧ (∃ zx : Unit, (fun _ => True) zx) ∧ ∀ _ : Unit, (True) → (false = false) ∧ b1 = b1 ∧ (none : Option Nat) = none ∧ b1 = b1 ∧ (none : Option Nat) = none ∧ b1 = b1 ∧ (none : Option Nat) = none ∧ b1 = b1 ∧ (none : Option Nat) = none ∧ b2 = b2 ∧ (none : Option Nat) = none ∧ b2 = b2 ∧ (none : Option Nat) = none ∧ b2 = b2 ∧ (none : Option Nat) = none ∧ b2 = b2 ∧ (none : Option Nat) = none ∧ (CallT Try.prog 29 #[vI a, vI b] [] Int (fun zx => vW zx) (fun _ => []) (fun zx => R8 zx ∧ zx = (num (vI a)) * (num (vI b)))) ∧ (∃ zx : Int, (fun zx => R8 zx ∧ zx = (num (vI a)) * (num (vI b))) zx) ∧ ∀ x3 : Int, (R8 x3 ∧ x3 = (num (vI a)) * (num (vI b))) → ∀ b4 : Nat, b4 = b4 ∧ (none : Option Nat) = none ∧ b4 = b4 ∧ (none : Option Nat) = none ∧ b4 = b4 ∧ (none : Option Nat) = none ∧ b4 = b4 ∧ (none : Option Nat) = none ∧ b4 = b4 ∧ (none : Option Nat) = none ∧ b4 = b4 ∧ (none : Option Nat) = none ∧ b4 = b4 ∧ (none : Option Nat) = none ∧ b4 = b4 ∧ (none : Option Nat) = none ∧ b4 = b4 ∧ (none : Option Nat) = none ∧ b4 = b4 ∧ (none : Option Nat) = none ∧ b4 = b4 ∧ (none : Option Nat) = none ∧ b4 = b4 ∧ (none : Option Nat) = none ∧ b4 = b4 ∧ (none : Option Nat) = none ∧ b4 = b4 ∧ (none : Option Nat) = none ∧ b4 = b4 ∧ (none : Option Nat) = none ∧ b4 = b4 ∧ (none : Option Nat) = none ∧ b2 = b2 ∧ (none : Option Nat) = none ∧ b2 = b2 ∧ (none : Option Nat) = none ∧ b2 = b2 ∧ (none : Option Nat) = none ∧ b2 = b2 ∧ (none : Option Nat) = none ∧ b1 = b1 ∧ (none : Option Nat) = none ∧ b1 = b1 ∧ (none : Option Nat) = none ∧ b1 = b1 ∧ (none : Option Nat) = none ∧ b1 = b1 ∧ (none : Option Nat) = none ∧ (CallT Try.prog 29 #[vI b, vI a] [] Int (fun zx => vW zx) (fun _ => []) (fun zx => R8 zx ∧ zx = (num (vI b)) * (num (vI a)))) ∧ (∃ zx : Int, (fun zx => R8 zx ∧ zx = (num (vI b)) * (num (vI a))) zx) ∧ ∀ x5 : Int, (R8 x5 ∧ x5 = (num (vI b)) * (num (vI a))) → (OpT Try.prog (xBin .eql 56 (vW x3) (vW x5)) [] Unit (fun _ => .bool true) (fun _ => []) (fun _ => True)) ∧ (∃ zx : Unit, (fun _ => True) zx) ∧ ∀ _ : Unit, (True) → true = true ∧ b4 = b4 ∧ (none : Option Nat) = none ∧ b4 = b4 ∧ (none : Option Nat) = none ∧ b4 = b4 ∧ (none : Option Nat) = none ∧ b4 = b4 ∧ (none : Option Nat) = none ∧ b4 = b4 ∧ (none : Option Nat) = none ∧ b4 = b4 ∧ (none : Option Nat) = none ∧ b4 = b4 ∧ (none : Option Nat) = none ∧ b4 = b4 ∧ (none : Option Nat) = none ∧ true = true ∧ (CallT Try.prog 30 #[vW x3] [] Row (fun zx => sv zx) (fun zx => [(ss 3 zx)]) (fun zx => RowOK zx ∧ nv (dg zx) = (num (vW x3)) ∧ Canon (dg zx) ∧ (dg zx).length ≤ 64)) ∧ (∃ zx : Row, (fun zx => RowOK zx ∧ nv (dg zx) = (num (vW x3)) ∧ Canon (dg zx) ∧ (dg zx).length ≤ 64) zx) ∧ ∀ x6 : Row, (RowOK x6 ∧ nv (dg x6) = (num (vW x3)) ∧ Canon (dg x6) ∧ (dg x6).length ≤ 64) → true = true ∧ b1 = b1 ∧ (none : Option Nat) = none ∧ b1 = b1 ∧ (none : Option Nat) = none ∧ b1 = b1 ∧ (none : Option Nat) = none ∧ b1 = b1 ∧ (none : Option Nat) = none ∧ true = true ∧ (CallT Try.prog 20 #[vI a] [] Row (fun zx => sv zx) (fun zx => [(ss 3 zx)]) (fun zx => RowOK zx ∧ nv (dg zx) = (num (vI a)) ∧ Canon (dg zx) ∧ (dg zx).length ≤ 16)) ∧ (∃ zx : Row, (fun zx => RowOK zx ∧ nv (dg zx) = (num (vI a)) ∧ Canon (dg zx) ∧ (dg zx).length ≤ 16) zx) ∧ ∀ x7 : Row, (RowOK x7 ∧ nv (dg x7) = (num (vI a)) ∧ Canon (dg x7) ∧ (dg x7).length ≤ 16) → true = true ∧ b2 = b2 ∧ (none : Option Nat) = none ∧ b2 = b2 ∧ (none : Option Nat) = none ∧ b2 = b2 ∧ (none : Option Nat) = none ∧ b2 = b2 ∧ (none : Option Nat) = none ∧ true = true ∧ (CallT Try.prog 20 #[vI b] [] Row (fun zx => sv zx) (fun zx => [(ss 3 zx)]) (fun zx => RowOK zx ∧ nv (dg zx) = (num (vI b)) ∧ Canon (dg zx) ∧ (dg zx).length ≤ 16)) ∧ (∃ zx : Row, (fun zx => RowOK zx ∧ nv (dg zx) = (num (vI b)) ∧ Canon (dg zx) ∧ (dg zx).length ≤ 16) zx) ∧ ∀ x8 : Row, (RowOK x8 ∧ nv (dg x8) = (num (vI b)) ∧ Canon (dg x8) ∧ (dg x8).length ≤ 16) → true = true ∧ (CallT Try.prog 31 #[sv x7, sv x8] [(ss 3 x7), (ss 3 x8)] Row (fun zx => sv zx) (fun zx => [(ss 3 x7), (ss 3 x8), (ss 3 zx)]) (fun zx => RowOK zx ∧ nv (dg zx) = nv (rdv (sv x7) (ss 3 x7)) * nv (rdv (sv x8) (ss 3 x8)) ∧ Canon (dg zx))) ∧ (∃ zx : Row, (fun zx => RowOK zx ∧ nv (dg zx) = nv (rdv (sv x7) (ss 3 x7)) * nv (rdv (sv x8) (ss 3 x8)) ∧ Canon (dg zx)) zx) ∧ ∀ x9 : Row, (RowOK x9 ∧ nv (dg x9) = nv (rdv (sv x7) (ss 3 x7)) * nv (rdv (sv x8) (ss 3 x8)) ∧ Canon (dg x9)) → true = true ∧ (CallT Try.prog 27 #[sv x6, sv x9] [(ss 3 x6), (ss 3 x9)] Int (fun zx => .int .i64 zx) (fun _ => [(ss 3 x6), (ss 3 x9)]) (fun zx => zx = hCmp (nv (rdv (sv x6) (ss 3 x6))) (nv (rdv (sv x9) (ss 3 x9))))) ∧ (∃ zx : Int, (fun zx => zx = hCmp (nv (rdv (sv x6) (ss 3 x6))) (nv (rdv (sv x9) (ss 3 x9)))) zx) ∧ ∀ x10 : Int, (x10 = hCmp (nv (rdv (sv x6) (ss 3 x6))) (nv (rdv (sv x9) (ss 3 x9)))) → true = true ∧ ∃ _ : Unit, (True) ∧ Value.bool (x10 == (0 : Int)) = .bool true ∧ True) := by kernel_rfl
set_option maxRecDepth 100000 in
theorem law3_WideProducts (a : Int) (b : Int) (r_a : R4 a) (r_b : R4 b) : CallT Try.prog 5 #[vI a, vI b] [] Unit (fun _ => .bool true) (fun _ => []) (fun _ => True) := by
  refine call_of (c := bodyOf Try.f5) (n := 27) (fn := Try.f5) Try.mixed Try.func5 (by kernel_rfl) (by kernel_rfl) (by kernel_rfl) 2000 _ [] [] rfl rfl (Eq.mpr (law3_WideProducts_vc a b) ?_)
  intro b1
  intro b2
  refine ⟨law3_lives, ⟨(), trivial⟩, ?_⟩
  intro _
  intro _
  refine ⟨rfl, ?_⟩
  refine ⟨rfl, rfl, rfl, rfl, rfl, rfl, rfl, rfl, rfl, rfl, rfl, rfl, rfl, rfl, rfl, rfl, wide_Product a b (by assumption) (by assumption), ⟨_, prod_R (R4_num a) (R4_num b), rfl⟩, ?_⟩
  intro x3
  intro h1
  obtain ⟨rh1_, h1⟩ := h1
  try simp only [num_vI (n := a) (by assumption), num_vI (n := b) (by assumption)] at h1
  have hp1 := h1
  intro b4
  refine ⟨rfl, rfl, rfl, rfl, rfl, rfl, rfl, rfl, rfl, rfl, rfl, rfl, rfl, rfl, rfl, rfl, ?_⟩
  refine ⟨rfl, rfl, rfl, rfl, rfl, rfl, rfl, rfl, rfl, rfl, rfl, rfl, rfl, rfl, rfl, rfl, rfl, rfl, rfl, rfl, rfl, rfl, rfl, rfl, rfl, rfl, rfl, rfl, rfl, rfl, rfl, rfl, wide_Product b a (by assumption) (by assumption), ⟨_, prod_R (R4_num b) (R4_num a), rfl⟩, ?_⟩
  intro x5
  intro h2
  obtain ⟨rh2_, h2⟩ := h2
  try simp only [num_vI (n := b) (by assumption), num_vI (n := a) (by assumption)] at h2
  have hp2 := h2
  refine ⟨OpT.ofPure (Try.xeq56 x3 x5) (congrArg Value.bool (by rw [hp1, hp2, Int.mul_comm b a]; simp)), ⟨(), trivial⟩, ?_⟩
  intro _
  intro _
  refine ⟨rfl, rfl, rfl, rfl, rfl, rfl, rfl, rfl, rfl, rfl, rfl, rfl, rfl, rfl, rfl, rfl, rfl, rfl, law3_row x3 (by assumption), wit_wide (by first | exact R8_num _ | exact by assumption), ?_⟩
  intro x6
  intro h3
  obtain ⟨rh3_, h3⟩ := h3
  try simp only [num_vW (n := x3) (by assumption)] at h3
  have hP := h3
  refine ⟨rfl, rfl, rfl, rfl, rfl, rfl, rfl, rfl, rfl, rfl, ref2_Row a (by assumption), wit_num (by first | exact R4_num _ | exact by assumption), ?_⟩
  intro x7
  intro h4
  obtain ⟨rh4_, h4⟩ := h4
  try simp only [num_vI (n := a) (by assumption)] at h4
  have hA := h4
  refine ⟨rfl, rfl, rfl, rfl, rfl, rfl, rfl, rfl, rfl, rfl, ref2_Row b (by assumption), wit_num (by first | exact R4_num _ | exact by assumption), ?_⟩
  intro x8
  intro h5
  obtain ⟨rh5_, h5⟩ := h5
  try simp only [num_vI (n := b) (by assumption)] at h5
  have hB := h5
  refine ⟨rfl, ref1_Mul x7 x8 (by first | assumption | exact rowOK_lit _ _ (by decide)) (by first | assumption | exact rowOK_lit _ _ (by decide)) (by omega) (by omega), wit_row (by rw [rdv_eq x7, rdv_eq x8]; exact Int.mul_nonneg (nv_nonneg (RowOK.dig (by first | assumption | exact rowOK_lit _ _ (by decide)))) (nv_nonneg (RowOK.dig (by first | assumption | exact rowOK_lit _ _ (by decide))))), ?_⟩
  intro x9
  intro h6
  simp only [rdv_eq] at h6
  obtain ⟨rh6_, h6⟩ := h6
  have hM := h6
  have lq : (dg x9).length ≤ 64 := len40 (RowOK.dig (by assumption)) hM.2 (by rw [hM.1, hA.1, hB.1]) (wide_num (prod_R r_a r_b))
  refine ⟨rfl, ref1_Cmp x6 x9 (by first | assumption | exact rowOK_lit _ _ (by decide)) (by first | assumption | exact rowOK_lit _ _ (by decide)) (by omega) (by omega), ⟨_, rfl⟩, ?_⟩
  intro x10
  intro h7
  simp only [rdv_eq] at h7
  have hC := h7
  refine ⟨rfl, ?_⟩
  refine ⟨(), trivial, ?_, trivial⟩
  rw [hC, hP.1, hM.1, hA.1, hB.1, hp1, ← hCmp_eq rfl]
  rfl

end Go.Proofs
