/- Contracts of this program's functions, and their proofs, printed by a program of the prover's own (see the claim's other texts for what the words mean). -/
import Derived.Test.YtbbfglcgnfehcaaL16UsesC3
set_option linter.unusedVariables false
set_option linter.unusedSimpArgs false
namespace Go.Proofs
open Go.Sx
set_option maxRecDepth 100000 in
set_option maxHeartbeats 1000000 in
theorem share_In (A : Int) (S : Int) (n : Int) (r_A : R4 A) (r_S : R4 S) (r_n : R4 n) : CallT Try.prog 12 #[vI A, vI S, vI n] [] (Int × Int) (fun zx => .tuple #[vI zx.1, .int .i64 zx.2]) (fun zx => []) (fun zx => (R4 zx.1 ∧ zx = sIn (num (vI A)) (num (vI S)) (num (vI n)))) := by
  refine call_of (c := bodyOf Try.f12) (n := 66) (fn := Try.f12) Try.mixed Try.func12 (by kernel_rfl) (by kernel_rfl) (by kernel_rfl) 2000 _ [.rd 3, .rd 3, .rd 3, .rd 3] [] rfl rfl (Eq.mpr (share_In_vc A S n) ?_)
  have g0 := r_A.1; have g1 := r_S.1; have g2 := r_n.1
  have qn := quo_nonneg r_n.1 r_S.1 r_A.1
  intro b1
  intro b2
  intro b3
  intro b4
  refine ⟨rfl, rfl, rfl, rfl, rfl, rfl, rfl, rfl, Try.xeq24 n 0, ?_⟩
  refine ⟨fun h1 => ?_, fun h1 => ?_⟩
  · refine ⟨rfl, rfl, rfl, rfl, rfl, rfl, rfl, rfl, rfl, rfl, rfl, rfl, rfl, rfl, rfl, rfl, ?_⟩
    refine ⟨rfl, rfl, rfl, rfl, rfl, rfl, rfl, rfl, ?_⟩
    try simp (disch := first | assumption | exact R4_zero | exact R4_one) only [num_vI, hCmp_pos, hCmp_neg, hCmp_le0, hCmp_ge0, decide_eq_true_eq, decide_eq_false_iff_not, gt_iff_lt, ge_iff_le, beq_iff_eq, beq_eq_false_iff_ne, bne_iff_ne, bne_eq_false_iff_eq, ne_eq] at *
    have ha : n = 0 := by omega
    have hs : sIn A S n = (0, 3) := by
      unfold sIn
      (repeat' split) <;> first | rfl | (exfalso; omega)
    exact ⟨(0, 3), ⟨R4_zero, by first | exact hs.symm | (rw [num_vI r_A, num_vI r_S, num_vI r_n]; exact hs.symm)⟩, by rw [ha], trivial⟩
  · refine ⟨rfl, rfl, rfl, rfl, rfl, rfl, rfl, rfl, rfl, rfl, rfl, rfl, rfl, rfl, rfl, rfl, share_more A S (by assumption) (by assumption), ⟨_, (sMore_R (by first | exact R4_num _ | exact by assumption) (by first | exact R4_num _ | exact by assumption)).1, (sMore_R (by first | exact R4_num _ | exact by assumption) (by first | exact R4_num _ | exact by assumption)).2, rfl⟩, ?_⟩
    intro x5
    intro h2
    obtain ⟨rh2_1, h2⟩ := h2
    obtain ⟨rh2_21, h2⟩ := h2
    try simp only [num_vI (n := A) (by assumption), num_vI (n := S) (by assumption)] at h2
    have cm := sMore_cases h2
    intro b6
    intro b7
    refine ⟨rfl, rfl, rfl, rfl, rfl, rfl, rfl, rfl, rfl, rfl, rfl, rfl, rfl, rfl, rfl, rfl, ?_⟩
    refine ⟨fun h3 => ?_, fun h3 => ?_⟩
    · refine ⟨rfl, rfl, rfl, rfl, rfl, rfl, rfl, rfl, ?_⟩
      refine ⟨rfl, rfl, rfl, rfl, rfl, rfl, rfl, rfl, ?_⟩
      try simp (disch := first | assumption | exact R4_zero | exact R4_one) only [num_vI, hCmp_pos, hCmp_neg, hCmp_le0, hCmp_ge0, decide_eq_true_eq, decide_eq_false_iff_not, gt_iff_lt, ge_iff_le, beq_iff_eq, beq_eq_false_iff_ne, bne_iff_ne, bne_eq_false_iff_eq, ne_eq] at *
      have he : x5.2.2 = 2 := by omega
      have hs : sIn A S n = (0, 2) := by
        unfold sIn
        (repeat' split) <;> first | rfl | (exfalso; omega)
      exact ⟨(0, 2), ⟨R4_zero, by first | exact hs.symm | (rw [num_vI r_A, num_vI r_S, num_vI r_n]; exact hs.symm)⟩, by rw [he, vI_zero], trivial⟩
    · refine ⟨rfl, rfl, rfl, rfl, rfl, rfl, rfl, rfl, rfl, rfl, rfl, rfl, rfl, rfl, rfl, rfl, rfl, rfl, rfl, rfl, rfl, rfl, rfl, rfl, wide_MulDiv n x5.2.1 x5.1 (by assumption) (by assumption) (by assumption), ⟨_, wMulDiv_R (R4_num _) (R4_num _) (R4_num _), rfl⟩, ?_⟩
      intro x8
      intro h4
      obtain ⟨rh4_1, h4⟩ := h4
      try simp only [num_vI (n := n) (by assumption), num_vI (n := x5.2.1) (by assumption), num_vI (n := x5.1) (by assumption)] at h4
      have cq := wMulDiv_cases h4 (by try simp (disch := first | assumption | exact R4_zero | exact R4_one) only [num_vI, hCmp_pos, hCmp_neg, hCmp_le0, hCmp_ge0, decide_eq_true_eq, decide_eq_false_iff_not, gt_iff_lt, ge_iff_le, beq_iff_eq, beq_eq_false_iff_ne, bne_iff_ne, bne_eq_false_iff_eq, ne_eq] at *; omega)
      rw [show x5.2.1 = S + 1 from by try simp (disch := first | assumption | exact R4_zero | exact R4_one) only [num_vI, hCmp_pos, hCmp_neg, hCmp_le0, hCmp_ge0, decide_eq_true_eq, decide_eq_false_iff_not, gt_iff_lt, ge_iff_le, beq_iff_eq, beq_eq_false_iff_ne, bne_iff_ne, bne_eq_false_iff_eq, ne_eq] at *; omega, show x5.1 = A + 1 from by try simp (disch := first | assumption | exact R4_zero | exact R4_one) only [num_vI, hCmp_pos, hCmp_neg, hCmp_le0, hCmp_ge0, decide_eq_true_eq, decide_eq_false_iff_not, gt_iff_lt, ge_iff_le, beq_iff_eq, beq_eq_false_iff_ne, bne_iff_ne, bne_eq_false_iff_eq, ne_eq] at *; omega] at cq
      intro b9
      refine ⟨rfl, rfl, rfl, rfl, rfl, rfl, rfl, rfl, ?_⟩
      refine ⟨fun h5 => ?_, fun h5 => ?_⟩
      · refine ⟨rfl, rfl, rfl, rfl, rfl, rfl, rfl, rfl, ?_⟩
        refine ⟨rfl, rfl, rfl, rfl, rfl, rfl, rfl, rfl, ?_⟩
        try simp (disch := first | assumption | exact R4_zero | exact R4_one) only [num_vI, hCmp_pos, hCmp_neg, hCmp_le0, hCmp_ge0, decide_eq_true_eq, decide_eq_false_iff_not, gt_iff_lt, ge_iff_le, beq_iff_eq, beq_eq_false_iff_ne, bne_iff_ne, bne_eq_false_iff_eq, ne_eq] at *
        have he : x8.2 = 2 := by omega
        have hs : sIn A S n = (0, 2) := by
          unfold sIn
          (repeat' split) <;> first | rfl | (exfalso; omega)
        exact ⟨(0, 2), ⟨R4_zero, by first | exact hs.symm | (rw [num_vI r_A, num_vI r_S, num_vI r_n]; exact hs.symm)⟩, by rw [he, vI_zero], trivial⟩
      · refine ⟨rfl, rfl, rfl, rfl, rfl, rfl, rfl, rfl, Try.xeq24 x8.1 0, ?_⟩
        refine ⟨fun h6 => ?_, fun h6 => ?_⟩
        · refine ⟨rfl, rfl, rfl, rfl, rfl, rfl, rfl, rfl, rfl, rfl, rfl, rfl, rfl, rfl, rfl, rfl, ?_⟩
          refine ⟨rfl, rfl, rfl, rfl, rfl, rfl, rfl, rfl, ?_⟩
          try simp (disch := first | assumption | exact R4_zero | exact R4_one) only [num_vI, hCmp_pos, hCmp_neg, hCmp_le0, hCmp_ge0, decide_eq_true_eq, decide_eq_false_iff_not, gt_iff_lt, ge_iff_le, beq_iff_eq, beq_eq_false_iff_ne, bne_iff_ne, bne_eq_false_iff_eq, ne_eq] at *
          have ha : x8.1 = 0 := by omega
          have hs : sIn A S n = (0, 3) := by
            unfold sIn
            (repeat' split) <;> first | rfl | (exfalso; omega)
          exact ⟨(0, 3), ⟨R4_zero, by first | exact hs.symm | (rw [num_vI r_A, num_vI r_S, num_vI r_n]; exact hs.symm)⟩, by rw [ha], trivial⟩
        · refine ⟨rfl, rfl, rfl, rfl, rfl, rfl, rfl, rfl, rfl, rfl, rfl, rfl, rfl, rfl, rfl, rfl, huge_Add A n (by assumption) (by assumption), ⟨hAdd (num (vI A)) (num (vI n)), hAdd_R (R4_num _) (R4_num _), rfl⟩, ?_⟩
          intro x10
          intro h7
          obtain ⟨rh7_1, h7⟩ := h7
          try simp only [num_vI (n := A) (by assumption), num_vI (n := n) (by assumption)] at h7
          have ha := h7
          have cha := hAdd_cases h7
          refine ⟨rfl, rfl, rfl, rfl, rfl, rfl, rfl, rfl, rfl, rfl, rfl, rfl, rfl, rfl, rfl, rfl, huge_Add S x8.1 (by assumption) (by assumption), ⟨hAdd (num (vI S)) (num (vI x8.1)), hAdd_R (R4_num _) (R4_num _), rfl⟩, ?_⟩
          intro x11
          intro h8
          obtain ⟨rh8_1, h8⟩ := h8
          try simp only [num_vI (n := S) (by assumption), num_vI (n := x8.1) (by assumption)] at h8
          have hb := h8
          have chb := hAdd_cases h8
          intro b12
          refine ⟨rfl, rfl, rfl, rfl, rfl, rfl, rfl, rfl, ?_⟩
          refine ⟨fun h9 => ?_, fun h9 => ?_⟩
          · refine ⟨⟨(), trivial, congrArg Value.bool h9⟩, ?_⟩
            intro _
            intro _
            refine ⟨rfl, rfl, ?_⟩
            refine ⟨rfl, ?_⟩
            refine ⟨rfl, rfl, rfl, rfl, rfl, rfl, rfl, rfl, ?_⟩
            refine ⟨rfl, rfl, rfl, rfl, rfl, rfl, rfl, rfl, ?_⟩
            try simp (disch := first | assumption | exact R4_zero | exact R4_one) only [num_vI, hCmp_pos, hCmp_neg, hCmp_le0, hCmp_ge0, decide_eq_true_eq, decide_eq_false_iff_not, gt_iff_lt, ge_iff_le, beq_iff_eq, beq_eq_false_iff_ne, bne_iff_ne, bne_eq_false_iff_eq, ne_eq] at *
            have hs : sIn A S n = (0, 2) := by
              unfold sIn
              (repeat' split) <;> first | rfl | (exfalso; omega)
            exact ⟨(0, 2), ⟨R4_zero, by first | exact hs.symm | (rw [num_vI r_A, num_vI r_S, num_vI r_n]; exact hs.symm)⟩, by rw [vI_zero], trivial⟩
          · refine ⟨⟨(), trivial, congrArg Value.bool h9⟩, ?_⟩
            intro _
            intro _
            refine ⟨rfl, rfl, ?_⟩
            refine ⟨fun h10 => ?_, fun h10 => ?_⟩
            · refine ⟨rfl, rfl, rfl, rfl, rfl, rfl, rfl, rfl, ?_⟩
              refine ⟨rfl, rfl, rfl, rfl, rfl, rfl, rfl, rfl, ?_⟩
              try simp (disch := first | assumption | exact R4_zero | exact R4_one) only [num_vI, hCmp_pos, hCmp_neg, hCmp_le0, hCmp_ge0, decide_eq_true_eq, decide_eq_false_iff_not, gt_iff_lt, ge_iff_le, beq_iff_eq, beq_eq_false_iff_ne, bne_iff_ne, bne_eq_false_iff_eq, ne_eq] at *
              have hs : sIn A S n = (0, 2) := by
                unfold sIn
                (repeat' split) <;> first | rfl | (exfalso; omega)
              exact ⟨(0, 2), ⟨R4_zero, by first | exact hs.symm | (rw [num_vI r_A, num_vI r_S, num_vI r_n]; exact hs.symm)⟩, by rw [vI_zero], trivial⟩
            · refine ⟨rfl, rfl, rfl, rfl, rfl, rfl, rfl, rfl, rfl, rfl, rfl, rfl, rfl, rfl, rfl, rfl, ?_⟩
              refine ⟨rfl, rfl, rfl, rfl, rfl, rfl, rfl, rfl, ?_⟩
              try simp (disch := first | assumption | exact R4_zero | exact R4_one) only [num_vI, hCmp_pos, hCmp_neg, hCmp_le0, hCmp_ge0, decide_eq_true_eq, decide_eq_false_iff_not, gt_iff_lt, ge_iff_le, beq_iff_eq, beq_eq_false_iff_ne, bne_iff_ne, bne_eq_false_iff_eq, ne_eq] at *
              have ha : x8.1 = n * (S + 1) / (A + 1) := by omega
              have hs : sIn A S n = (n * (S + 1) / (A + 1), 0) := by
                unfold sIn
                (repeat' split) <;> first | rfl | (exfalso; omega)
              exact ⟨(n * (S + 1) / (A + 1), 0), ⟨ha ▸ (by assumption), by first | exact hs.symm | (rw [num_vI r_A, num_vI r_S, num_vI r_n]; exact hs.symm)⟩, by rw [ha], trivial⟩

def law16_lives_C : List Value → List Slot → Ctr := fun vs hs => ⟨Unit, fun _ => .bool true, fun _ => hs, fun _ => True⟩
set_option maxRecDepth 100000 in
theorem law16_lives_vc  : codeW Try.prog 30 none 2000 none (bodyOf Try.f4) (.reg [.sem []] (.reg [.sem [], .sem [], .callr [] huge_Of_C, .callr [] share_In_C, .sem [], .sem [], .sem [], .sem [.nw 0], .sem [.wr 0, .wr 0, .wr 0, .wr 0], .sem []] (.reg [.callr [] huge_Of_C, .sem [], .callr [] huge_Of_C, .callr [] share_In_C, .sem [], .sem [], .sem [], .sem [.nw 1], .sem [.wr 1, .wr 1, .wr 1, .wr 1], .sem []] (.reg [.sem [], .gen [] (one (.bool true)), .sem [], .sem [.rd 0, .rd 0, .rd 0, .rd 0], .callr [] huge_Of_C, .specr [] (fun _ hs => ⟨Unit, fun _ => .bool true, fun _ => hs, fun _ => True⟩), .sem [], .sem [], .sem [], .gen [] (one (.bool true)), .sem [], .sem []] (.done)))))
    (init #[] []) (finW Try.prog Try.f4 [] [] (X := Unit) (fun _ => .bool true) (fun _ => []) (fun _ => True)) =
    ((CallT Try.prog 11 #[.int .u64 5] [] Unit (fun _ => vI (5 : Int)) (fun _ => []) (fun _ => True)) ∧ (∃ zx : Unit, (fun _ => True) zx) ∧ ∀ _ : Unit, (True) → (CallT Try.prog 12 #[.agg #[.int .u64 0, .int .u64 0, .int .u64 0, .int .u64 0], .agg #[.int .u64 0, .int .u64 0, .int .u64 0, .int .u64 0], vI (5 : Int)] [] (Int × Int) (fun zx => .tuple #[vI zx.1, .int .i64 zx.2]) (fun _ => []) (fun zx => R4 zx.1 ∧ zx = sIn (num (vI (0 : Int))) (num (vI (0 : Int))) (num (vI (5 : Int))))) ∧ (∃ zx : Int × Int, (fun zx => R4 zx.1 ∧ zx = sIn (num (vI (0 : Int))) (num (vI (0 : Int))) (num (vI (5 : Int)))) zx) ∧ ∀ x1 : Int × Int, (R4 x1.1 ∧ x1 = sIn (num (vI (0 : Int))) (num (vI (0 : Int))) (num (vI (5 : Int)))) → ∀ b2 : Nat, b2 = b2 ∧ (none : Option Nat) = none ∧ b2 = b2 ∧ (none : Option Nat) = none ∧ b2 = b2 ∧ (none : Option Nat) = none ∧ b2 = b2 ∧ (none : Option Nat) = none ∧ (CallT Try.prog 11 #[.int .u64 100] [] Unit (fun _ => vI (100 : Int)) (fun _ => []) (fun _ => True)) ∧ (∃ zx : Unit, (fun _ => True) zx) ∧ ∀ _ : Unit, (True) → (CallT Try.prog 11 #[.int .u64 50] [] Unit (fun _ => vI (50 : Int)) (fun _ => []) (fun _ => True)) ∧ (∃ zx : Unit, (fun _ => True) zx) ∧ ∀ _ : Unit, (True) → (CallT Try.prog 12 #[vI (100 : Int), .agg #[.int .u64 0, .int .u64 0, .int .u64 0, .int .u64 0], vI (50 : Int)] [] (Int × Int) (fun zx => .tuple #[vI zx.1, .int .i64 zx.2]) (fun _ => []) (fun zx => R4 zx.1 ∧ zx = sIn (num (vI (100 : Int))) (num (vI (0 : Int))) (num (vI (50 : Int))))) ∧ (∃ zx : Int × Int, (fun zx => R4 zx.1 ∧ zx = sIn (num (vI (100 : Int))) (num (vI (0 : Int))) (num (vI (50 : Int)))) zx) ∧ ∀ x3 : Int × Int, (R4 x3.1 ∧ x3 = sIn (num (vI (100 : Int))) (num (vI (0 : Int))) (num (vI (50 : Int)))) → ∀ b4 : Nat, b4 = b4 ∧ (none : Option Nat) = none ∧ b4 = b4 ∧ (none : Option Nat) = none ∧ b4 = b4 ∧ (none : Option Nat) = none ∧ b4 = b4 ∧ (none : Option Nat) = none ∧ (∃ _ : Unit, True ∧ Value.bool (x1.2 == (0 : Int)) = .bool true) ∧ ∀ _ : Unit, (True) → true = true ∧ b2 = b2 ∧ (none : Option Nat) = none ∧ b2 = b2 ∧ (none : Option Nat) = none ∧ b2 = b2 ∧ (none : Option Nat) = none ∧ b2 = b2 ∧ (none : Option Nat) = none ∧ true = true ∧ (CallT Try.prog 11 #[.int .u64 5] [] Unit (fun _ => vI (5 : Int)) (fun _ => []) (fun _ => True)) ∧ (∃ zx : Unit, (fun _ => True) zx) ∧ ∀ _ : Unit, (True) → true = true ∧ (OpT Try.prog (xBin .eql 24 (vI x1.1) (vI (5 : Int))) [] Unit (fun _ => .bool true) (fun _ => []) (fun _ => True)) ∧ (∃ zx : Unit, (fun _ => True) zx) ∧ ∀ _ : Unit, (True) → true = true ∧ true = true ∧ (∃ _ : Unit, True ∧ Value.bool (x3.2 == (3 : Int)) = .bool true) ∧ ∀ _ : Unit, (True) → ∃ _ : Unit, (True) ∧ Value.bool true = .bool true ∧ True) := by kernel_rfl
set_option maxRecDepth 100000 in
theorem law16_lives   : CallT Try.prog 4 #[] [] Unit (fun _ => .bool true) (fun _ => []) (fun _ => True) := by
  refine call_of (c := bodyOf Try.f4) (n := 30) (fn := Try.f4) Try.mixed Try.func4 (by kernel_rfl) (by kernel_rfl) (by kernel_rfl) 2000 _ [] [] rfl rfl (Eq.mpr (law16_lives_vc ) ?_)
  refine ⟨huge_Of (5 : Int) (by first | assumption | exact W_lim _ _ | (unfold W; decide)), ⟨(), trivial⟩, ?_⟩
  intro _
  intro _
  refine ⟨share_In (0 : Int) (0 : Int) (5 : Int) (by unfold R4; decide) (by unfold R4; decide) (by unfold R4; decide), ⟨_, sIn_R (by first | exact R4_num _ | exact by unfold R4; decide) (by first | exact R4_num _ | exact by unfold R4; decide) (by first | exact R4_num _ | exact by unfold R4; decide), rfl⟩, ?_⟩
  intro x1
  intro h1
  obtain ⟨rh1_1, h1⟩ := h1
  try simp only [num_vI (n := (0 : Int)) (by unfold R4; decide), num_vI (n := (0 : Int)) (by unfold R4; decide), num_vI (n := (5 : Int)) (by unfold R4; decide)] at h1
  have h1 := h1
  replace h1 := h1.trans (show sIn 0 0 5 = (5, 0) from by decide +kernel)
  intro b2
  refine ⟨rfl, rfl, rfl, rfl, rfl, rfl, rfl, rfl, ?_⟩
  refine ⟨huge_Of (100 : Int) (by first | assumption | exact W_lim _ _ | (unfold W; decide)), ⟨(), trivial⟩, ?_⟩
  intro _
  intro _
  refine ⟨huge_Of (50 : Int) (by first | assumption | exact W_lim _ _ | (unfold W; decide)), ⟨(), trivial⟩, ?_⟩
  intro _
  intro _
  refine ⟨share_In (100 : Int) (0 : Int) (50 : Int) (by unfold R4; decide) (by unfold R4; decide) (by unfold R4; decide), ⟨_, sIn_R (by first | exact R4_num _ | exact by unfold R4; decide) (by first | exact R4_num _ | exact by unfold R4; decide) (by first | exact R4_num _ | exact by unfold R4; decide), rfl⟩, ?_⟩
  intro x3
  intro h2
  obtain ⟨rh2_1, h2⟩ := h2
  try simp only [num_vI (n := (100 : Int)) (by unfold R4; decide), num_vI (n := (0 : Int)) (by unfold R4; decide), num_vI (n := (50 : Int)) (by unfold R4; decide)] at h2
  have h2 := h2
  replace h2 := h2.trans (show sIn 100 0 50 = (0, 3) from by decide +kernel)
  intro b4
  refine ⟨rfl, rfl, rfl, rfl, rfl, rfl, rfl, rfl, ?_⟩
  refine ⟨⟨(), trivial, congrArg Value.bool (by rw [h1]; rfl)⟩, ?_⟩
  intro _
  intro _
  refine ⟨rfl, rfl, rfl, rfl, rfl, rfl, rfl, rfl, rfl, rfl, huge_Of (5 : Int) (by first | assumption | exact W_lim _ _ | (unfold W; decide)), ⟨(), trivial⟩, ?_⟩
  intro _
  intro _
  refine ⟨rfl, OpT.ofPure (Try.xeq24 x1.1 (5 : Int)) (congrArg Value.bool ((by rw [h1]; exact beq_self_eq_true _))), ⟨(), trivial⟩, ?_⟩
  intro _
  intro _
  refine ⟨rfl, rfl, ⟨(), trivial, congrArg Value.bool (by rw [h2]; rfl)⟩, ?_⟩
  intro _
  intro _
  exact ⟨(), trivial, rfl, trivial⟩

def huge_Short2_C : List Value → List Slot → Ctr := fun vs hs => ⟨Int × Int, fun zx => .tuple #[vI zx.1, .int .u64 zx.2, .int .i64 0], fun _ => hs, fun zx => R4 zx.1 ∧ zx.1 = (num (varg vs 1)) / 2 ∧ zx.2 = (num (varg vs 1)) % 2⟩
set_option maxRecDepth 100000 in
theorem huge_Short2_vc (a : Int) : codeW Try.prog 29 none 2000 none (bodyOf Try.f13) (.reg [.sem [.nw 0], .sem [.nw 1], .sem [], .sem []] (.reg [.sem [], .sem []] (.condF (.reg [.sem []] (.reg [.sem [], .sem []] (.condT (.reg [.sem [], .sem [], .sem [], .sem [], .sem [.rd 0], .sem [], .callr [] limb_Div_C, .sem [], .sem [], .sem [], .sem [], .sem [], .sem [.wr 1], .sem []] (.reg [.sem [], .sem [], .sem []] (.reg [.sem [], .sem []] (.condT (.reg [.sem [], .sem [], .sem [], .sem [], .sem [.rd 0], .sem [], .callr [] limb_Div_C, .sem [], .sem [], .sem [], .sem [], .sem [], .sem [.wr 1], .sem []] (.reg [.sem [], .sem [], .sem []] (.reg [.sem [], .sem []] (.condT (.reg [.sem [], .sem [], .sem [], .sem [], .sem [.rd 0], .sem [], .callr [] limb_Div_C, .sem [], .sem [], .sem [], .sem [], .sem [], .sem [.wr 1], .sem []] (.reg [.sem [], .sem [], .sem []] (.reg [.sem [], .sem []] (.condT (.reg [.sem [], .sem [], .sem [], .sem [], .sem [.rd 0], .sem [], .callr [] limb_Div_C, .sem [], .sem [], .sem [], .sem [], .sem [], .sem [.wr 1], .sem []] (.reg [.sem [], .sem [], .sem []] (.reg [.sem [], .sem []] (.condF (.reg [.sem [.rd 1, .rd 1, .rd 1, .rd 1], .sem [], .sem [.wr 1, .wr 1, .wr 1, .wr 1], .sem [], .sem []] (.done))))))))))))))))))))))))
    (init #[vI a, .int .u64 2] []) (finW Try.prog Try.f13 [.rd 1, .rd 1, .rd 1, .rd 1] [] (X := Int × Int) (fun zx => .tuple #[vI zx.1, .int .u64 zx.2, .int .i64 0]) (fun zx => []) (fun zx => (R4 zx.1 ∧ zx.1 = (num (vI a)) / 2 ∧ zx.2 = (num (vI a)) % 2))) =
    (∀ b1 : Nat, ∀ b2 : Nat, (false = false) ∧ (true = true) ∧ b1 = b1 ∧ (none : Option Nat) = none ∧ (CallT Try.prog 26 #[.int .u64 0, .int .u64 (lim a 3), .int .u64 2] [] (Int × Int × Int) (fun zx => .tuple #[.int .u64 zx.1, .int .u64 zx.2.1, .int .i64 zx.2.2]) (fun _ => []) (fun zx => DivR (0 : Int) (lim a 3) (2 : Int) zx.1 zx.2.1 zx.2.2)) ∧ (∃ zx : Int × Int × Int, (fun zx => DivR (0 : Int) (lim a 3) (2 : Int) zx.1 zx.2.1 zx.2.2) zx) ∧ ∀ x3 : Int × Int × Int, (DivR (0 : Int) (lim a 3) (2 : Int) x3.1 x3.2.1 x3.2.2) → b2 = b2 ∧ (none : Option Nat) = none ∧ (true = true) ∧ b1 = b1 ∧ (none : Option Nat) = none ∧ (CallT Try.prog 26 #[.int .u64 x3.2.1, .int .u64 (lim a 2), .int .u64 2] [] (Int × Int × Int) (fun zx => .tuple #[.int .u64 zx.1, .int .u64 zx.2.1, .int .i64 zx.2.2]) (fun _ => []) (fun zx => DivR x3.2.1 (lim a 2) (2 : Int) zx.1 zx.2.1 zx.2.2)) ∧ (∃ zx : Int × Int × Int, (fun zx => DivR x3.2.1 (lim a 2) (2 : Int) zx.1 zx.2.1 zx.2.2) zx) ∧ ∀ x4 : Int × Int × Int, (DivR x3.2.1 (lim a 2) (2 : Int) x4.1 x4.2.1 x4.2.2) → b2 = b2 ∧ (none : Option Nat) = none ∧ (true = true) ∧ b1 = b1 ∧ (none : Option Nat) = none ∧ (CallT Try.prog 26 #[.int .u64 x4.2.1, .int .u64 (lim a 1), .int .u64 2] [] (Int × Int × Int) (fun zx => .tuple #[.int .u64 zx.1, .int .u64 zx.2.1, .int .i64 zx.2.2]) (fun _ => []) (fun zx => DivR x4.2.1 (lim a 1) (2 : Int) zx.1 zx.2.1 zx.2.2)) ∧ (∃ zx : Int × Int × Int, (fun zx => DivR x4.2.1 (lim a 1) (2 : Int) zx.1 zx.2.1 zx.2.2) zx) ∧ ∀ x5 : Int × Int × Int, (DivR x4.2.1 (lim a 1) (2 : Int) x5.1 x5.2.1 x5.2.2) → b2 = b2 ∧ (none : Option Nat) = none ∧ (true = true) ∧ b1 = b1 ∧ (none : Option Nat) = none ∧ (CallT Try.prog 26 #[.int .u64 x5.2.1, .int .u64 (lim a 0), .int .u64 2] [] (Int × Int × Int) (fun zx => .tuple #[.int .u64 zx.1, .int .u64 zx.2.1, .int .i64 zx.2.2]) (fun _ => []) (fun zx => DivR x5.2.1 (lim a 0) (2 : Int) zx.1 zx.2.1 zx.2.2)) ∧ (∃ zx : Int × Int × Int, (fun zx => DivR x5.2.1 (lim a 0) (2 : Int) zx.1 zx.2.1 zx.2.2) zx) ∧ ∀ x6 : Int × Int × Int, (DivR x5.2.1 (lim a 0) (2 : Int) x6.1 x6.2.1 x6.2.2) → b2 = b2 ∧ (none : Option Nat) = none ∧ (false = false) ∧ b2 = b2 ∧ (none : Option Nat) = none ∧ b2 = b2 ∧ (none : Option Nat) = none ∧ b2 = b2 ∧ (none : Option Nat) = none ∧ b2 = b2 ∧ (none : Option Nat) = none ∧ b2 = b2 ∧ (none : Option Nat) = none ∧ b2 = b2 ∧ (none : Option Nat) = none ∧ b2 = b2 ∧ (none : Option Nat) = none ∧ b2 = b2 ∧ (none : Option Nat) = none ∧ b2 = b2 ∧ (none : Option Nat) = none ∧ b2 = b2 ∧ (none : Option Nat) = none ∧ b2 = b2 ∧ (none : Option Nat) = none ∧ b2 = b2 ∧ (none : Option Nat) = none ∧ ∃ zx : Int × Int, (R4 zx.1 ∧ zx.1 = (num (vI a)) / 2 ∧ zx.2 = (num (vI a)) % 2) ∧ Value.tuple #[.agg #[.int .u64 x6.1, .int .u64 x5.1, .int .u64 x4.1, .int .u64 x3.1], .int .u64 x6.2.1, .int .i64 0] = .tuple #[vI zx.1, .int .u64 zx.2, .int .i64 0] ∧ True) := by kernel_rfl
set_option maxRecDepth 100000 in
theorem huge_Short2 (a : Int) (r_a : R4 a) : CallT Try.prog 13 #[vI a, .int .u64 2] [] (Int × Int) (fun zx => .tuple #[vI zx.1, .int .u64 zx.2, .int .i64 0]) (fun zx => []) (fun zx => (R4 zx.1 ∧ zx.1 = (num (vI a)) / 2 ∧ zx.2 = (num (vI a)) % 2)) := by
  refine call_of (c := bodyOf Try.f13) (n := 29) (fn := Try.f13) Try.mixed Try.func13 (by kernel_rfl) (by kernel_rfl) (by kernel_rfl) 2000 _ [.rd 1, .rd 1, .rd 1, .rd 1] [] rfl rfl (Eq.mpr (huge_Short2_vc a) ?_)
  intro b1
  intro b2
  refine ⟨rfl, ?_⟩
  refine ⟨rfl, ?_⟩
  refine ⟨rfl, rfl, limb_Div (0 : Int) (lim a 3) (2 : Int) (⟨by first | assumption | (unfold W; decide), W_lim _ _, by unfold W; decide⟩), wit_div (⟨by first | assumption | (unfold W; decide), W_lim _ _, by unfold W; decide⟩), ?_⟩
  intro x3
  intro h1
  obtain ⟨e3, o3, b3, c3, d3, f3⟩ := h1.ok (by omega)
  have w3 : W x3.2.1 := ⟨by omega, by omega⟩
  refine ⟨rfl, rfl, ?_⟩
  refine ⟨rfl, ?_⟩
  refine ⟨rfl, rfl, limb_Div x3.2.1 (lim a 2) (2 : Int) (⟨by first | assumption | (unfold W; decide), W_lim _ _, by unfold W; decide⟩), wit_div (⟨by first | assumption | (unfold W; decide), W_lim _ _, by unfold W; decide⟩), ?_⟩
  intro x4
  intro h2
  obtain ⟨e2, o2, b2, c2, d2, f2⟩ := h2.ok (by omega)
  have w2 : W x4.2.1 := ⟨by omega, by omega⟩
  refine ⟨rfl, rfl, ?_⟩
  refine ⟨rfl, ?_⟩
  refine ⟨rfl, rfl, limb_Div x4.2.1 (lim a 1) (2 : Int) (⟨by first | assumption | (unfold W; decide), W_lim _ _, by unfold W; decide⟩), wit_div (⟨by first | assumption | (unfold W; decide), W_lim _ _, by unfold W; decide⟩), ?_⟩
  intro x5
  intro h3
  obtain ⟨e1, o1, b1, c1, d1, f1⟩ := h3.ok (by omega)
  have w1 : W x5.2.1 := ⟨by omega, by omega⟩
  refine ⟨rfl, rfl, ?_⟩
  refine ⟨rfl, ?_⟩
  refine ⟨rfl, rfl, limb_Div x5.2.1 (lim a 0) (2 : Int) (⟨by first | assumption | (unfold W; decide), W_lim _ _, by unfold W; decide⟩), wit_div (⟨by first | assumption | (unfold W; decide), W_lim _ _, by unfold W; decide⟩), ?_⟩
  intro x6
  intro h4
  obtain ⟨e0, o0, b0, c0, d0, f0⟩ := h4.ok (by omega)
  have w0 : W x6.2.1 := ⟨by omega, by omega⟩
  refine ⟨rfl, rfl, ?_⟩
  refine ⟨rfl, ?_⟩
  refine ⟨rfl, rfl, rfl, rfl, rfl, rfl, rfl, rfl, rfl, rfl, rfl, rfl, rfl, rfl, rfl, rfl, ?_⟩
  refine ⟨rfl, rfl, rfl, rfl, rfl, rfl, rfl, rfl, ?_⟩
  have hs := short_two r_a (q0 := x6.1) (q1 := x5.1) (q2 := x4.1) (q3 := x3.1) (r0 := x6.2.1) (r1 := x5.2.1) (r2 := x4.2.1) (r3 := x3.2.1) (by omega) (by omega) (by omega) (by omega) ⟨b0, c0⟩ ⟨b1, c1⟩ ⟨b2, c2⟩ ⟨b3, c3⟩
  exact ⟨(num (.agg #[.int .u64 x6.1, .int .u64 x5.1, .int .u64 x4.1, .int .u64 x3.1]), x6.2.1), ⟨R4_num4 ⟨d0, f0⟩ ⟨d1, f1⟩ ⟨d2, f2⟩ ⟨d3, f3⟩, by rw [num_vI r_a]; have e := hs.1; dsimp only; rw [num4]; omega, by rw [num_vI r_a]; exact hs.2⟩, by rw [vI_num4 ⟨d0, f0⟩ ⟨d1, f1⟩ ⟨d2, f2⟩ ⟨d3, f3⟩], trivial⟩

def huge_Low_C : List Value → List Slot → Ctr := fun vs hs => ⟨Int × Bool, fun zx => .tuple #[.int .u64 zx.1, .bool zx.2], fun _ => hs, fun zx => zx.1 = (if (num (varg vs 1)) < 18446744073709551616 then (num (varg vs 1)) else 0) ∧ zx.2 = decide ((num (varg vs 1)) < 18446744073709551616)⟩
set_option maxRecDepth 100000 in
theorem huge_Low_vc (a : Int) : codeW Try.prog 11 none 2000 none (bodyOf Try.f18) (.reg [.sem [.nw 0], .sem [], .sem []] (.reg [.sem [.rd 0, .rd 0, .rd 0, .rd 0], .sem [], .sem [.rd 0], .callr [] huge_Of_C, .eq (f_ne)] (.cond (.reg [.sem [], .sem []] (.done)) (.reg [.sem [], .sem [.rd 0], .sem [], .sem []] (.done)))))
    (init #[vI a] []) (finW Try.prog Try.f18 [] [] (X := Int × Bool) (fun zx => .tuple #[.int .u64 zx.1, .bool zx.2]) (fun zx => []) (fun zx => (zx.1 = (if (num (vI a)) < 18446744073709551616 then (num (vI a)) else 0) ∧ zx.2 = decide ((num (vI a)) < 18446744073709551616)))) =
    (∀ b1 : Nat, b1 = b1 ∧ (none : Option Nat) = none ∧ b1 = b1 ∧ (none : Option Nat) = none ∧ b1 = b1 ∧ (none : Option Nat) = none ∧ b1 = b1 ∧ (none : Option Nat) = none ∧ b1 = b1 ∧ (none : Option Nat) = none ∧ (CallT Try.prog 11 #[.int .u64 (lim a 0)] [] Unit (fun _ => vI (lim a 0)) (fun _ => []) (fun _ => True)) ∧ (∃ zx : Unit, (fun _ => True) zx) ∧ ∀ _ : Unit, (True) → (PureRun Try.prog (xBin .neq 24 (vI a) (vI (lim a 0))) (.bool (num (vI a) != num (vI (lim a 0))))) ∧ ((num (vI a) != num (vI (lim a 0))) = true → ∃ zx : Int × Bool, (zx.1 = (if (num (vI a)) < 18446744073709551616 then (num (vI a)) else 0) ∧ zx.2 = decide ((num (vI a)) < 18446744073709551616)) ∧ Value.tuple #[.int .u64 0, .bool false] = .tuple #[.int .u64 zx.1, .bool zx.2] ∧ True) ∧ ((num (vI a) != num (vI (lim a 0))) = false → b1 = b1 ∧ (none : Option Nat) = none ∧ ∃ zx : Int × Bool, (zx.1 = (if (num (vI a)) < 18446744073709551616 then (num (vI a)) else 0) ∧ zx.2 = decide ((num (vI a)) < 18446744073709551616)) ∧ Value.tuple #[.int .u64 (lim a 0), .bool true] = .tuple #[.int .u64 zx.1, .bool zx.2] ∧ True)) := by kernel_rfl
set_option maxRecDepth 100000 in
theorem huge_Low (a : Int) (r_a : R4 a) : CallT Try.prog 18 #[vI a] [] (Int × Bool) (fun zx => .tuple #[.int .u64 zx.1, .bool zx.2]) (fun zx => []) (fun zx => (zx.1 = (if (num (vI a)) < 18446744073709551616 then (num (vI a)) else 0) ∧ zx.2 = decide ((num (vI a)) < 18446744073709551616))) := by
  refine call_of (c := bodyOf Try.f18) (n := 11) (fn := Try.f18) Try.mixed Try.func18 (by kernel_rfl) (by kernel_rfl) (by kernel_rfl) 2000 _ [] [] rfl rfl (Eq.mpr (huge_Low_vc a) ?_)
  intro b1
  refine ⟨rfl, rfl, rfl, rfl, rfl, rfl, rfl, rfl, rfl, rfl, huge_Of (lim a 0) (by first | assumption | exact W_lim _ _ | (unfold W; decide)), ⟨(), trivial⟩, ?_⟩
  intro _
  intro _
  refine ⟨Try.xne24 a (lim a 0), ?_⟩
  refine ⟨fun h1 => ?_, fun h1 => ?_⟩
  · have hq : num (vI a) ≠ num (vI (lim a 0)) := bne_iff_ne.1 (by assumption)
    rw [num_vI r_a, num_vI (lim_R4 0)] at hq
    have hi := low_iff r_a
    have hl : ¬ a < 18446744073709551616 := fun q => hq (hi.2 q)
    exact ⟨(0, false), ⟨by rw [num_vI r_a, if_neg hl], by rw [num_vI r_a]; exact (decide_eq_false hl).symm⟩, rfl, trivial⟩
  · refine ⟨rfl, rfl, ?_⟩
    have hq : num (vI a) = num (vI (lim a 0)) := bne_eq_false_iff_eq.1 (by assumption)
    rw [num_vI r_a, num_vI (lim_R4 0)] at hq
    have hi := low_iff r_a
    have hl := hi.1 hq
    exact ⟨(lim a 0, true), ⟨by rw [num_vI r_a, if_pos hl]; exact hq.symm, by rw [num_vI r_a]; exact (decide_eq_true hl).symm⟩, rfl, trivial⟩

def share_Split_C : List Value → List Slot → Ctr := fun vs hs => ⟨Int × Int, fun zx => .tuple #[vI zx.1, vI zx.2], fun _ => hs, fun zx => R4 zx.1 ∧ R4 zx.2 ∧ zx.1 = (num (varg vs 1)) / 2 ∧ zx.2 = (num (varg vs 1)) - (num (varg vs 1)) / 2⟩
set_option maxRecDepth 100000 in
theorem share_Split_vc (n : Int) : codeW Try.prog 18 none 2000 none (bodyOf Try.f5) (.reg [.sem [.nw 0], .sem [.nw 1], .sem [.nw 2]] (.reg [.sem [.rd 0, .rd 0, .rd 0, .rd 0], .callr [] huge_Short2_C, .sem [], .sem [], .sem [], .sem [], .sem [.wr 1, .wr 1, .wr 1, .wr 1]] (.reg [.sem [.rd 0, .rd 0, .rd 0, .rd 0], .sem [.rd 1, .rd 1, .rd 1, .rd 1], .callr [] huge_Sub_C, .sem [], .sem [], .sem [], .sem [.wr 2, .wr 2, .wr 2, .wr 2]] (.reg [.sem [.rd 1, .rd 1, .rd 1, .rd 1], .sem [.rd 2, .rd 2, .rd 2, .rd 2], .sem [.wr 1, .wr 1, .wr 1, .wr 1], .sem [.wr 2, .wr 2, .wr 2, .wr 2]] (.done)))))
    (init #[vI n] []) (finW Try.prog Try.f5 [.rd 1, .rd 1, .rd 1, .rd 1, .rd 2, .rd 2, .rd 2, .rd 2] [] (X := Int × Int) (fun zx => .tuple #[vI zx.1, vI zx.2]) (fun zx => []) (fun zx => (R4 zx.1 ∧ R4 zx.2 ∧ zx.1 = (num (vI n)) / 2 ∧ zx.2 = (num (vI n)) - (num (vI n)) / 2))) =
    (∀ b1 : Nat, ∀ b2 : Nat, ∀ b3 : Nat, b1 = b1 ∧ (none : Option Nat) = none ∧ b1 = b1 ∧ (none : Option Nat) = none ∧ b1 = b1 ∧ (none : Option Nat) = none ∧ b1 = b1 ∧ (none : Option Nat) = none ∧ (CallT Try.prog 13 #[vI n, .int .u64 2] [] (Int × Int) (fun zx => .tuple #[vI zx.1, .int .u64 zx.2, .int .i64 0]) (fun _ => []) (fun zx => R4 zx.1 ∧ zx.1 = (num (vI n)) / 2 ∧ zx.2 = (num (vI n)) % 2)) ∧ (∃ zx : Int × Int, (fun zx => R4 zx.1 ∧ zx.1 = (num (vI n)) / 2 ∧ zx.2 = (num (vI n)) % 2) zx) ∧ ∀ x4 : Int × Int, (R4 x4.1 ∧ x4.1 = (num (vI n)) / 2 ∧ x4.2 = (num (vI n)) % 2) → b2 = b2 ∧ (none : Option Nat) = none ∧ b2 = b2 ∧ (none : Option Nat) = none ∧ b2 = b2 ∧ (none : Option Nat) = none ∧ b2 = b2 ∧ (none : Option Nat) = none ∧ b1 = b1 ∧ (none : Option Nat) = none ∧ b1 = b1 ∧ (none : Option Nat) = none ∧ b1 = b1 ∧ (none : Option Nat) = none ∧ b1 = b1 ∧ (none : Option Nat) = none ∧ b2 = b2 ∧ (none : Option Nat) = none ∧ b2 = b2 ∧ (none : Option Nat) = none ∧ b2 = b2 ∧ (none : Option Nat) = none ∧ b2 = b2 ∧ (none : Option Nat) = none ∧ (CallT Try.prog 7 #[vI n, vI x4.1] [] (Int × Int) (fun zx => .tuple #[vI zx.1, .int .i64 zx.2]) (fun _ => []) (fun zx => R4 zx.1 ∧ zx = hSub (num (vI n)) (num (vI x4.1)))) ∧ (∃ zx : Int × Int, (fun zx => R4 zx.1 ∧ zx = hSub (num (vI n)) (num (vI x4.1))) zx) ∧ ∀ x5 : Int × Int, (R4 x5.1 ∧ x5 = hSub (num (vI n)) (num (vI x4.1))) → b3 = b3 ∧ (none : Option Nat) = none ∧ b3 = b3 ∧ (none : Option Nat) = none ∧ b3 = b3 ∧ (none : Option Nat) = none ∧ b3 = b3 ∧ (none : Option Nat) = none ∧ b2 = b2 ∧ (none : Option Nat) = none ∧ b2 = b2 ∧ (none : Option Nat) = none ∧ b2 = b2 ∧ (none : Option Nat) = none ∧ b2 = b2 ∧ (none : Option Nat) = none ∧ b3 = b3 ∧ (none : Option Nat) = none ∧ b3 = b3 ∧ (none : Option Nat) = none ∧ b3 = b3 ∧ (none : Option Nat) = none ∧ b3 = b3 ∧ (none : Option Nat) = none ∧ b2 = b2 ∧ (none : Option Nat) = none ∧ b2 = b2 ∧ (none : Option Nat) = none ∧ b2 = b2 ∧ (none : Option Nat) = none ∧ b2 = b2 ∧ (none : Option Nat) = none ∧ b3 = b3 ∧ (none : Option Nat) = none ∧ b3 = b3 ∧ (none : Option Nat) = none ∧ b3 = b3 ∧ (none : Option Nat) = none ∧ b3 = b3 ∧ (none : Option Nat) = none ∧ b2 = b2 ∧ (none : Option Nat) = none ∧ b2 = b2 ∧ (none : Option Nat) = none ∧ b2 = b2 ∧ (none : Option Nat) = none ∧ b2 = b2 ∧ (none : Option Nat) = none ∧ b3 = b3 ∧ (none : Option Nat) = none ∧ b3 = b3 ∧ (none : Option Nat) = none ∧ b3 = b3 ∧ (none : Option Nat) = none ∧ b3 = b3 ∧ (none : Option Nat) = none ∧ ∃ zx : Int × Int, (R4 zx.1 ∧ R4 zx.2 ∧ zx.1 = (num (vI n)) / 2 ∧ zx.2 = (num (vI n)) - (num (vI n)) / 2) ∧ Value.tuple #[vI x4.1, vI x5.1] = .tuple #[vI zx.1, vI zx.2] ∧ True) := by kernel_rfl
set_option maxRecDepth 100000 in
theorem share_Split (n : Int) (r_n : R4 n) : CallT Try.prog 5 #[vI n] [] (Int × Int) (fun zx => .tuple #[vI zx.1, vI zx.2]) (fun zx => []) (fun zx => (R4 zx.1 ∧ R4 zx.2 ∧ zx.1 = (num (vI n)) / 2 ∧ zx.2 = (num (vI n)) - (num (vI n)) / 2)) := by
  refine call_of (c := bodyOf Try.f5) (n := 18) (fn := Try.f5) Try.mixed Try.func5 (by kernel_rfl) (by kernel_rfl) (by kernel_rfl) 2000 _ [.rd 1, .rd 1, .rd 1, .rd 1, .rd 2, .rd 2, .rd 2, .rd 2] [] rfl rfl (Eq.mpr (share_Split_vc n) ?_)
  intro b1
  intro b2
  intro b3
  refine ⟨rfl, rfl, rfl, rfl, rfl, rfl, rfl, rfl, huge_Short2 n (by assumption), ⟨(_, _), half_R4 (by first | exact R4_num _ | exact by assumption), rfl, rfl⟩, ?_⟩
  intro x4
  intro h1
  obtain ⟨rh1_1, h1⟩ := h1
  try simp only [num_vI (n := n) (by assumption)] at h1
  have ha := h1
  refine ⟨rfl, rfl, rfl, rfl, rfl, rfl, rfl, rfl, ?_⟩
  refine ⟨rfl, rfl, rfl, rfl, rfl, rfl, rfl, rfl, rfl, rfl, rfl, rfl, rfl, rfl, rfl, rfl, huge_Sub n x4.1 (by assumption) (by assumption), ⟨hSub (num (vI n)) (num (vI x4.1)), hSub_R (R4_num _) (R4_num _), rfl⟩, ?_⟩
  intro x5
  intro h2
  obtain ⟨rh2_1, h2⟩ := h2
  try simp only [num_vI (n := n) (by assumption), num_vI (n := x4.1) (by assumption)] at h2
  have hb := h2
  refine ⟨rfl, rfl, rfl, rfl, rfl, rfl, rfl, rfl, ?_⟩
  refine ⟨rfl, rfl, rfl, rfl, rfl, rfl, rfl, rfl, rfl, rfl, rfl, rfl, rfl, rfl, rfl, rfl, rfl, rfl, rfl, rfl, rfl, rfl, rfl, rfl, rfl, rfl, rfl, rfl, rfl, rfl, rfl, rfl, ?_⟩
  refine ⟨rfl, rfl, rfl, rfl, rfl, rfl, rfl, rfl, rfl, rfl, rfl, rfl, rfl, rfl, rfl, rfl, ?_⟩
  have cs := hSub_cases hb
  have e0 := r_n.1
  have ea := ha.1
  exact ⟨(x4.1, x5.1), ⟨by assumption, by assumption, by rw [num_vI r_n]; exact ea, by rw [num_vI r_n]; dsimp only; omega⟩, rfl, trivial⟩

def share_Use_C : List Value → List Slot → Ctr := fun vs hs => ⟨Int, fun zx => .int .u64 zx, fun _ => hs, fun zx => zx = sUse (num (varg vs 1)) (num (varg vs 2))⟩
set_option maxRecDepth 100000 in
theorem share_Use_vc (a : Int) (b : Int) : codeW Try.prog 31 none 2000 none (bodyOf Try.f8) (.reg [.sem [.nw 0], .sem [.nw 1], .sem []] (.reg [.sem [.rd 0, .rd 0, .rd 0, .rd 0], .sem [], .eq (f_eq), .sem []] (.cond (.reg [.sem []] (.done)) (.reg [.sem [.rd 0, .rd 0, .rd 0, .rd 0], .sem [.rd 1, .rd 1, .rd 1, .rd 1], .callr [] huge_Cmp_C, .sem [], .sem []] (.cond (.reg [.sem []] (.done)) (.reg [.sem [.rd 0, .rd 0, .rd 0, .rd 0], .callr [] huge_Of_C, .sem [.rd 1, .rd 1, .rd 1, .rd 1], .callr [] wide_MulDiv_C, .sem [], .sem [], .sem [], .sem [.nw 2], .sem [.wr 2, .wr 2, .wr 2, .wr 2], .sem []] (.reg [.sem [.rd 2, .rd 2, .rd 2, .rd 2], .callr [] huge_Low_C, .sem [], .sem [], .sem [], .sem [], .sem []] (.reg [.sem [], .sem []] (.done)))))))))
    (init #[vI a, vI b] []) (finW Try.prog Try.f8 [] [] (X := Int) (fun zx => .int .u64 zx) (fun zx => []) (fun zx => (zx = sUse (num (vI a)) (num (vI b))))) =
    (∀ b1 : Nat, ∀ b2 : Nat, b1 = b1 ∧ (none : Option Nat) = none ∧ b1 = b1 ∧ (none : Option Nat) = none ∧ b1 = b1 ∧ (none : Option Nat) = none ∧ b1 = b1 ∧ (none : Option Nat) = none ∧ (PureRun Try.prog (xBin .eql 24 (vI a) (vI 0)) (.bool (num (vI a) == num (vI 0)))) ∧ ((num (vI a) == num (vI 0)) = true → ∃ zx : Int, (zx = sUse (num (vI a)) (num (vI b))) ∧ Value.int .u64 0 = .int .u64 zx ∧ True) ∧ ((num (vI a) == num (vI 0)) = false → b1 = b1 ∧ (none : Option Nat) = none ∧ b1 = b1 ∧ (none : Option Nat) = none ∧ b1 = b1 ∧ (none : Option Nat) = none ∧ b1 = b1 ∧ (none : Option Nat) = none ∧ b2 = b2 ∧ (none : Option Nat) = none ∧ b2 = b2 ∧ (none : Option Nat) = none ∧ b2 = b2 ∧ (none : Option Nat) = none ∧ b2 = b2 ∧ (none : Option Nat) = none ∧ (CallT Try.prog 10 #[vI a, vI b] [] Unit (fun _ => .int .i64 (hCmp (num (vI a)) (num (vI b)))) (fun _ => []) (fun _ => True)) ∧ (∃ zx : Unit, (fun _ => True) zx) ∧ ∀ _ : Unit, (True) → ((decide ((hCmp (num (vI a)) (num (vI b))) ≥ (0 : Int))) = true → ∃ zx : Int, (zx = sUse (num (vI a)) (num (vI b))) ∧ Value.int .u64 1000000 = .int .u64 zx ∧ True) ∧ ((decide ((hCmp (num (vI a)) (num (vI b))) ≥ (0 : Int))) = false → b1 = b1 ∧ (none : Option Nat) = none ∧ b1 = b1 ∧ (none : Option Nat) = none ∧ b1 = b1 ∧ (none : Option Nat) = none ∧ b1 = b1 ∧ (none : Option Nat) = none ∧ (CallT Try.prog 11 #[.int .u64 1000000] [] Unit (fun _ => vI (1000000 : Int)) (fun _ => []) (fun _ => True)) ∧ (∃ zx : Unit, (fun _ => True) zx) ∧ ∀ _ : Unit, (True) → b2 = b2 ∧ (none : Option Nat) = none ∧ b2 = b2 ∧ (none : Option Nat) = none ∧ b2 = b2 ∧ (none : Option Nat) = none ∧ b2 = b2 ∧ (none : Option Nat) = none ∧ (CallT Try.prog 17 #[vI a, vI (1000000 : Int), vI b] [] (Int × Int) (fun zx => .tuple #[vI zx.1, .int .i64 zx.2]) (fun _ => []) (fun zx => R4 zx.1 ∧ zx = wMulDiv (num (vI a)) (num (vI (1000000 : Int))) (num (vI b)))) ∧ (∃ zx : Int × Int, (fun zx => R4 zx.1 ∧ zx = wMulDiv (num (vI a)) (num (vI (1000000 : Int))) (num (vI b))) zx) ∧ ∀ x3 : Int × Int, (R4 x3.1 ∧ x3 = wMulDiv (num (vI a)) (num (vI (1000000 : Int))) (num (vI b))) → ∀ b4 : Nat, b4 = b4 ∧ (none : Option Nat) = none ∧ b4 = b4 ∧ (none : Option Nat) = none ∧ b4 = b4 ∧ (none : Option Nat) = none ∧ b4 = b4 ∧ (none : Option Nat) = none ∧ b4 = b4 ∧ (none : Option Nat) = none ∧ b4 = b4 ∧ (none : Option Nat) = none ∧ b4 = b4 ∧ (none : Option Nat) = none ∧ b4 = b4 ∧ (none : Option Nat) = none ∧ (CallT Try.prog 18 #[vI x3.1] [] (Int × Bool) (fun zx => .tuple #[.int .u64 zx.1, .bool zx.2]) (fun _ => []) (fun zx => zx.1 = (if (num (vI x3.1)) < 18446744073709551616 then (num (vI x3.1)) else 0) ∧ zx.2 = decide ((num (vI x3.1)) < 18446744073709551616))) ∧ (∃ zx : Int × Bool, (fun zx => zx.1 = (if (num (vI x3.1)) < 18446744073709551616 then (num (vI x3.1)) else 0) ∧ zx.2 = decide ((num (vI x3.1)) < 18446744073709551616)) zx) ∧ ∀ x5 : Int × Bool, (x5.1 = (if (num (vI x3.1)) < 18446744073709551616 then (num (vI x3.1)) else 0) ∧ x5.2 = decide ((num (vI x3.1)) < 18446744073709551616)) → ∃ zx : Int, (zx = sUse (num (vI a)) (num (vI b))) ∧ Value.int .u64 x5.1 = .int .u64 zx ∧ True))) := by kernel_rfl
set_option maxRecDepth 100000 in
theorem share_Use (a : Int) (b : Int) (r_a : R4 a) (r_b : R4 b) : CallT Try.prog 8 #[vI a, vI b] [] Int (fun zx => .int .u64 zx) (fun zx => []) (fun zx => (zx = sUse (num (vI a)) (num (vI b)))) := by
  refine call_of (c := bodyOf Try.f8) (n := 31) (fn := Try.f8) Try.mixed Try.func8 (by kernel_rfl) (by kernel_rfl) (by kernel_rfl) 2000 _ [] [] rfl rfl (Eq.mpr (share_Use_vc a b) ?_)
  intro b1
  intro b2
  refine ⟨rfl, rfl, rfl, rfl, rfl, rfl, rfl, rfl, Try.xeq24 a 0, ?_⟩
  refine ⟨fun h1 => ?_, fun h1 => ?_⟩
  · have h0 : a = 0 := by (try simp (disch := first | assumption | exact R4_zero | exact R4_one) only [num_vI, hCmp_pos, hCmp_neg, hCmp_le0, hCmp_ge0, decide_eq_true_eq, decide_eq_false_iff_not, gt_iff_lt, ge_iff_le, beq_iff_eq, beq_eq_false_iff_ne, bne_iff_ne, bne_eq_false_iff_eq, ne_eq] at *); omega
    exact ⟨0, by rw [num_vI r_a, h0]; exact (sUse_zero _).symm, rfl, trivial⟩
  · refine ⟨rfl, rfl, rfl, rfl, rfl, rfl, rfl, rfl, rfl, rfl, rfl, rfl, rfl, rfl, rfl, rfl, huge_Cmp a b (by assumption) (by assumption), ⟨(), trivial⟩, ?_⟩
    intro _
    intro _
    refine ⟨fun h2 => ?_, fun h2 => ?_⟩
    · have h0 : a ≠ 0 := by (try simp (disch := first | assumption | exact R4_zero | exact R4_one) only [num_vI, hCmp_pos, hCmp_neg, hCmp_le0, hCmp_ge0, decide_eq_true_eq, decide_eq_false_iff_not, gt_iff_lt, ge_iff_le, beq_iff_eq, beq_eq_false_iff_ne, bne_iff_ne, bne_eq_false_iff_eq, ne_eq] at *); omega
      have hle : b ≤ a := by (try simp (disch := first | assumption | exact R4_zero | exact R4_one) only [num_vI, hCmp_pos, hCmp_neg, hCmp_le0, hCmp_ge0, decide_eq_true_eq, decide_eq_false_iff_not, gt_iff_lt, ge_iff_le, beq_iff_eq, beq_eq_false_iff_ne, bne_iff_ne, bne_eq_false_iff_eq, ne_eq] at *); omega
      exact ⟨1000000, by rw [num_vI r_a, num_vI r_b]; exact (sUse_top h0 hle).symm, rfl, trivial⟩
    · refine ⟨rfl, rfl, rfl, rfl, rfl, rfl, rfl, rfl, huge_Of (1000000 : Int) (by first | assumption | exact W_lim _ _ | (unfold W; decide)), ⟨(), trivial⟩, ?_⟩
      intro _
      intro _
      refine ⟨rfl, rfl, rfl, rfl, rfl, rfl, rfl, rfl, wide_MulDiv a (1000000 : Int) b (by assumption) (by unfold R4; decide) (by assumption), ⟨_, wMulDiv_R (R4_num _) (R4_num _) (R4_num _), rfl⟩, ?_⟩
      intro x3
      intro h3
      obtain ⟨rh3_1, h3⟩ := h3
      try simp only [num_vI (n := a) (by assumption), num_vI (n := (1000000 : Int)) (by unfold R4; decide), num_vI (n := b) (by assumption)] at h3
      have h0 : a ≠ 0 := by (try simp (disch := first | assumption | exact R4_zero | exact R4_one) only [num_vI, hCmp_pos, hCmp_neg, hCmp_le0, hCmp_ge0, decide_eq_true_eq, decide_eq_false_iff_not, gt_iff_lt, ge_iff_le, beq_iff_eq, beq_eq_false_iff_ne, bne_iff_ne, bne_eq_false_iff_eq, ne_eq] at *); omega
      have hlt : a < b := by (try simp (disch := first | assumption | exact R4_zero | exact R4_one) only [num_vI, hCmp_pos, hCmp_neg, hCmp_le0, hCmp_ge0, decide_eq_true_eq, decide_eq_false_iff_not, gt_iff_lt, ge_iff_le, beq_iff_eq, beq_eq_false_iff_ne, bne_iff_ne, bne_eq_false_iff_eq, ne_eq] at *); omega
      have hq := (h3).trans (md_use r_a h0 hlt)
      obtain ⟨u1, u2⟩ := sUse_mid r_a h0 hlt
      have hq1 : x3.1 = a * 1000000 / b := by rw [hq]
      intro b4
      refine ⟨rfl, rfl, rfl, rfl, rfl, rfl, rfl, rfl, ?_⟩
      refine ⟨rfl, rfl, rfl, rfl, rfl, rfl, rfl, rfl, huge_Low x3.1 (by assumption), ⟨(_, _), rfl, rfl⟩, ?_⟩
      intro x5
      intro h4
      try simp only [num_vI (n := x3.1) (by assumption)] at h4
      have hl := h4
      exact ⟨_, by rw [num_vI r_a, num_vI r_b, sUse_part h0 hlt, hl.1, hq1, if_pos (by omega)], rfl, trivial⟩

def ref1_OfM_C : List Value → List Slot → Ctr := fun vs hs => ⟨Row, fun zx => sv zx, fun zx => [(ss 3 zx)], fun zx => RowOK zx ∧ nv (dg zx) = 1000000 ∧ Canon (dg zx) ∧ (dg zx).length ≤ 16⟩
set_option maxRecDepth 100000 in
theorem ref1_OfM_vc  : codeW Try.prog 15 none 2000 none (bodyOf Try.f23) (.reg [.sem []] (.reg [.sem []] (.reg [.sem [], .sem []] (.condT (.reg [.sem [], .sem [], .sem [], .sem [], .sem [.nw 0], .specw [1, 0] [20, 0] (F_app 3), .sem []] (.reg [.sem [], .sem [], .sem []] (.reg [.sem [], .sem []] (.condT (.reg [.sem [], .sem [], .sem [], .sem [], .sem [.nw 0], .specw [20, 0] [20, 0] (F_app 3), .sem []] (.reg [.sem [], .sem [], .sem []] (.reg [.sem [], .sem []] (.condF (.reg [.sem [], .sem []] (.done))))))))))))))
    (init #[.int .u64 1000000] []) (finW Try.prog Try.f23 [] [20] (X := Row) (fun zx => sv zx) (fun zx => [(ss 3 zx)]) (fun zx => (RowOK zx ∧ nv (dg zx) = 1000000 ∧ Canon (dg zx) ∧ (dg zx).length ≤ 16))) =
    ((true = true) ∧ ∀ b1 : Nat, (OpT Try.prog (do pure (.value (← Builtin.append_ #[42, 42] 42 #[sv Row.nil, .slice (some ⟨b1, 0, none⟩) 1 1]))) [.free, .blk b1 (.cells #[.int .i64 16960] 3 (0, 0))] Row (fun zx => sv zx) (fun zx => [(ss 3 zx), .blk b1 (.cells #[.int .i64 16960] 3 (0, 0))]) (fun zx => vals zx = rvals (sv Row.nil) (ss 3 Row.nil) ++ [.int .i64 16960])) ∧ (∃ zx : Row, (fun zx => vals zx = rvals (sv Row.nil) (ss 3 Row.nil) ++ [.int .i64 16960]) zx) ∧ ∀ x2 : Row, (vals x2 = rvals (sv Row.nil) (ss 3 Row.nil) ++ [.int .i64 16960]) → (true = true) ∧ ∀ b3 : Nat, (OpT Try.prog (do pure (.value (← Builtin.append_ #[42, 42] 42 #[sv x2, .slice (some ⟨b3, 0, none⟩) 1 1]))) [(ss 3 x2), .blk b3 (.cells #[.int .i64 15] 3 (0, 0))] Row (fun zx => sv zx) (fun zx => [(ss 3 zx), .blk b3 (.cells #[.int .i64 15] 3 (0, 0))]) (fun zx => vals zx = rvals (sv x2) (ss 3 x2) ++ [.int .i64 15])) ∧ (∃ zx : Row, (fun zx => vals zx = rvals (sv x2) (ss 3 x2) ++ [.int .i64 15]) zx) ∧ ∀ x4 : Row, (vals x4 = rvals (sv x2) (ss 3 x2) ++ [.int .i64 15]) → (false = false) ∧ ∃ zx : Row, (RowOK zx ∧ nv (dg zx) = 1000000 ∧ Canon (dg zx) ∧ (dg zx).length ≤ 16) ∧ sv x4 = sv zx ∧ (ss 3 x4) = (ss 3 zx) ∧ True) := by kernel_rfl
set_option maxRecDepth 100000 in
theorem ref1_OfM   : CallT Try.prog 23 #[.int .u64 1000000] [] Row (fun zx => sv zx) (fun zx => [(ss 3 zx)]) (fun zx => (RowOK zx ∧ nv (dg zx) = 1000000 ∧ Canon (dg zx) ∧ (dg zx).length ≤ 16)) := by
  refine call_of (c := bodyOf Try.f23) (n := 15) (fn := Try.f23) Try.mixed Try.func23 (by kernel_rfl) (by kernel_rfl) (by kernel_rfl) 2000 _ [] [20] rfl rfl (Eq.mpr (ref1_OfM_vc ) ?_)
  have q0 := nil3
  refine ⟨rfl, ?_⟩
  intro b1
  refine ⟨xappendR Try.sl42 42 Row.nil (Nat.le_trans (Nat.le_of_eq (by first | exact q1.2.1 | exact q0.2.1)) (by decide)) b1 1 (.int .i64 16960) rfl, wit_app _, ?_⟩
  intro x2
  intro h1
  rw [rvals_eq] at h1
  have q1 := snoc3 (x := 16960) q0 (show P16 0 = 1 from rfl) (by assumption) (by decide) (by decide)
  refine ⟨rfl, ?_⟩
  intro b3
  refine ⟨xappendR Try.sl42 42 x2 (Nat.le_trans (Nat.le_of_eq (by first | exact q1.2.1 | exact q0.2.1)) (by decide)) b3 1 (.int .i64 15) rfl, wit_app _, ?_⟩
  intro x4
  intro h2
  rw [rvals_eq] at h2
  have q2 := snoc3 (x := 15) q1 (show P16 1 = 65536 from rfl) (by assumption) (by decide) (by decide)
  refine ⟨rfl, ?_⟩
  obtain ⟨ok, hl, hv⟩ := q2
  have hv1 : nv (dg x4) = 1000000 := by rw [hv]; rfl
  exact ⟨_, ⟨ok, hv1, canon_big ok.dig hl (by rw [hv1]; decide), by rw [hl]; decide⟩, rfl, rfl, trivial⟩

def ref16_Use_C : List Value → List Slot → Ctr := fun vs hs => ⟨Int, fun zx => .int .u64 zx, fun _ => hs, fun zx => zx = sUse (num (varg vs 1)) (num (varg vs 2))⟩
set_option maxRecDepth 100000 in
theorem ref16_Use_vc (a : Int) (b : Int) : codeW Try.prog 37 none 2000 none (bodyOf Try.f9) (.reg [.sem [.nw 0], .sem [.nw 1], .sem []] (.reg [.sem [.rd 0, .rd 0, .rd 0, .rd 0], .callw [] [2] ref2_Row_C, .sem []] (.reg [.sem [.rd 1, .rd 1, .rd 1, .rd 1], .callw [] [3] ref2_Row_C, .sem []] (.reg [.sem [], .eq (f_len), .sem []] (.cond (.reg [.sem []] (.done)) (.reg [.sem [], .sem [], .callr [2, 3] ref1_Cmp_C, .sem []] (.cond (.reg [.sem []] (.done)) (.reg [.sem [], .callw [] [4] ref1_OfM_C, .callw [2, 4] [2, 4, 5] ref1_Mul_C, .sem [], .callw [5, 3] [5, 3, 6, 7] ref1_Div_C, .sem [], .sem [], .sem [], .sem [], .sem []] (.reg [.sem [], .callw [6] [6] ref2_Int_C, .sem [], .sem [], .sem [], .sem [.nw 8], .sem [.wr 8, .wr 8, .wr 8, .wr 8], .sem []] (.reg [.sem [], .sem [.rd 8], .sem []] (.done)))))))))))
    (init #[vI a, vI b] []) (finW Try.prog Try.f9 [] [] (X := Int) (fun zx => .int .u64 zx) (fun zx => []) (fun zx => (zx = sUse (num (vI a)) (num (vI b))))) =
    (∀ b1 : Nat, ∀ b2 : Nat, b1 = b1 ∧ (none : Option Nat) = none ∧ b1 = b1 ∧ (none : Option Nat) = none ∧ b1 = b1 ∧ (none : Option Nat) = none ∧ b1 = b1 ∧ (none : Option Nat) = none ∧ (CallT Try.prog 19 #[vI a] [] Row (fun zx => sv zx) (fun zx => [(ss 3 zx)]) (fun zx => RowOK zx ∧ nv (dg zx) = (num (vI a)) ∧ Canon (dg zx) ∧ (dg zx).length ≤ 16)) ∧ (∃ zx : Row, (fun zx => RowOK zx ∧ nv (dg zx) = (num (vI a)) ∧ Canon (dg zx) ∧ (dg zx).length ≤ 16) zx) ∧ ∀ x3 : Row, (RowOK x3 ∧ nv (dg x3) = (num (vI a)) ∧ Canon (dg x3) ∧ (dg x3).length ≤ 16) → b2 = b2 ∧ (none : Option Nat) = none ∧ b2 = b2 ∧ (none : Option Nat) = none ∧ b2 = b2 ∧ (none : Option Nat) = none ∧ b2 = b2 ∧ (none : Option Nat) = none ∧ (CallT Try.prog 19 #[vI b] [] Row (fun zx => sv zx) (fun zx => [(ss 3 zx)]) (fun zx => RowOK zx ∧ nv (dg zx) = (num (vI b)) ∧ Canon (dg zx) ∧ (dg zx).length ≤ 16)) ∧ (∃ zx : Row, (fun zx => RowOK zx ∧ nv (dg zx) = (num (vI b)) ∧ Canon (dg zx) ∧ (dg zx).length ≤ 16) zx) ∧ ∀ x4 : Row, (RowOK x4 ∧ nv (dg x4) = (num (vI b)) ∧ Canon (dg x4) ∧ (dg x4).length ≤ 16) → (PureRun Try.prog (do pure (.value (← Builtin.len_ #[42] 3 #[sv x3]))) (.int .i64 ((vlen (sv x3) : Nat) : Int))) ∧ ((((vlen (sv x3) : Nat) : Int) == (0 : Int)) = true → ∃ zx : Int, (zx = sUse (num (vI a)) (num (vI b))) ∧ Value.int .u64 0 = .int .u64 zx ∧ True) ∧ ((((vlen (sv x3) : Nat) : Int) == (0 : Int)) = false → (CallT Try.prog 20 #[sv x3, sv x4] [(ss 3 x3), (ss 3 x4)] Int (fun zx => .int .i64 zx) (fun _ => [(ss 3 x3), (ss 3 x4)]) (fun zx => zx = hCmp (nv (rdv (sv x3) (ss 3 x3))) (nv (rdv (sv x4) (ss 3 x4))))) ∧ (∃ zx : Int, (fun zx => zx = hCmp (nv (rdv (sv x3) (ss 3 x3))) (nv (rdv (sv x4) (ss 3 x4)))) zx) ∧ ∀ x5 : Int, (x5 = hCmp (nv (rdv (sv x3) (ss 3 x3))) (nv (rdv (sv x4) (ss 3 x4)))) → ((decide (x5 ≥ (0 : Int))) = true → ∃ zx : Int, (zx = sUse (num (vI a)) (num (vI b))) ∧ Value.int .u64 1000000 = .int .u64 zx ∧ True) ∧ ((decide (x5 ≥ (0 : Int))) = false → (CallT Try.prog 23 #[.int .u64 1000000] [] Row (fun zx => sv zx) (fun zx => [(ss 3 zx)]) (fun zx => RowOK zx ∧ nv (dg zx) = 1000000 ∧ Canon (dg zx) ∧ (dg zx).length ≤ 16)) ∧ (∃ zx : Row, (fun zx => RowOK zx ∧ nv (dg zx) = 1000000 ∧ Canon (dg zx) ∧ (dg zx).length ≤ 16) zx) ∧ ∀ x6 : Row, (RowOK x6 ∧ nv (dg x6) = 1000000 ∧ Canon (dg x6) ∧ (dg x6).length ≤ 16) → (CallT Try.prog 22 #[sv x3, sv x6] [(ss 3 x3), (ss 3 x6)] Row (fun zx => sv zx) (fun zx => [(ss 3 x3), (ss 3 x6), (ss 3 zx)]) (fun zx => RowOK zx ∧ nv (dg zx) = nv (rdv (sv x3) (ss 3 x3)) * nv (rdv (sv x6) (ss 3 x6)) ∧ Canon (dg zx))) ∧ (∃ zx : Row, (fun zx => RowOK zx ∧ nv (dg zx) = nv (rdv (sv x3) (ss 3 x3)) * nv (rdv (sv x6) (ss 3 x6)) ∧ Canon (dg zx)) zx) ∧ ∀ x7 : Row, (RowOK x7 ∧ nv (dg x7) = nv (rdv (sv x3) (ss 3 x3)) * nv (rdv (sv x6) (ss 3 x6)) ∧ Canon (dg x7)) → (CallT Try.prog 21 #[sv x7, sv x4] [(ss 3 x7), (ss 3 x4)] (Row × Row) (fun zx => .tuple #[sv zx.1, sv zx.2]) (fun zx => [(ss 3 x7), (ss 3 x4), (ss 3 zx.1), (ss 3 zx.2)]) (fun zx => RowOK zx.1 ∧ RowOK zx.2 ∧ nv (dg zx.1) = nv (rdv (sv x7) (ss 3 x7)) / nv (rdv (sv x4) (ss 3 x4)) ∧ nv (dg zx.2) = nv (rdv (sv x7) (ss 3 x7)) % nv (rdv (sv x4) (ss 3 x4)) ∧ Canon (dg zx.1) ∧ Canon (dg zx.2))) ∧ (∃ zx : Row × Row, (fun zx => RowOK zx.1 ∧ RowOK zx.2 ∧ nv (dg zx.1) = nv (rdv (sv x7) (ss 3 x7)) / nv (rdv (sv x4) (ss 3 x4)) ∧ nv (dg zx.2) = nv (rdv (sv x7) (ss 3 x7)) % nv (rdv (sv x4) (ss 3 x4)) ∧ Canon (dg zx.1) ∧ Canon (dg zx.2)) zx) ∧ ∀ x8 : Row × Row, (RowOK x8.1 ∧ RowOK x8.2 ∧ nv (dg x8.1) = nv (rdv (sv x7) (ss 3 x7)) / nv (rdv (sv x4) (ss 3 x4)) ∧ nv (dg x8.2) = nv (rdv (sv x7) (ss 3 x7)) % nv (rdv (sv x4) (ss 3 x4)) ∧ Canon (dg x8.1) ∧ Canon (dg x8.2)) → (CallT Try.prog 24 #[sv x8.1] [(ss 3 x8.1)] (Int × Bool) (fun zx => .tuple #[vI zx.1, .bool zx.2]) (fun zx => [(ss 3 x8.1)]) (fun zx => R4 zx.1 ∧ zx = rInt (nv (rdv (sv x8.1) (ss 3 x8.1))))) ∧ (∃ zx : Int × Bool, (fun zx => R4 zx.1 ∧ zx = rInt (nv (rdv (sv x8.1) (ss 3 x8.1)))) zx) ∧ ∀ x9 : Int × Bool, (R4 x9.1 ∧ x9 = rInt (nv (rdv (sv x8.1) (ss 3 x8.1)))) → ∀ b10 : Nat, b10 = b10 ∧ (none : Option Nat) = none ∧ b10 = b10 ∧ (none : Option Nat) = none ∧ b10 = b10 ∧ (none : Option Nat) = none ∧ b10 = b10 ∧ (none : Option Nat) = none ∧ b10 = b10 ∧ (none : Option Nat) = none ∧ ∃ zx : Int, (zx = sUse (num (vI a)) (num (vI b))) ∧ Value.int .u64 (lim x9.1 0) = .int .u64 zx ∧ True))) := by kernel_rfl
set_option maxRecDepth 100000 in
theorem ref16_Use (a : Int) (b : Int) (r_a : R4 a) (r_b : R4 b) : CallT Try.prog 9 #[vI a, vI b] [] Int (fun zx => .int .u64 zx) (fun zx => []) (fun zx => (zx = sUse (num (vI a)) (num (vI b)))) := by
  refine call_of (c := bodyOf Try.f9) (n := 37) (fn := Try.f9) Try.mixed Try.func9 (by kernel_rfl) (by kernel_rfl) (by kernel_rfl) 2000 _ [] [] rfl rfl (Eq.mpr (ref16_Use_vc a b) ?_)
  intro b1
  intro b2
  refine ⟨rfl, rfl, rfl, rfl, rfl, rfl, rfl, rfl, ref2_Row a (by assumption), wit_num (by first | exact R4_num _ | exact by assumption), ?_⟩
  intro x3
  intro h1
  obtain ⟨rh1_, h1⟩ := h1
  try simp only [num_vI (n := a) (by assumption)] at h1
  have hP := h1
  have okhP : RowOK x3 := by assumption
  have ehP := vlen_dg x3
  have chP := canon_pos okhP.dig hP.2.1
  have lhP := hP.2.2
  refine ⟨rfl, rfl, rfl, rfl, rfl, rfl, rfl, rfl, ref2_Row b (by assumption), wit_num (by first | exact R4_num _ | exact by assumption), ?_⟩
  intro x4
  intro h2
  obtain ⟨rh2_, h2⟩ := h2
  try simp only [num_vI (n := b) (by assumption)] at h2
  have hW := h2
  have okhW : RowOK x4 := by assumption
  have ehW := vlen_dg x4
  have chW := canon_pos okhW.dig hW.2.1
  have lhW := hW.2.2
  refine ⟨xlen Try.sl42 3 x3, ?_⟩
  refine ⟨fun h3 => ?_, fun h3 => ?_⟩
  · have h0 : a = 0 := by
      rw [← hP.1]; exact chP.1 (by (try simp (disch := first | assumption | exact R4_zero | exact R4_one) only [num_vI, hCmp_pos, hCmp_neg, hCmp_le0, hCmp_ge0, decide_eq_true_eq, decide_eq_false_iff_not, gt_iff_lt, ge_iff_le, beq_iff_eq, beq_eq_false_iff_ne, bne_iff_ne, bne_eq_false_iff_eq, ne_eq] at *); omega)
    exact ⟨0, by rw [num_vI r_a, h0]; exact (sUse_zero _).symm, rfl, trivial⟩
  · have h0 : a ≠ 0 := fun q => by
      have hz := chP.2 (by rw [hP.1]; exact q)
      (try simp (disch := first | assumption | exact R4_zero | exact R4_one) only [num_vI, hCmp_pos, hCmp_neg, hCmp_le0, hCmp_ge0, decide_eq_true_eq, decide_eq_false_iff_not, gt_iff_lt, ge_iff_le, beq_iff_eq, beq_eq_false_iff_ne, bne_iff_ne, bne_eq_false_iff_eq, ne_eq] at *); omega
    refine ⟨ref1_Cmp x3 x4 (by first | assumption | exact rowOK_lit _ _ (by decide)) (by first | assumption | exact rowOK_lit _ _ (by decide)) (by omega) (by omega), ⟨_, rfl⟩, ?_⟩
    intro x5
    intro h4
    simp only [rdv_eq] at h4
    have hC := h4
    refine ⟨fun h5 => ?_, fun h5 => ?_⟩
    · have hle : b ≤ a := by
        have hC2 := hC
        rw [hP.1, hW.1] at hC2
        have hs := hCmp_split hC2
        (try simp (disch := first | assumption | exact R4_zero | exact R4_one) only [num_vI, hCmp_pos, hCmp_neg, hCmp_le0, hCmp_ge0, decide_eq_true_eq, decide_eq_false_iff_not, gt_iff_lt, ge_iff_le, beq_iff_eq, beq_eq_false_iff_ne, bne_iff_ne, bne_eq_false_iff_eq, ne_eq] at *)
        omega
      exact ⟨1000000, by rw [num_vI r_a, num_vI r_b]; exact (sUse_top h0 hle).symm, rfl, trivial⟩
    · have hlt : a < b := by
        have hC2 := hC
        rw [hP.1, hW.1] at hC2
        have hs := hCmp_split hC2
        (try simp (disch := first | assumption | exact R4_zero | exact R4_one) only [num_vI, hCmp_pos, hCmp_neg, hCmp_le0, hCmp_ge0, decide_eq_true_eq, decide_eq_false_iff_not, gt_iff_lt, ge_iff_le, beq_iff_eq, beq_eq_false_iff_ne, bne_iff_ne, bne_eq_false_iff_eq, ne_eq] at *)
        omega
      have hb : 0 < nv (dg x4) := by rw [hW.1]; have := r_a.1; omega
      refine ⟨ref1_OfM, wit_num (by unfold R4; decide), ?_⟩
      intro x6
      intro h6
      obtain ⟨rh6_, h6⟩ := h6
      have hM := h6
      have okhM : RowOK x6 := by assumption
      have ehM := vlen_dg x6
      have chM := canon_pos okhM.dig hM.2.1
      have lhM := hM.2.2
      refine ⟨ref1_Mul x3 x6 (by first | assumption | exact rowOK_lit _ _ (by decide)) (by first | assumption | exact rowOK_lit _ _ (by decide)) (by omega) (by omega), wit_row (by rw [rdv_eq x3, rdv_eq x6]; exact Int.mul_nonneg (nv_nonneg (RowOK.dig (by first | assumption | exact rowOK_lit _ _ (by decide)))) (nv_nonneg (RowOK.dig (by first | assumption | exact rowOK_lit _ _ (by decide))))), ?_⟩
      intro x7
      intro h7
      simp only [rdv_eq] at h7
      obtain ⟨rh7_, h7⟩ := h7
      have hU := h7
      rw [hP.1, hM.1] at hU
      have lU := len18 (RowOK.dig (by assumption)) hU.2 r_a hU.1
      refine ⟨ref1_Div x7 x4 (by first | assumption | exact rowOK_lit _ _ (by decide)) (by first | assumption | exact rowOK_lit _ _ (by decide)) (by omega) (by omega) (hb), wit_rdiv (by rw [rdv_eq x7]; exact nv_nonneg (RowOK.dig (by first | assumption | exact rowOK_lit _ _ (by decide)))) (by rw [rdv_eq x4]; omega), ?_⟩
      intro x8
      intro h8
      simp only [rdv_eq] at h8
      obtain ⟨rh8_1, h8⟩ := h8
      obtain ⟨rh8_2, h8⟩ := h8
      have hD := h8
      rw [hU.1, hW.1] at hD
      obtain ⟨u1, u2⟩ := sUse_mid r_a h0 hlt
      have rq : R4 (a * 1000000 / b) := ⟨u1, by omega⟩
      have lD := num_len (RowOK.dig (by assumption)) hD.2.2.1 hD.1 rq
      refine ⟨ref2_Int x8.1 (by first | assumption | exact rowOK_lit _ _ (by decide)) (by omega), ⟨_, rInt_R (by rw [rdv_eq x8.1]; exact nv_nonneg (RowOK.dig (by first | assumption | exact rowOK_lit _ _ (by decide)))), rfl⟩, ?_⟩
      intro x9
      intro h9
      simp only [rdv_eq] at h9
      obtain ⟨rh9_1, h9⟩ := h9
      have hI := h9
      have hI1 : x9.1 = a * 1000000 / b := by rw [hI, hD.1]; unfold rInt; rw [if_pos (by omega)]
      intro b10
      refine ⟨rfl, rfl, rfl, rfl, rfl, rfl, rfl, rfl, ?_⟩
      refine ⟨rfl, rfl, ?_⟩
      exact ⟨_, by rw [num_vI r_a, num_vI r_b, sUse_part h0 hlt, hI1]; exact lim_small u1 u2, rfl, trivial⟩

set_option maxRecDepth 100000 in
theorem law16_ShareUses_vc (a : Int) (b : Int) : codeW Try.prog 56 none 2000 none (bodyOf Try.f3) (.reg [.sem [.nw 0], .sem [.nw 1], .sem []] (.reg [.callr [] law16_lives_C, .sem []] (.condF (.reg [.sem [.rd 0, .rd 0, .rd 0, .rd 0], .callr [] share_Split_C, .sem [], .sem [], .sem [], .sem [.nw 2], .sem [.nw 3], .sem [.wr 2, .wr 2, .wr 2, .wr 2], .sem [.wr 3, .wr 3, .wr 3, .wr 3]] (.reg [.sem [.rd 2, .rd 2, .rd 2, .rd 2], .sem [.rd 3, .rd 3, .rd 3, .rd 3], .callr [] huge_Add_C, .sem [], .sem [], .sem [], .sem [.nw 4], .sem [.wr 4, .wr 4, .wr 4, .wr 4], .sem []] (.reg [.sem [.rd 3, .rd 3, .rd 3, .rd 3], .sem [.rd 2, .rd 2, .rd 2, .rd 2], .callr [] huge_Sub_C, .sem [], .sem [], .sem [], .sem [.nw 5], .sem [.wr 5, .wr 5, .wr 5, .wr 5], .sem []] (.reg [.sem [.rd 0, .rd 0, .rd 0, .rd 0], .sem [.rd 1, .rd 1, .rd 1, .rd 1], .callr [] share_Use_C, .sem [.rd 0, .rd 0, .rd 0, .rd 0], .sem [.rd 1, .rd 1, .rd 1, .rd 1], .callr [] ref16_Use_C, .gen [] (one (.bool true)), .sem [], .sem [], .gen [] (one (.bool true)), .sem [], .sem [], .sem [.rd 4, .rd 4, .rd 4, .rd 4], .sem [.rd 0, .rd 0, .rd 0, .rd 0], .specr [] (fun _ hs => ⟨Unit, fun _ => .bool true, fun _ => hs, fun _ => True⟩), .sem [], .sem [], .sem [], .gen [] (one (.bool true)), .sem [], .sem [], .sem [.rd 5, .rd 5, .rd 5, .rd 5], .callr [] huge_Of_C, .callr [] huge_Cmp_C, .gen [] (one (.bool true)), .sem [], .sem []] (.done))))))))
    (init #[vI a, vI b] []) (finW Try.prog Try.f3 [] [] (X := Unit) (fun _ => .bool true) (fun _ => []) (fun _ => True)) =
    (∀ b1 : Nat, ∀ b2 : Nat, (CallT Try.prog 4 #[] [] Unit (fun _ => .bool true) (fun _ => []) (fun _ => True)) ∧ (∃ zx : Unit, (fun _ => True) zx) ∧ ∀ _ : Unit, (True) → (false = false) ∧ b1 = b1 ∧ (none : Option Nat) = none ∧ b1 = b1 ∧ (none : Option Nat) = none ∧ b1 = b1 ∧ (none : Option Nat) = none ∧ b1 = b1 ∧ (none : Option Nat) = none ∧ (CallT Try.prog 5 #[vI a] [] (Int × Int) (fun zx => .tuple #[vI zx.1, vI zx.2]) (fun _ => []) (fun zx => R4 zx.1 ∧ R4 zx.2 ∧ zx.1 = (num (vI a)) / 2 ∧ zx.2 = (num (vI a)) - (num (vI a)) / 2)) ∧ (∃ zx : Int × Int, (fun zx => R4 zx.1 ∧ R4 zx.2 ∧ zx.1 = (num (vI a)) / 2 ∧ zx.2 = (num (vI a)) - (num (vI a)) / 2) zx) ∧ ∀ x3 : Int × Int, (R4 x3.1 ∧ R4 x3.2 ∧ x3.1 = (num (vI a)) / 2 ∧ x3.2 = (num (vI a)) - (num (vI a)) / 2) → ∀ b4 : Nat, ∀ b5 : Nat, b4 = b4 ∧ (none : Option Nat) = none ∧ b4 = b4 ∧ (none : Option Nat) = none ∧ b4 = b4 ∧ (none : Option Nat) = none ∧ b4 = b4 ∧ (none : Option Nat) = none ∧ b5 = b5 ∧ (none : Option Nat) = none ∧ b5 = b5 ∧ (none : Option Nat) = none ∧ b5 = b5 ∧ (none : Option Nat) = none ∧ b5 = b5 ∧ (none : Option Nat) = none ∧ b4 = b4 ∧ (none : Option Nat) = none ∧ b4 = b4 ∧ (none : Option Nat) = none ∧ b4 = b4 ∧ (none : Option Nat) = none ∧ b4 = b4 ∧ (none : Option Nat) = none ∧ b5 = b5 ∧ (none : Option Nat) = none ∧ b5 = b5 ∧ (none : Option Nat) = none ∧ b5 = b5 ∧ (none : Option Nat) = none ∧ b5 = b5 ∧ (none : Option Nat) = none ∧ (CallT Try.prog 6 #[vI x3.1, vI x3.2] [] (Int × Int) (fun zx => .tuple #[vI zx.1, .int .i64 zx.2]) (fun _ => []) (fun zx => R4 zx.1 ∧ zx = hAdd (num (vI x3.1)) (num (vI x3.2)))) ∧ (∃ zx : Int × Int, (fun zx => R4 zx.1 ∧ zx = hAdd (num (vI x3.1)) (num (vI x3.2))) zx) ∧ ∀ x6 : Int × Int, (R4 x6.1 ∧ x6 = hAdd (num (vI x3.1)) (num (vI x3.2))) → ∀ b7 : Nat, b7 = b7 ∧ (none : Option Nat) = none ∧ b7 = b7 ∧ (none : Option Nat) = none ∧ b7 = b7 ∧ (none : Option Nat) = none ∧ b7 = b7 ∧ (none : Option Nat) = none ∧ b5 = b5 ∧ (none : Option Nat) = none ∧ b5 = b5 ∧ (none : Option Nat) = none ∧ b5 = b5 ∧ (none : Option Nat) = none ∧ b5 = b5 ∧ (none : Option Nat) = none ∧ b4 = b4 ∧ (none : Option Nat) = none ∧ b4 = b4 ∧ (none : Option Nat) = none ∧ b4 = b4 ∧ (none : Option Nat) = none ∧ b4 = b4 ∧ (none : Option Nat) = none ∧ (CallT Try.prog 7 #[vI x3.2, vI x3.1] [] (Int × Int) (fun zx => .tuple #[vI zx.1, .int .i64 zx.2]) (fun _ => []) (fun zx => R4 zx.1 ∧ zx = hSub (num (vI x3.2)) (num (vI x3.1)))) ∧ (∃ zx : Int × Int, (fun zx => R4 zx.1 ∧ zx = hSub (num (vI x3.2)) (num (vI x3.1))) zx) ∧ ∀ x8 : Int × Int, (R4 x8.1 ∧ x8 = hSub (num (vI x3.2)) (num (vI x3.1))) → ∀ b9 : Nat, b9 = b9 ∧ (none : Option Nat) = none ∧ b9 = b9 ∧ (none : Option Nat) = none ∧ b9 = b9 ∧ (none : Option Nat) = none ∧ b9 = b9 ∧ (none : Option Nat) = none ∧ b1 = b1 ∧ (none : Option Nat) = none ∧ b1 = b1 ∧ (none : Option Nat) = none ∧ b1 = b1 ∧ (none : Option Nat) = none ∧ b1 = b1 ∧ (none : Option Nat) = none ∧ b2 = b2 ∧ (none : Option Nat) = none ∧ b2 = b2 ∧ (none : Option Nat) = none ∧ b2 = b2 ∧ (none : Option Nat) = none ∧ b2 = b2 ∧ (none : Option Nat) = none ∧ (CallT Try.prog 8 #[vI a, vI b] [] Int (fun zx => .int .u64 zx) (fun _ => []) (fun zx => zx = sUse (num (vI a)) (num (vI b)))) ∧ (∃ zx : Int, (fun zx => zx = sUse (num (vI a)) (num (vI b))) zx) ∧ ∀ x10 : Int, (x10 = sUse (num (vI a)) (num (vI b))) → b1 = b1 ∧ (none : Option Nat) = none ∧ b1 = b1 ∧ (none : Option Nat) = none ∧ b1 = b1 ∧ (none : Option Nat) = none ∧ b1 = b1 ∧ (none : Option Nat) = none ∧ b2 = b2 ∧ (none : Option Nat) = none ∧ b2 = b2 ∧ (none : Option Nat) = none ∧ b2 = b2 ∧ (none : Option Nat) = none ∧ b2 = b2 ∧ (none : Option Nat) = none ∧ (CallT Try.prog 9 #[vI a, vI b] [] Int (fun zx => .int .u64 zx) (fun _ => []) (fun zx => zx = sUse (num (vI a)) (num (vI b)))) ∧ (∃ zx : Int, (fun zx => zx = sUse (num (vI a)) (num (vI b))) zx) ∧ ∀ x11 : Int, (x11 = sUse (num (vI a)) (num (vI b))) → (∃ _ : Unit, True ∧ Value.bool (x10 == x11) = .bool true) ∧ ∀ _ : Unit, (True) → true = true ∧ true = true ∧ (∃ _ : Unit, True ∧ Value.bool (x6.2 == (0 : Int)) = .bool true) ∧ ∀ _ : Unit, (True) → true = true ∧ b7 = b7 ∧ (none : Option Nat) = none ∧ b7 = b7 ∧ (none : Option Nat) = none ∧ b7 = b7 ∧ (none : Option Nat) = none ∧ b7 = b7 ∧ (none : Option Nat) = none ∧ true = true ∧ b1 = b1 ∧ (none : Option Nat) = none ∧ b1 = b1 ∧ (none : Option Nat) = none ∧ b1 = b1 ∧ (none : Option Nat) = none ∧ b1 = b1 ∧ (none : Option Nat) = none ∧ true = true ∧ (OpT Try.prog (xBin .eql 24 (vI x6.1) (vI a)) [] Unit (fun _ => .bool true) (fun _ => []) (fun _ => True)) ∧ (∃ zx : Unit, (fun _ => True) zx) ∧ ∀ _ : Unit, (True) → true = true ∧ true = true ∧ (∃ _ : Unit, True ∧ Value.bool (x8.2 == (0 : Int)) = .bool true) ∧ ∀ _ : Unit, (True) → true = true ∧ b9 = b9 ∧ (none : Option Nat) = none ∧ b9 = b9 ∧ (none : Option Nat) = none ∧ b9 = b9 ∧ (none : Option Nat) = none ∧ b9 = b9 ∧ (none : Option Nat) = none ∧ true = true ∧ (CallT Try.prog 11 #[.int .u64 1] [] Unit (fun _ => vI (1 : Int)) (fun _ => []) (fun _ => True)) ∧ (∃ zx : Unit, (fun _ => True) zx) ∧ ∀ _ : Unit, (True) → true = true ∧ (CallT Try.prog 10 #[vI x8.1, vI (1 : Int)] [] Unit (fun _ => .int .i64 (hCmp (num (vI x8.1)) (num (vI (1 : Int))))) (fun _ => []) (fun _ => True)) ∧ (∃ zx : Unit, (fun _ => True) zx) ∧ ∀ _ : Unit, (True) → true = true ∧ (∃ _ : Unit, True ∧ Value.bool (decide ((hCmp (num (vI x8.1)) (num (vI (1 : Int)))) ≤ (0 : Int))) = .bool true) ∧ ∀ _ : Unit, (True) → ∃ _ : Unit, (True) ∧ Value.bool true = .bool true ∧ True) := by kernel_rfl
set_option maxRecDepth 100000 in
theorem law16_ShareUses (a : Int) (b : Int) (r_a : R4 a) (r_b : R4 b) : CallT Try.prog 3 #[vI a, vI b] [] Unit (fun _ => .bool true) (fun _ => []) (fun _ => True) := by
  refine call_of (c := bodyOf Try.f3) (n := 56) (fn := Try.f3) Try.mixed Try.func3 (by kernel_rfl) (by kernel_rfl) (by kernel_rfl) 2000 _ [] [] rfl rfl (Eq.mpr (law16_ShareUses_vc a b) ?_)
  intro b1
  intro b2
  refine ⟨law16_lives, ⟨(), trivial⟩, ?_⟩
  intro _
  intro _
  refine ⟨rfl, ?_⟩
  refine ⟨rfl, rfl, rfl, rfl, rfl, rfl, rfl, rfl, share_Split a (by assumption), ⟨(_, _), half_R4 (by first | exact R4_num _ | exact by assumption), rest_R4 (by first | exact R4_num _ | exact by assumption), rfl, rfl⟩, ?_⟩
  intro x3
  intro h1
  obtain ⟨rh1_1, h1⟩ := h1
  obtain ⟨rh1_2, h1⟩ := h1
  try simp only [num_vI (n := a) (by assumption)] at h1
  have hS := h1
  intro b4
  intro b5
  refine ⟨rfl, rfl, rfl, rfl, rfl, rfl, rfl, rfl, rfl, rfl, rfl, rfl, rfl, rfl, rfl, rfl, ?_⟩
  have r0 := r_a; unfold R4 at r0
  have s1 := hS.1; have s2 := hS.2
  refine ⟨rfl, rfl, rfl, rfl, rfl, rfl, rfl, rfl, rfl, rfl, rfl, rfl, rfl, rfl, rfl, rfl, huge_Add x3.1 x3.2 (by assumption) (by assumption), ⟨hAdd (num (vI x3.1)) (num (vI x3.2)), hAdd_R (R4_num _) (R4_num _), rfl⟩, ?_⟩
  intro x6
  intro h2
  obtain ⟨rh2_1, h2⟩ := h2
  try simp only [num_vI (n := x3.1) (by assumption), num_vI (n := x3.2) (by assumption)] at h2
  have cA := hAdd_cases h2
  intro b7
  refine ⟨rfl, rfl, rfl, rfl, rfl, rfl, rfl, rfl, ?_⟩
  refine ⟨rfl, rfl, rfl, rfl, rfl, rfl, rfl, rfl, rfl, rfl, rfl, rfl, rfl, rfl, rfl, rfl, huge_Sub x3.2 x3.1 (by assumption) (by assumption), ⟨hSub (num (vI x3.2)) (num (vI x3.1)), hSub_R (R4_num _) (R4_num _), rfl⟩, ?_⟩
  intro x8
  intro h3
  obtain ⟨rh3_1, h3⟩ := h3
  try simp only [num_vI (n := x3.2) (by assumption), num_vI (n := x3.1) (by assumption)] at h3
  have cB := hSub_cases h3
  intro b9
  refine ⟨rfl, rfl, rfl, rfl, rfl, rfl, rfl, rfl, ?_⟩
  refine ⟨rfl, rfl, rfl, rfl, rfl, rfl, rfl, rfl, rfl, rfl, rfl, rfl, rfl, rfl, rfl, rfl, share_Use a b (by assumption) (by assumption), ⟨_, rfl⟩, ?_⟩
  intro x10
  intro h4
  try simp only [num_vI (n := a) (by assumption), num_vI (n := b) (by assumption)] at h4
  have hU := h4
  refine ⟨rfl, rfl, rfl, rfl, rfl, rfl, rfl, rfl, rfl, rfl, rfl, rfl, rfl, rfl, rfl, rfl, ref16_Use a b (by assumption) (by assumption), ⟨_, rfl⟩, ?_⟩
  intro x11
  intro h5
  try simp only [num_vI (n := a) (by assumption), num_vI (n := b) (by assumption)] at h5
  have hV := h5
  refine ⟨⟨(), trivial, congrArg Value.bool (by rw [hU, hV]; exact beq_self_eq_true _)⟩, ?_⟩
  intro _
  intro _
  refine ⟨rfl, rfl, ⟨(), trivial, congrArg Value.bool (beq_iff_eq.2 (by omega))⟩, ?_⟩
  intro _
  intro _
  refine ⟨rfl, rfl, rfl, rfl, rfl, rfl, rfl, rfl, rfl, rfl, rfl, rfl, rfl, rfl, rfl, rfl, rfl, rfl, rfl, OpT.ofPure (Try.xeq24 x6.1 a) (congrArg Value.bool ((by rw [num_vI (by assumption), num_vI r_a]; exact beq_iff_eq.2 (by omega)))), ⟨(), trivial⟩, ?_⟩
  intro _
  intro _
  refine ⟨rfl, rfl, ⟨(), trivial, congrArg Value.bool (beq_iff_eq.2 (by omega))⟩, ?_⟩
  intro _
  intro _
  refine ⟨rfl, rfl, rfl, rfl, rfl, rfl, rfl, rfl, rfl, rfl, huge_Of (1 : Int) (by first | assumption | exact W_lim _ _ | (unfold W; decide)), ⟨(), trivial⟩, ?_⟩
  intro _
  intro _
  refine ⟨rfl, huge_Cmp x8.1 (1 : Int) (by assumption) (by unfold R4; decide), ⟨(), trivial⟩, ?_⟩
  intro _
  intro _
  refine ⟨rfl, ⟨(), trivial, congrArg Value.bool (decide_eq_true (by rw [hCmp_le0, num_vI (by assumption), num_vI R4_one]; omega))⟩, ?_⟩
  intro _
  intro _
  exact ⟨(), trivial, rfl, trivial⟩

end Go.Proofs
