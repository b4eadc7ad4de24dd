/- Contracts of this program's functions, and their proofs, printed by a program of the prover's own (see the claim's other texts for what the words mean). -/
import Derived.Test.YtohkmdnelbajiaaL16InsC3
set_option linter.unusedVariables false
set_option linter.unusedSimpArgs false
namespace Go.Proofs
open Go.Sx
set_option maxRecDepth 100000 in
set_option maxHeartbeats 1000000 in
theorem share_In (A : Int) (S : Int) (n : Int) (r_A : R4 A) (r_S : R4 S) (r_n : R4 n) : CallT Try.prog 50 #[vI A, vI S, vI n] [] (Int × Int) (fun zx => .tuple #[vI zx.1, .int .i64 zx.2]) (fun zx => []) (fun zx => (R4 zx.1 ∧ zx = sIn (num (vI A)) (num (vI S)) (num (vI n)))) := by
  refine call_of (c := bodyOf Try.f50) (n := 66) (fn := Try.f50) Try.mixed Try.func50 (by kernel_rfl) (by kernel_rfl) (by kernel_rfl) 2000 _ [.rd 3, .rd 3, .rd 3, .rd 3] [] rfl rfl (Eq.mpr (share_In_vc A S n) ?_)
  have g0 := r_A.1; have g1 := r_S.1; have g2 := r_n.1
  have qn := quo_nonneg r_n.1 r_S.1 r_A.1
  intro b1
  intro b2
  intro b3
  intro b4
  refine ⟨rfl, rfl, rfl, rfl, rfl, rfl, rfl, rfl, Try.xeq44 n 0, ?_⟩
  refine ⟨fun h1 => ?_, fun h1 => ?_⟩
  · refine ⟨rfl, rfl, rfl, rfl, rfl, rfl, rfl, rfl, rfl, rfl, rfl, rfl, rfl, rfl, rfl, rfl, ?_⟩
    refine ⟨rfl, rfl, rfl, rfl, rfl, rfl, rfl, rfl, ?_⟩
    try simp (disch := first | assumption | exact R4_zero | exact R4_one) only [num_vI, hCmp_pos, hCmp_neg, hCmp_le0, hCmp_ge0, decide_eq_true_eq, decide_eq_false_iff_not, gt_iff_lt, ge_iff_le, beq_iff_eq, beq_eq_false_iff_ne, bne_iff_ne, bne_eq_false_iff_eq, ne_eq] at *
    have ha : n = 0 := by omega
    have hs : sIn A S n = (0, 3) := by
      unfold sIn
      (repeat' split) <;> first | rfl | (exfalso; omega)
    exact ⟨(0, 3), ⟨R4_zero, by first | exact hs.symm | (rw [num_vI r_A, num_vI r_S, num_vI r_n]; exact hs.symm)⟩, by rw [ha], trivial⟩
  · refine ⟨rfl, rfl, rfl, rfl, rfl, rfl, rfl, rfl, rfl, rfl, rfl, rfl, rfl, rfl, rfl, rfl, share_more A S (by assumption) (by assumption), ⟨_, (sMore_R (by first | exact R4_num _ | exact by assumption) (by first | exact R4_num _ | exact by assumption)).1, (sMore_R (by first | exact R4_num _ | exact by assumption) (by first | exact R4_num _ | exact by assumption)).2, rfl⟩, ?_⟩
    intro x5
    intro h2
    obtain ⟨rh2_1, h2⟩ := h2
    obtain ⟨rh2_21, h2⟩ := h2
    try simp only [num_vI (n := A) (by assumption), num_vI (n := S) (by assumption)] at h2
    have cm := sMore_cases h2
    intro b6
    intro b7
    refine ⟨rfl, rfl, rfl, rfl, rfl, rfl, rfl, rfl, rfl, rfl, rfl, rfl, rfl, rfl, rfl, rfl, ?_⟩
    refine ⟨fun h3 => ?_, fun h3 => ?_⟩
    · refine ⟨rfl, rfl, rfl, rfl, rfl, rfl, rfl, rfl, ?_⟩
      refine ⟨rfl, rfl, rfl, rfl, rfl, rfl, rfl, rfl, ?_⟩
      try simp (disch := first | assumption | exact R4_zero | exact R4_one) only [num_vI, hCmp_pos, hCmp_neg, hCmp_le0, hCmp_ge0, decide_eq_true_eq, decide_eq_false_iff_not, gt_iff_lt, ge_iff_le, beq_iff_eq, beq_eq_false_iff_ne, bne_iff_ne, bne_eq_false_iff_eq, ne_eq] at *
      have he : x5.2.2 = 2 := by omega
      have hs : sIn A S n = (0, 2) := by
        unfold sIn
        (repeat' split) <;> first | rfl | (exfalso; omega)
      exact ⟨(0, 2), ⟨R4_zero, by first | exact hs.symm | (rw [num_vI r_A, num_vI r_S, num_vI r_n]; exact hs.symm)⟩, by rw [he, vI_zero], trivial⟩
    · refine ⟨rfl, rfl, rfl, rfl, rfl, rfl, rfl, rfl, rfl, rfl, rfl, rfl, rfl, rfl, rfl, rfl, rfl, rfl, rfl, rfl, rfl, rfl, rfl, rfl, wide_MulDiv n x5.2.1 x5.1 (by assumption) (by assumption) (by assumption), ⟨_, wMulDiv_R (R4_num _) (R4_num _) (R4_num _), rfl⟩, ?_⟩
      intro x8
      intro h4
      obtain ⟨rh4_1, h4⟩ := h4
      try simp only [num_vI (n := n) (by assumption), num_vI (n := x5.2.1) (by assumption), num_vI (n := x5.1) (by assumption)] at h4
      have cq := wMulDiv_cases h4 (by try simp (disch := first | assumption | exact R4_zero | exact R4_one) only [num_vI, hCmp_pos, hCmp_neg, hCmp_le0, hCmp_ge0, decide_eq_true_eq, decide_eq_false_iff_not, gt_iff_lt, ge_iff_le, beq_iff_eq, beq_eq_false_iff_ne, bne_iff_ne, bne_eq_false_iff_eq, ne_eq] at *; omega)
      rw [show x5.2.1 = S + 1 from by try simp (disch := first | assumption | exact R4_zero | exact R4_one) only [num_vI, hCmp_pos, hCmp_neg, hCmp_le0, hCmp_ge0, decide_eq_true_eq, decide_eq_false_iff_not, gt_iff_lt, ge_iff_le, beq_iff_eq, beq_eq_false_iff_ne, bne_iff_ne, bne_eq_false_iff_eq, ne_eq] at *; omega, show x5.1 = A + 1 from by try simp (disch := first | assumption | exact R4_zero | exact R4_one) only [num_vI, hCmp_pos, hCmp_neg, hCmp_le0, hCmp_ge0, decide_eq_true_eq, decide_eq_false_iff_not, gt_iff_lt, ge_iff_le, beq_iff_eq, beq_eq_false_iff_ne, bne_iff_ne, bne_eq_false_iff_eq, ne_eq] at *; omega] at cq
      intro b9
      refine ⟨rfl, rfl, rfl, rfl, rfl, rfl, rfl, rfl, ?_⟩
      refine ⟨fun h5 => ?_, fun h5 => ?_⟩
      · refine ⟨rfl, rfl, rfl, rfl, rfl, rfl, rfl, rfl, ?_⟩
        refine ⟨rfl, rfl, rfl, rfl, rfl, rfl, rfl, rfl, ?_⟩
        try simp (disch := first | assumption | exact R4_zero | exact R4_one) only [num_vI, hCmp_pos, hCmp_neg, hCmp_le0, hCmp_ge0, decide_eq_true_eq, decide_eq_false_iff_not, gt_iff_lt, ge_iff_le, beq_iff_eq, beq_eq_false_iff_ne, bne_iff_ne, bne_eq_false_iff_eq, ne_eq] at *
        have he : x8.2 = 2 := by omega
        have hs : sIn A S n = (0, 2) := by
          unfold sIn
          (repeat' split) <;> first | rfl | (exfalso; omega)
        exact ⟨(0, 2), ⟨R4_zero, by first | exact hs.symm | (rw [num_vI r_A, num_vI r_S, num_vI r_n]; exact hs.symm)⟩, by rw [he, vI_zero], trivial⟩
      · refine ⟨rfl, rfl, rfl, rfl, rfl, rfl, rfl, rfl, Try.xeq44 x8.1 0, ?_⟩
        refine ⟨fun h6 => ?_, fun h6 => ?_⟩
        · refine ⟨rfl, rfl, rfl, rfl, rfl, rfl, rfl, rfl, rfl, rfl, rfl, rfl, rfl, rfl, rfl, rfl, ?_⟩
          refine ⟨rfl, rfl, rfl, rfl, rfl, rfl, rfl, rfl, ?_⟩
          try simp (disch := first | assumption | exact R4_zero | exact R4_one) only [num_vI, hCmp_pos, hCmp_neg, hCmp_le0, hCmp_ge0, decide_eq_true_eq, decide_eq_false_iff_not, gt_iff_lt, ge_iff_le, beq_iff_eq, beq_eq_false_iff_ne, bne_iff_ne, bne_eq_false_iff_eq, ne_eq] at *
          have ha : x8.1 = 0 := by omega
          have hs : sIn A S n = (0, 3) := by
            unfold sIn
            (repeat' split) <;> first | rfl | (exfalso; omega)
          exact ⟨(0, 3), ⟨R4_zero, by first | exact hs.symm | (rw [num_vI r_A, num_vI r_S, num_vI r_n]; exact hs.symm)⟩, by rw [ha], trivial⟩
        · refine ⟨rfl, rfl, rfl, rfl, rfl, rfl, rfl, rfl, rfl, rfl, rfl, rfl, rfl, rfl, rfl, rfl, huge_Add A n (by assumption) (by assumption), ⟨hAdd (num (vI A)) (num (vI n)), hAdd_R (R4_num _) (R4_num _), rfl⟩, ?_⟩
          intro x10
          intro h7
          obtain ⟨rh7_1, h7⟩ := h7
          try simp only [num_vI (n := A) (by assumption), num_vI (n := n) (by assumption)] at h7
          have ha := h7
          have cha := hAdd_cases h7
          refine ⟨rfl, rfl, rfl, rfl, rfl, rfl, rfl, rfl, rfl, rfl, rfl, rfl, rfl, rfl, rfl, rfl, huge_Add S x8.1 (by assumption) (by assumption), ⟨hAdd (num (vI S)) (num (vI x8.1)), hAdd_R (R4_num _) (R4_num _), rfl⟩, ?_⟩
          intro x11
          intro h8
          obtain ⟨rh8_1, h8⟩ := h8
          try simp only [num_vI (n := S) (by assumption), num_vI (n := x8.1) (by assumption)] at h8
          have hb := h8
          have chb := hAdd_cases h8
          intro b12
          refine ⟨rfl, rfl, rfl, rfl, rfl, rfl, rfl, rfl, ?_⟩
          refine ⟨fun h9 => ?_, fun h9 => ?_⟩
          · refine ⟨⟨(), trivial, congrArg Value.bool h9⟩, ?_⟩
            intro _
            intro _
            refine ⟨rfl, rfl, ?_⟩
            refine ⟨rfl, ?_⟩
            refine ⟨rfl, rfl, rfl, rfl, rfl, rfl, rfl, rfl, ?_⟩
            refine ⟨rfl, rfl, rfl, rfl, rfl, rfl, rfl, rfl, ?_⟩
            try simp (disch := first | assumption | exact R4_zero | exact R4_one) only [num_vI, hCmp_pos, hCmp_neg, hCmp_le0, hCmp_ge0, decide_eq_true_eq, decide_eq_false_iff_not, gt_iff_lt, ge_iff_le, beq_iff_eq, beq_eq_false_iff_ne, bne_iff_ne, bne_eq_false_iff_eq, ne_eq] at *
            have hs : sIn A S n = (0, 2) := by
              unfold sIn
              (repeat' split) <;> first | rfl | (exfalso; omega)
            exact ⟨(0, 2), ⟨R4_zero, by first | exact hs.symm | (rw [num_vI r_A, num_vI r_S, num_vI r_n]; exact hs.symm)⟩, by rw [vI_zero], trivial⟩
          · refine ⟨⟨(), trivial, congrArg Value.bool h9⟩, ?_⟩
            intro _
            intro _
            refine ⟨rfl, rfl, ?_⟩
            refine ⟨fun h10 => ?_, fun h10 => ?_⟩
            · refine ⟨rfl, rfl, rfl, rfl, rfl, rfl, rfl, rfl, ?_⟩
              refine ⟨rfl, rfl, rfl, rfl, rfl, rfl, rfl, rfl, ?_⟩
              try simp (disch := first | assumption | exact R4_zero | exact R4_one) only [num_vI, hCmp_pos, hCmp_neg, hCmp_le0, hCmp_ge0, decide_eq_true_eq, decide_eq_false_iff_not, gt_iff_lt, ge_iff_le, beq_iff_eq, beq_eq_false_iff_ne, bne_iff_ne, bne_eq_false_iff_eq, ne_eq] at *
              have hs : sIn A S n = (0, 2) := by
                unfold sIn
                (repeat' split) <;> first | rfl | (exfalso; omega)
              exact ⟨(0, 2), ⟨R4_zero, by first | exact hs.symm | (rw [num_vI r_A, num_vI r_S, num_vI r_n]; exact hs.symm)⟩, by rw [vI_zero], trivial⟩
            · refine ⟨rfl, rfl, rfl, rfl, rfl, rfl, rfl, rfl, rfl, rfl, rfl, rfl, rfl, rfl, rfl, rfl, ?_⟩
              refine ⟨rfl, rfl, rfl, rfl, rfl, rfl, rfl, rfl, ?_⟩
              try simp (disch := first | assumption | exact R4_zero | exact R4_one) only [num_vI, hCmp_pos, hCmp_neg, hCmp_le0, hCmp_ge0, decide_eq_true_eq, decide_eq_false_iff_not, gt_iff_lt, ge_iff_le, beq_iff_eq, beq_eq_false_iff_ne, bne_iff_ne, bne_eq_false_iff_eq, ne_eq] at *
              have ha : x8.1 = n * (S + 1) / (A + 1) := by omega
              have hs : sIn A S n = (n * (S + 1) / (A + 1), 0) := by
                unfold sIn
                (repeat' split) <;> first | rfl | (exfalso; omega)
              exact ⟨(n * (S + 1) / (A + 1), 0), ⟨ha ▸ (by assumption), by first | exact hs.symm | (rw [num_vI r_A, num_vI r_S, num_vI r_n]; exact hs.symm)⟩, by rw [ha], trivial⟩

def share_Out_C : List Value → List Slot → Ctr := fun vs hs => ⟨Int × Int, fun zx => .tuple #[vI zx.1, .int .i64 zx.2], fun _ => hs, fun zx => R4 zx.1 ∧ zx = sOut (num (varg vs 1)) (num (varg vs 2)) (num (varg vs 3))⟩
set_option maxRecDepth 100000 in
set_option maxHeartbeats 1000000 in
theorem share_Out_vc (A : Int) (S : Int) (n : Int) : codeW Try.prog 53 none 2000 none (bodyOf Try.f52) (.reg [.sem [.nw 0], .sem [.nw 1], .sem [.nw 2], .sem [.nw 3], .sem []] (.reg [.sem [.rd 2, .rd 2, .rd 2, .rd 2], .sem [], .eq (f_eq), .sem []] (.cond (.reg [.sem [.rd 2, .rd 2, .rd 2, .rd 2], .sem [.wr 3, .wr 3, .wr 3, .wr 3], .sem []] (.done)) (.reg [.sem [.rd 2, .rd 2, .rd 2, .rd 2], .sem [.rd 1, .rd 1, .rd 1, .rd 1], .callr [] huge_Cmp_C, .sem [], .sem []] (.cond (.reg [.sem [], .sem [.wr 3, .wr 3, .wr 3, .wr 3], .sem []] (.done)) (.reg [.sem [.rd 0, .rd 0, .rd 0, .rd 0], .sem [.rd 1, .rd 1, .rd 1, .rd 1], .callr [] share_more_C, .sem [], .sem [], .sem [], .sem [], .sem [.nw 4], .sem [.nw 5], .sem [.wr 4, .wr 4, .wr 4, .wr 4], .sem [.wr 5, .wr 5, .wr 5, .wr 5], .sem []] (.reg [.sem [], .sem []] (.cond (.reg [.sem [], .sem [], .sem [.wr 3, .wr 3, .wr 3, .wr 3], .sem []] (.done)) (.reg [.sem [.rd 2, .rd 2, .rd 2, .rd 2], .sem [.rd 4, .rd 4, .rd 4, .rd 4], .sem [.rd 5, .rd 5, .rd 5, .rd 5], .callr [] wide_MulDiv_C, .sem [], .sem [], .sem [], .sem [.nw 6], .sem [.wr 6, .wr 6, .wr 6, .wr 6], .sem []] (.reg [.sem [], .sem [], .sem []] (.cond (.reg [.sem [], .sem [], .sem [.wr 3, .wr 3, .wr 3, .wr 3], .sem []] (.done)) (.reg [.sem [.rd 6, .rd 6, .rd 6, .rd 6], .sem [.rd 0, .rd 0, .rd 0, .rd 0], .callr [] huge_Cmp_C, .sem [], .sem []] (.cond (.reg [.sem [], .sem [.wr 3, .wr 3, .wr 3, .wr 3], .sem []] (.done)) (.reg [.sem [.rd 6, .rd 6, .rd 6, .rd 6], .sem [.wr 3, .wr 3, .wr 3, .wr 3], .sem []] (.done)))))))))))))))
    (init #[vI A, vI S, vI n] []) (finW Try.prog Try.f52 [.rd 3, .rd 3, .rd 3, .rd 3] [] (X := Int × Int) (fun zx => .tuple #[vI zx.1, .int .i64 zx.2]) (fun zx => []) (fun zx => (R4 zx.1 ∧ zx = sOut (num (vI A)) (num (vI S)) (num (vI n))))) =
    (∀ b1 : Nat, ∀ b2 : Nat, ∀ b3 : Nat, ∀ b4 : Nat, b3 = b3 ∧ (none : Option Nat) = none ∧ b3 = b3 ∧ (none : Option Nat) = none ∧ b3 = b3 ∧ (none : Option Nat) = none ∧ b3 = b3 ∧ (none : Option Nat) = none ∧ (PureRun Try.prog (xBin .eql 44 (vI n) (vI 0)) (.bool (num (vI n) == num (vI 0)))) ∧ ((num (vI n) == num (vI 0)) = true → b3 = b3 ∧ (none : Option Nat) = none ∧ b3 = b3 ∧ (none : Option Nat) = none ∧ b3 = b3 ∧ (none : Option Nat) = none ∧ b3 = b3 ∧ (none : Option Nat) = none ∧ b4 = b4 ∧ (none : Option Nat) = none ∧ b4 = b4 ∧ (none : Option Nat) = none ∧ b4 = b4 ∧ (none : Option Nat) = none ∧ b4 = b4 ∧ (none : Option Nat) = none ∧ b4 = b4 ∧ (none : Option Nat) = none ∧ b4 = b4 ∧ (none : Option Nat) = none ∧ b4 = b4 ∧ (none : Option Nat) = none ∧ b4 = b4 ∧ (none : Option Nat) = none ∧ ∃ zx : Int × Int, (R4 zx.1 ∧ zx = sOut (num (vI A)) (num (vI S)) (num (vI n))) ∧ Value.tuple #[vI n, .int .i64 3] = .tuple #[vI zx.1, .int .i64 zx.2] ∧ True) ∧ ((num (vI n) == num (vI 0)) = false → b3 = b3 ∧ (none : Option Nat) = none ∧ b3 = b3 ∧ (none : Option Nat) = none ∧ b3 = b3 ∧ (none : Option Nat) = none ∧ b3 = b3 ∧ (none : Option Nat) = none ∧ b2 = b2 ∧ (none : Option Nat) = none ∧ b2 = b2 ∧ (none : Option Nat) = none ∧ b2 = b2 ∧ (none : Option Nat) = none ∧ b2 = b2 ∧ (none : Option Nat) = none ∧ (CallT Try.prog 48 #[vI n, vI S] [] Unit (fun _ => .int .i64 (hCmp (num (vI n)) (num (vI S)))) (fun _ => []) (fun _ => True)) ∧ (∃ zx : Unit, (fun _ => True) zx) ∧ ∀ _ : Unit, (True) → ((decide ((hCmp (num (vI n)) (num (vI S))) > (0 : Int))) = true → b4 = b4 ∧ (none : Option Nat) = none ∧ b4 = b4 ∧ (none : Option Nat) = none ∧ b4 = b4 ∧ (none : Option Nat) = none ∧ b4 = b4 ∧ (none : Option Nat) = none ∧ b4 = b4 ∧ (none : Option Nat) = none ∧ b4 = b4 ∧ (none : Option Nat) = none ∧ b4 = b4 ∧ (none : Option Nat) = none ∧ b4 = b4 ∧ (none : Option Nat) = none ∧ ∃ zx : Int × Int, (R4 zx.1 ∧ zx = sOut (num (vI A)) (num (vI S)) (num (vI n))) ∧ Value.tuple #[.agg #[.int .u64 0, .int .u64 0, .int .u64 0, .int .u64 0], .int .i64 8] = .tuple #[vI zx.1, .int .i64 zx.2] ∧ True) ∧ ((decide ((hCmp (num (vI n)) (num (vI S))) > (0 : Int))) = false → b1 = b1 ∧ (none : Option Nat) = none ∧ b1 = b1 ∧ (none : Option Nat) = none ∧ b1 = b1 ∧ (none : Option Nat) = none ∧ b1 = b1 ∧ (none : Option Nat) = none ∧ b2 = b2 ∧ (none : Option Nat) = none ∧ b2 = b2 ∧ (none : Option Nat) = none ∧ b2 = b2 ∧ (none : Option Nat) = none ∧ b2 = b2 ∧ (none : Option Nat) = none ∧ (CallT Try.prog 87 #[vI A, vI S] [] (Int × Int × Int) (fun zx => .tuple #[vI zx.1, vI zx.2.1, .int .i64 zx.2.2]) (fun _ => []) (fun zx => R4 zx.1 ∧ R4 zx.2.1 ∧ zx = sMore (num (vI A)) (num (vI S)))) ∧ (∃ zx : Int × Int × Int, (fun zx => R4 zx.1 ∧ R4 zx.2.1 ∧ zx = sMore (num (vI A)) (num (vI S))) zx) ∧ ∀ x5 : Int × Int × Int, (R4 x5.1 ∧ R4 x5.2.1 ∧ x5 = sMore (num (vI A)) (num (vI S))) → ∀ b6 : Nat, ∀ b7 : Nat, b6 = b6 ∧ (none : Option Nat) = none ∧ b6 = b6 ∧ (none : Option Nat) = none ∧ b6 = b6 ∧ (none : Option Nat) = none ∧ b6 = b6 ∧ (none : Option Nat) = none ∧ b7 = b7 ∧ (none : Option Nat) = none ∧ b7 = b7 ∧ (none : Option Nat) = none ∧ b7 = b7 ∧ (none : Option Nat) = none ∧ b7 = b7 ∧ (none : Option Nat) = none ∧ ((x5.2.2 != (0 : Int)) = true → b4 = b4 ∧ (none : Option Nat) = none ∧ b4 = b4 ∧ (none : Option Nat) = none ∧ b4 = b4 ∧ (none : Option Nat) = none ∧ b4 = b4 ∧ (none : Option Nat) = none ∧ b4 = b4 ∧ (none : Option Nat) = none ∧ b4 = b4 ∧ (none : Option Nat) = none ∧ b4 = b4 ∧ (none : Option Nat) = none ∧ b4 = b4 ∧ (none : Option Nat) = none ∧ ∃ zx : Int × Int, (R4 zx.1 ∧ zx = sOut (num (vI A)) (num (vI S)) (num (vI n))) ∧ Value.tuple #[.agg #[.int .u64 0, .int .u64 0, .int .u64 0, .int .u64 0], .int .i64 x5.2.2] = .tuple #[vI zx.1, .int .i64 zx.2] ∧ True) ∧ ((x5.2.2 != (0 : Int)) = false → b3 = b3 ∧ (none : Option Nat) = none ∧ b3 = b3 ∧ (none : Option Nat) = none ∧ b3 = b3 ∧ (none : Option Nat) = none ∧ b3 = b3 ∧ (none : Option Nat) = none ∧ b6 = b6 ∧ (none : Option Nat) = none ∧ b6 = b6 ∧ (none : Option Nat) = none ∧ b6 = b6 ∧ (none : Option Nat) = none ∧ b6 = b6 ∧ (none : Option Nat) = none ∧ b7 = b7 ∧ (none : Option Nat) = none ∧ b7 = b7 ∧ (none : Option Nat) = none ∧ b7 = b7 ∧ (none : Option Nat) = none ∧ b7 = b7 ∧ (none : Option Nat) = none ∧ (CallT Try.prog 34 #[vI n, vI x5.1, vI x5.2.1] [] (Int × Int) (fun zx => .tuple #[vI zx.1, .int .i64 zx.2]) (fun _ => []) (fun zx => R4 zx.1 ∧ zx = wMulDiv (num (vI n)) (num (vI x5.1)) (num (vI x5.2.1)))) ∧ (∃ zx : Int × Int, (fun zx => R4 zx.1 ∧ zx = wMulDiv (num (vI n)) (num (vI x5.1)) (num (vI x5.2.1))) zx) ∧ ∀ x8 : Int × Int, (R4 x8.1 ∧ x8 = wMulDiv (num (vI n)) (num (vI x5.1)) (num (vI x5.2.1))) → ∀ b9 : Nat, b9 = b9 ∧ (none : Option Nat) = none ∧ b9 = b9 ∧ (none : Option Nat) = none ∧ b9 = b9 ∧ (none : Option Nat) = none ∧ b9 = b9 ∧ (none : Option Nat) = none ∧ ((x8.2 != (0 : Int)) = true → b4 = b4 ∧ (none : Option Nat) = none ∧ b4 = b4 ∧ (none : Option Nat) = none ∧ b4 = b4 ∧ (none : Option Nat) = none ∧ b4 = b4 ∧ (none : Option Nat) = none ∧ b4 = b4 ∧ (none : Option Nat) = none ∧ b4 = b4 ∧ (none : Option Nat) = none ∧ b4 = b4 ∧ (none : Option Nat) = none ∧ b4 = b4 ∧ (none : Option Nat) = none ∧ ∃ zx : Int × Int, (R4 zx.1 ∧ zx = sOut (num (vI A)) (num (vI S)) (num (vI n))) ∧ Value.tuple #[.agg #[.int .u64 0, .int .u64 0, .int .u64 0, .int .u64 0], .int .i64 x8.2] = .tuple #[vI zx.1, .int .i64 zx.2] ∧ True) ∧ ((x8.2 != (0 : Int)) = false → b9 = b9 ∧ (none : Option Nat) = none ∧ b9 = b9 ∧ (none : Option Nat) = none ∧ b9 = b9 ∧ (none : Option Nat) = none ∧ b9 = b9 ∧ (none : Option Nat) = none ∧ b1 = b1 ∧ (none : Option Nat) = none ∧ b1 = b1 ∧ (none : Option Nat) = none ∧ b1 = b1 ∧ (none : Option Nat) = none ∧ b1 = b1 ∧ (none : Option Nat) = none ∧ (CallT Try.prog 48 #[vI x8.1, vI A] [] Unit (fun _ => .int .i64 (hCmp (num (vI x8.1)) (num (vI A)))) (fun _ => []) (fun _ => True)) ∧ (∃ zx : Unit, (fun _ => True) zx) ∧ ∀ _ : Unit, (True) → ((decide ((hCmp (num (vI x8.1)) (num (vI A))) > (0 : Int))) = true → b4 = b4 ∧ (none : Option Nat) = none ∧ b4 = b4 ∧ (none : Option Nat) = none ∧ b4 = b4 ∧ (none : Option Nat) = none ∧ b4 = b4 ∧ (none : Option Nat) = none ∧ b4 = b4 ∧ (none : Option Nat) = none ∧ b4 = b4 ∧ (none : Option Nat) = none ∧ b4 = b4 ∧ (none : Option Nat) = none ∧ b4 = b4 ∧ (none : Option Nat) = none ∧ ∃ zx : Int × Int, (R4 zx.1 ∧ zx = sOut (num (vI A)) (num (vI S)) (num (vI n))) ∧ Value.tuple #[.agg #[.int .u64 0, .int .u64 0, .int .u64 0, .int .u64 0], .int .i64 8] = .tuple #[vI zx.1, .int .i64 zx.2] ∧ True) ∧ ((decide ((hCmp (num (vI x8.1)) (num (vI A))) > (0 : Int))) = false → b9 = b9 ∧ (none : Option Nat) = none ∧ b9 = b9 ∧ (none : Option Nat) = none ∧ b9 = b9 ∧ (none : Option Nat) = none ∧ b9 = b9 ∧ (none : Option Nat) = none ∧ b4 = b4 ∧ (none : Option Nat) = none ∧ b4 = b4 ∧ (none : Option Nat) = none ∧ b4 = b4 ∧ (none : Option Nat) = none ∧ b4 = b4 ∧ (none : Option Nat) = none ∧ b4 = b4 ∧ (none : Option Nat) = none ∧ b4 = b4 ∧ (none : Option Nat) = none ∧ b4 = b4 ∧ (none : Option Nat) = none ∧ b4 = b4 ∧ (none : Option Nat) = none ∧ ∃ zx : Int × Int, (R4 zx.1 ∧ zx = sOut (num (vI A)) (num (vI S)) (num (vI n))) ∧ Value.tuple #[vI x8.1, .int .i64 0] = .tuple #[vI zx.1, .int .i64 zx.2] ∧ True)))))) := by kernel_rfl
set_option maxRecDepth 100000 in
set_option maxHeartbeats 1000000 in
theorem share_Out (A : Int) (S : Int) (n : Int) (r_A : R4 A) (r_S : R4 S) (r_n : R4 n) : CallT Try.prog 52 #[vI A, vI S, vI n] [] (Int × Int) (fun zx => .tuple #[vI zx.1, .int .i64 zx.2]) (fun zx => []) (fun zx => (R4 zx.1 ∧ zx = sOut (num (vI A)) (num (vI S)) (num (vI n)))) := by
  refine call_of (c := bodyOf Try.f52) (n := 53) (fn := Try.f52) Try.mixed Try.func52 (by kernel_rfl) (by kernel_rfl) (by kernel_rfl) 2000 _ [.rd 3, .rd 3, .rd 3, .rd 3] [] rfl rfl (Eq.mpr (share_Out_vc A S n) ?_)
  have g0 := r_A.1; have g1 := r_S.1; have g2 := r_n.1
  have qn := quo_nonneg r_n.1 r_A.1 r_S.1
  intro b1
  intro b2
  intro b3
  intro b4
  refine ⟨rfl, rfl, rfl, rfl, rfl, rfl, rfl, rfl, Try.xeq44 n 0, ?_⟩
  refine ⟨fun h1 => ?_, fun h1 => ?_⟩
  · refine ⟨rfl, rfl, rfl, rfl, rfl, rfl, rfl, rfl, rfl, rfl, rfl, rfl, rfl, rfl, rfl, rfl, ?_⟩
    refine ⟨rfl, rfl, rfl, rfl, rfl, rfl, rfl, rfl, ?_⟩
    try simp (disch := first | assumption | exact R4_zero | exact R4_one) only [num_vI, hCmp_pos, hCmp_neg, hCmp_le0, hCmp_ge0, decide_eq_true_eq, decide_eq_false_iff_not, gt_iff_lt, ge_iff_le, beq_iff_eq, beq_eq_false_iff_ne, bne_iff_ne, bne_eq_false_iff_eq, ne_eq] at *
    have ha : n = 0 := by omega
    have hs : sOut A S n = (0, 3) := by
      unfold sOut
      (repeat' split) <;> first | rfl | (exfalso; omega)
    exact ⟨(0, 3), ⟨R4_zero, by first | exact hs.symm | (rw [num_vI r_A, num_vI r_S, num_vI r_n]; exact hs.symm)⟩, by rw [ha], trivial⟩
  · refine ⟨rfl, rfl, rfl, rfl, rfl, rfl, rfl, rfl, rfl, rfl, rfl, rfl, rfl, rfl, rfl, rfl, huge_Cmp n S (by assumption) (by assumption), ⟨(), trivial⟩, ?_⟩
    intro _
    intro _
    refine ⟨fun h2 => ?_, fun h2 => ?_⟩
    · refine ⟨rfl, rfl, rfl, rfl, rfl, rfl, rfl, rfl, ?_⟩
      refine ⟨rfl, rfl, rfl, rfl, rfl, rfl, rfl, rfl, ?_⟩
      try simp (disch := first | assumption | exact R4_zero | exact R4_one) only [num_vI, hCmp_pos, hCmp_neg, hCmp_le0, hCmp_ge0, decide_eq_true_eq, decide_eq_false_iff_not, gt_iff_lt, ge_iff_le, beq_iff_eq, beq_eq_false_iff_ne, bne_iff_ne, bne_eq_false_iff_eq, ne_eq] at *
      have hs : sOut A S n = (0, 8) := by
        unfold sOut
        (repeat' split) <;> first | rfl | (exfalso; omega)
      exact ⟨(0, 8), ⟨R4_zero, by first | exact hs.symm | (rw [num_vI r_A, num_vI r_S, num_vI r_n]; exact hs.symm)⟩, by rw [vI_zero], trivial⟩
    · refine ⟨rfl, rfl, rfl, rfl, rfl, rfl, rfl, rfl, rfl, rfl, rfl, rfl, rfl, rfl, rfl, rfl, share_more A S (by assumption) (by assumption), ⟨_, (sMore_R (by first | exact R4_num _ | exact by assumption) (by first | exact R4_num _ | exact by assumption)).1, (sMore_R (by first | exact R4_num _ | exact by assumption) (by first | exact R4_num _ | exact by assumption)).2, rfl⟩, ?_⟩
      intro x5
      intro h3
      obtain ⟨rh3_1, h3⟩ := h3
      obtain ⟨rh3_21, h3⟩ := h3
      try simp only [num_vI (n := A) (by assumption), num_vI (n := S) (by assumption)] at h3
      have cm := sMore_cases h3
      intro b6
      intro b7
      refine ⟨rfl, rfl, rfl, rfl, rfl, rfl, rfl, rfl, rfl, rfl, rfl, rfl, rfl, rfl, rfl, rfl, ?_⟩
      refine ⟨fun h4 => ?_, fun h4 => ?_⟩
      · refine ⟨rfl, rfl, rfl, rfl, rfl, rfl, rfl, rfl, ?_⟩
        refine ⟨rfl, rfl, rfl, rfl, rfl, rfl, rfl, rfl, ?_⟩
        try simp (disch := first | assumption | exact R4_zero | exact R4_one) only [num_vI, hCmp_pos, hCmp_neg, hCmp_le0, hCmp_ge0, decide_eq_true_eq, decide_eq_false_iff_not, gt_iff_lt, ge_iff_le, beq_iff_eq, beq_eq_false_iff_ne, bne_iff_ne, bne_eq_false_iff_eq, ne_eq] at *
        have he : x5.2.2 = 2 := by omega
        have hs : sOut A S n = (0, 2) := by
          unfold sOut
          (repeat' split) <;> first | rfl | (exfalso; omega)
        exact ⟨(0, 2), ⟨R4_zero, by first | exact hs.symm | (rw [num_vI r_A, num_vI r_S, num_vI r_n]; exact hs.symm)⟩, by rw [he, vI_zero], trivial⟩
      · refine ⟨rfl, rfl, rfl, rfl, rfl, rfl, rfl, rfl, rfl, rfl, rfl, rfl, rfl, rfl, rfl, rfl, rfl, rfl, rfl, rfl, rfl, rfl, rfl, rfl, wide_MulDiv n x5.1 x5.2.1 (by assumption) (by assumption) (by assumption), ⟨_, wMulDiv_R (R4_num _) (R4_num _) (R4_num _), rfl⟩, ?_⟩
        intro x8
        intro h5
        obtain ⟨rh5_1, h5⟩ := h5
        try simp only [num_vI (n := n) (by assumption), num_vI (n := x5.1) (by assumption), num_vI (n := x5.2.1) (by assumption)] at h5
        have cq := wMulDiv_cases h5 (by try simp (disch := first | assumption | exact R4_zero | exact R4_one) only [num_vI, hCmp_pos, hCmp_neg, hCmp_le0, hCmp_ge0, decide_eq_true_eq, decide_eq_false_iff_not, gt_iff_lt, ge_iff_le, beq_iff_eq, beq_eq_false_iff_ne, bne_iff_ne, bne_eq_false_iff_eq, ne_eq] at *; omega)
        rw [show x5.1 = A + 1 from by try simp (disch := first | assumption | exact R4_zero | exact R4_one) only [num_vI, hCmp_pos, hCmp_neg, hCmp_le0, hCmp_ge0, decide_eq_true_eq, decide_eq_false_iff_not, gt_iff_lt, ge_iff_le, beq_iff_eq, beq_eq_false_iff_ne, bne_iff_ne, bne_eq_false_iff_eq, ne_eq] at *; omega, show x5.2.1 = S + 1 from by try simp (disch := first | assumption | exact R4_zero | exact R4_one) only [num_vI, hCmp_pos, hCmp_neg, hCmp_le0, hCmp_ge0, decide_eq_true_eq, decide_eq_false_iff_not, gt_iff_lt, ge_iff_le, beq_iff_eq, beq_eq_false_iff_ne, bne_iff_ne, bne_eq_false_iff_eq, ne_eq] at *; omega] at cq
        intro b9
        refine ⟨rfl, rfl, rfl, rfl, rfl, rfl, rfl, rfl, ?_⟩
        refine ⟨fun h6 => ?_, fun h6 => ?_⟩
        · refine ⟨rfl, rfl, rfl, rfl, rfl, rfl, rfl, rfl, ?_⟩
          refine ⟨rfl, rfl, rfl, rfl, rfl, rfl, rfl, rfl, ?_⟩
          try simp (disch := first | assumption | exact R4_zero | exact R4_one) only [num_vI, hCmp_pos, hCmp_neg, hCmp_le0, hCmp_ge0, decide_eq_true_eq, decide_eq_false_iff_not, gt_iff_lt, ge_iff_le, beq_iff_eq, beq_eq_false_iff_ne, bne_iff_ne, bne_eq_false_iff_eq, ne_eq] at *
          have he : x8.2 = 2 := by omega
          have hs : sOut A S n = (0, 2) := by
            unfold sOut
            (repeat' split) <;> first | rfl | (exfalso; omega)
          exact ⟨(0, 2), ⟨R4_zero, by first | exact hs.symm | (rw [num_vI r_A, num_vI r_S, num_vI r_n]; exact hs.symm)⟩, by rw [he, vI_zero], trivial⟩
        · refine ⟨rfl, rfl, rfl, rfl, rfl, rfl, rfl, rfl, rfl, rfl, rfl, rfl, rfl, rfl, rfl, rfl, huge_Cmp x8.1 A (by assumption) (by assumption), ⟨(), trivial⟩, ?_⟩
          intro _
          intro _
          refine ⟨fun h7 => ?_, fun h7 => ?_⟩
          · refine ⟨rfl, rfl, rfl, rfl, rfl, rfl, rfl, rfl, ?_⟩
            refine ⟨rfl, rfl, rfl, rfl, rfl, rfl, rfl, rfl, ?_⟩
            try simp (disch := first | assumption | exact R4_zero | exact R4_one) only [num_vI, hCmp_pos, hCmp_neg, hCmp_le0, hCmp_ge0, decide_eq_true_eq, decide_eq_false_iff_not, gt_iff_lt, ge_iff_le, beq_iff_eq, beq_eq_false_iff_ne, bne_iff_ne, bne_eq_false_iff_eq, ne_eq] at *
            have hs : sOut A S n = (0, 8) := by
              unfold sOut
              (repeat' split) <;> first | rfl | (exfalso; omega)
            exact ⟨(0, 8), ⟨R4_zero, by first | exact hs.symm | (rw [num_vI r_A, num_vI r_S, num_vI r_n]; exact hs.symm)⟩, by rw [vI_zero], trivial⟩
          · refine ⟨rfl, rfl, rfl, rfl, rfl, rfl, rfl, rfl, rfl, rfl, rfl, rfl, rfl, rfl, rfl, rfl, ?_⟩
            refine ⟨rfl, rfl, rfl, rfl, rfl, rfl, rfl, rfl, ?_⟩
            try simp (disch := first | assumption | exact R4_zero | exact R4_one) only [num_vI, hCmp_pos, hCmp_neg, hCmp_le0, hCmp_ge0, decide_eq_true_eq, decide_eq_false_iff_not, gt_iff_lt, ge_iff_le, beq_iff_eq, beq_eq_false_iff_ne, bne_iff_ne, bne_eq_false_iff_eq, ne_eq] at *
            have ha : x8.1 = n * (A + 1) / (S + 1) := by omega
            have hs : sOut A S n = (n * (A + 1) / (S + 1), 0) := by
              unfold sOut
              (repeat' split) <;> first | rfl | (exfalso; omega)
            exact ⟨(n * (A + 1) / (S + 1), 0), ⟨ha ▸ (by assumption), by first | exact hs.symm | (rw [num_vI r_A, num_vI r_S, num_vI r_n]; exact hs.symm)⟩, by rw [ha], trivial⟩

def ref16_In_C : List Value → List Slot → Ctr := fun vs hs => ⟨Int × Int, fun zx => .tuple #[vI zx.1, .int .i64 zx.2], fun _ => hs, fun zx => R4 zx.1 ∧ zx = sIn (num (varg vs 1)) (num (varg vs 2)) (num (varg vs 3))⟩
set_option maxRecDepth 100000 in
set_option maxHeartbeats 1000000 in
theorem ref16_In_vc (A : Int) (S : Int) (n : Int) : codeW Try.prog 69 none 2000 none (bodyOf Try.f51) (.reg [.sem [.nw 0], .sem [.nw 1], .sem [.nw 2], .sem [.nw 3], .sem []] (.reg [.sem [], .sem [.nw 4], .sem [.wr 4, .wr 4, .wr 4, .wr 4]] (.reg [.sem [.rd 2, .rd 2, .rd 2, .rd 2], .sem [.rd 4, .rd 4, .rd 4, .rd 4], .eq (f_eq)] (.cond (.reg [.sem [.rd 4, .rd 4, .rd 4, .rd 4], .sem [.wr 3, .wr 3, .wr 3, .wr 3], .sem []] (.done)) (.caseP (fun s => decide (115792089237316195423570985008687907853269984665640564039457584007913129639936 ≤ num (.agg (scells (s.H 0))) + 1)) (.reg [.sem [.rd 0, .rd 0, .rd 0, .rd 0], .callw [] [5] ref16_one_C, .eq (f_len), .gen [] (one (.bool true)), .sem [], .no, .no, .no, .no, .sem []] (.condT (.reg [.sem [.rd 4, .rd 4, .rd 4, .rd 4], .sem [.wr 3, .wr 3, .wr 3, .wr 3], .sem []] (.done)))) (.reg [.sem [.rd 0, .rd 0, .rd 0, .rd 0], .callw [] [5] ref16_one_C, .eq (f_len), .gen [] (one (.bool false)), .sem [], .sem [.rd 1, .rd 1, .rd 1, .rd 1], .callw [] [6] ref16_one_C, .eq (f_len), .sem [], .sem []] (.cond (.reg [.sem [.rd 4, .rd 4, .rd 4, .rd 4], .sem [.wr 3, .wr 3, .wr 3, .wr 3], .sem []] (.done)) (.reg [.sem [.rd 2, .rd 2, .rd 2, .rd 2], .callw [] [7] ref2_Row_C, .sem [.rd 1, .rd 1, .rd 1, .rd 1], .callw [] [8] ref16_one_C, .callw [7, 8] [7, 8, 9] ref1_Mul_C, .sem [.rd 0, .rd 0, .rd 0, .rd 0], .callw [] [10] ref16_one_C, .callw [9, 10] [9, 10, 11, 12] ref1_Div_C, .sem [], .sem [], .sem [], .sem [], .sem []] (.reg [.sem [], .callw [11] [11] ref2_Int_C, .sem [], .sem [], .sem [], .sem [.nw 13], .sem [.wr 13, .wr 13, .wr 13, .wr 13], .sem []] (.reg [.sem [], .sem []] (.cond (.reg [.sem [.rd 4, .rd 4, .rd 4, .rd 4], .sem [.wr 3, .wr 3, .wr 3, .wr 3], .sem []] (.done)) (.reg [.sem [.rd 13, .rd 13, .rd 13, .rd 13], .sem [.rd 4, .rd 4, .rd 4, .rd 4], .eq (f_eq)] (.cond (.reg [.sem [.rd 4, .rd 4, .rd 4, .rd 4], .sem [.wr 3, .wr 3, .wr 3, .wr 3], .sem []] (.done)) (.caseP (fun s => decide (115792089237316195423570985008687907853269984665640564039457584007913129639936 ≤ num (.agg (scells (s.H 0))) + num (.agg (scells (s.H 2))))) (.reg [.sem [.rd 0, .rd 0, .rd 0, .rd 0], .callw [] [14] ref2_Row_C, .sem [.rd 2, .rd 2, .rd 2, .rd 2], .callw [] [15] ref2_Row_C, .callw [14, 15] [14, 15, 16] ref1_Add_C, .eq (f_len), .gen [] (one (.bool true)), .sem [], .no, .no, .no, .no, .no, .no, .sem []] (.condT (.reg [.sem [.rd 4, .rd 4, .rd 4, .rd 4], .sem [.wr 3, .wr 3, .wr 3, .wr 3], .sem []] (.done)))) (.reg [.sem [.rd 0, .rd 0, .rd 0, .rd 0], .callw [] [14] ref2_Row_C, .sem [.rd 2, .rd 2, .rd 2, .rd 2], .callw [] [15] ref2_Row_C, .callw [14, 15] [14, 15, 16] ref1_Add_C, .eq (f_len), .gen [] (one (.bool false)), .sem [], .sem [.rd 1, .rd 1, .rd 1, .rd 1], .callw [] [17] ref2_Row_C, .sem [], .callw [17, 11] [17, 11, 18] ref1_Add_C, .eq (f_len), .sem [], .sem []] (.cond (.reg [.sem [.rd 4, .rd 4, .rd 4, .rd 4], .sem [.wr 3, .wr 3, .wr 3, .wr 3], .sem []] (.done)) (.reg [.sem [.rd 13, .rd 13, .rd 13, .rd 13], .sem [.wr 3, .wr 3, .wr 3, .wr 3], .sem []] (.done))))))))))))))))))
    (init #[vI A, vI S, vI n] []) (finW Try.prog Try.f51 [.rd 3, .rd 3, .rd 3, .rd 3] [] (X := Int × Int) (fun zx => .tuple #[vI zx.1, .int .i64 zx.2]) (fun zx => []) (fun zx => (R4 zx.1 ∧ zx = sIn (num (vI A)) (num (vI S)) (num (vI n))))) =
    (∀ b1 : Nat, ∀ b2 : Nat, ∀ b3 : Nat, ∀ b4 : Nat, ∀ b5 : Nat, b5 = b5 ∧ (none : Option Nat) = none ∧ b5 = b5 ∧ (none : Option Nat) = none ∧ b5 = b5 ∧ (none : Option Nat) = none ∧ b5 = b5 ∧ (none : Option Nat) = none ∧ b3 = b3 ∧ (none : Option Nat) = none ∧ b3 = b3 ∧ (none : Option Nat) = none ∧ b3 = b3 ∧ (none : Option Nat) = none ∧ b3 = b3 ∧ (none : Option Nat) = none ∧ b5 = b5 ∧ (none : Option Nat) = none ∧ b5 = b5 ∧ (none : Option Nat) = none ∧ b5 = b5 ∧ (none : Option Nat) = none ∧ b5 = b5 ∧ (none : Option Nat) = none ∧ (PureRun Try.prog (xBin .eql 44 (vI n) (vI 0)) (.bool (num (vI n) == num (vI 0)))) ∧ ((num (vI n) == num (vI 0)) = true → b5 = b5 ∧ (none : Option Nat) = none ∧ b5 = b5 ∧ (none : Option Nat) = none ∧ b5 = b5 ∧ (none : Option Nat) = none ∧ b5 = b5 ∧ (none : Option Nat) = none ∧ b4 = b4 ∧ (none : Option Nat) = none ∧ b4 = b4 ∧ (none : Option Nat) = none ∧ b4 = b4 ∧ (none : Option Nat) = none ∧ b4 = b4 ∧ (none : Option Nat) = none ∧ b4 = b4 ∧ (none : Option Nat) = none ∧ b4 = b4 ∧ (none : Option Nat) = none ∧ b4 = b4 ∧ (none : Option Nat) = none ∧ b4 = b4 ∧ (none : Option Nat) = none ∧ ∃ zx : Int × Int, (R4 zx.1 ∧ zx = sIn (num (vI A)) (num (vI S)) (num (vI n))) ∧ Value.tuple #[.agg #[.int .u64 0, .int .u64 0, .int .u64 0, .int .u64 0], .int .i64 3] = .tuple #[vI zx.1, .int .i64 zx.2] ∧ True) ∧ ((num (vI n) == num (vI 0)) = false → ((decide (115792089237316195423570985008687907853269984665640564039457584007913129639936 ≤ num (vI A) + 1)) = true → b1 = b1 ∧ (none : Option Nat) = none ∧ b1 = b1 ∧ (none : Option Nat) = none ∧ b1 = b1 ∧ (none : Option Nat) = none ∧ b1 = b1 ∧ (none : Option Nat) = none ∧ (CallT Try.prog 88 #[vI A] [] Row (fun zx => sv zx) (fun zx => [(ss 3 zx)]) (fun zx => RowOK zx ∧ nv (dg zx) = (num (vI A)) + 1 ∧ Canon (dg zx) ∧ (dg zx).length ≤ 65)) ∧ (∃ zx : Row, (fun zx => RowOK zx ∧ nv (dg zx) = (num (vI A)) + 1 ∧ Canon (dg zx) ∧ (dg zx).length ≤ 65) zx) ∧ ∀ x6 : Row, (RowOK x6 ∧ nv (dg x6) = (num (vI A)) + 1 ∧ Canon (dg x6) ∧ (dg x6).length ≤ 65) → (PureRun Try.prog (do pure (.value (← Builtin.len_ #[41] 3 #[sv x6]))) (.int .i64 ((vlen (sv x6) : Nat) : Int))) ∧ (∃ _ : Unit, True ∧ Value.bool (decide (((vlen (sv x6) : Nat) : Int) > (16 : Int))) = .bool true) ∧ ∀ _ : Unit, (True) → true = !false ∧ true = !false ∧ true = !false ∧ true = !false ∧ (true = true) ∧ b5 = b5 ∧ (none : Option Nat) = none ∧ b5 = b5 ∧ (none : Option Nat) = none ∧ b5 = b5 ∧ (none : Option Nat) = none ∧ b5 = b5 ∧ (none : Option Nat) = none ∧ b4 = b4 ∧ (none : Option Nat) = none ∧ b4 = b4 ∧ (none : Option Nat) = none ∧ b4 = b4 ∧ (none : Option Nat) = none ∧ b4 = b4 ∧ (none : Option Nat) = none ∧ b4 = b4 ∧ (none : Option Nat) = none ∧ b4 = b4 ∧ (none : Option Nat) = none ∧ b4 = b4 ∧ (none : Option Nat) = none ∧ b4 = b4 ∧ (none : Option Nat) = none ∧ ∃ zx : Int × Int, (R4 zx.1 ∧ zx = sIn (num (vI A)) (num (vI S)) (num (vI n))) ∧ Value.tuple #[.agg #[.int .u64 0, .int .u64 0, .int .u64 0, .int .u64 0], .int .i64 2] = .tuple #[vI zx.1, .int .i64 zx.2] ∧ True) ∧ ((decide (115792089237316195423570985008687907853269984665640564039457584007913129639936 ≤ num (vI A) + 1)) = false → b1 = b1 ∧ (none : Option Nat) = none ∧ b1 = b1 ∧ (none : Option Nat) = none ∧ b1 = b1 ∧ (none : Option Nat) = none ∧ b1 = b1 ∧ (none : Option Nat) = none ∧ (CallT Try.prog 88 #[vI A] [] Row (fun zx => sv zx) (fun zx => [(ss 3 zx)]) (fun zx => RowOK zx ∧ nv (dg zx) = (num (vI A)) + 1 ∧ Canon (dg zx) ∧ (dg zx).length ≤ 65)) ∧ (∃ zx : Row, (fun zx => RowOK zx ∧ nv (dg zx) = (num (vI A)) + 1 ∧ Canon (dg zx) ∧ (dg zx).length ≤ 65) zx) ∧ ∀ x7 : Row, (RowOK x7 ∧ nv (dg x7) = (num (vI A)) + 1 ∧ Canon (dg x7) ∧ (dg x7).length ≤ 65) → (PureRun Try.prog (do pure (.value (← Builtin.len_ #[41] 3 #[sv x7]))) (.int .i64 ((vlen (sv x7) : Nat) : Int))) ∧ (∃ _ : Unit, True ∧ Value.bool (decide (((vlen (sv x7) : Nat) : Int) > (16 : Int))) = .bool false) ∧ ∀ _ : Unit, (True) → false = false ∧ b2 = b2 ∧ (none : Option Nat) = none ∧ b2 = b2 ∧ (none : Option Nat) = none ∧ b2 = b2 ∧ (none : Option Nat) = none ∧ b2 = b2 ∧ (none : Option Nat) = none ∧ false = false ∧ (CallT Try.prog 88 #[vI S] [] Row (fun zx => sv zx) (fun zx => [(ss 3 zx)]) (fun zx => RowOK zx ∧ nv (dg zx) = (num (vI S)) + 1 ∧ Canon (dg zx) ∧ (dg zx).length ≤ 65)) ∧ (∃ zx : Row, (fun zx => RowOK zx ∧ nv (dg zx) = (num (vI S)) + 1 ∧ Canon (dg zx) ∧ (dg zx).length ≤ 65) zx) ∧ ∀ x8 : Row, (RowOK x8 ∧ nv (dg x8) = (num (vI S)) + 1 ∧ Canon (dg x8) ∧ (dg x8).length ≤ 65) → false = false ∧ (PureRun Try.prog (do pure (.value (← Builtin.len_ #[41] 3 #[sv x8]))) (.int .i64 ((vlen (sv x8) : Nat) : Int))) ∧ false = false ∧ ((decide (((vlen (sv x8) : Nat) : Int) > (16 : Int))) = true → b5 = b5 ∧ (none : Option Nat) = none ∧ b5 = b5 ∧ (none : Option Nat) = none ∧ b5 = b5 ∧ (none : Option Nat) = none ∧ b5 = b5 ∧ (none : Option Nat) = none ∧ b4 = b4 ∧ (none : Option Nat) = none ∧ b4 = b4 ∧ (none : Option Nat) = none ∧ b4 = b4 ∧ (none : Option Nat) = none ∧ b4 = b4 ∧ (none : Option Nat) = none ∧ b4 = b4 ∧ (none : Option Nat) = none ∧ b4 = b4 ∧ (none : Option Nat) = none ∧ b4 = b4 ∧ (none : Option Nat) = none ∧ b4 = b4 ∧ (none : Option Nat) = none ∧ ∃ zx : Int × Int, (R4 zx.1 ∧ zx = sIn (num (vI A)) (num (vI S)) (num (vI n))) ∧ Value.tuple #[.agg #[.int .u64 0, .int .u64 0, .int .u64 0, .int .u64 0], .int .i64 2] = .tuple #[vI zx.1, .int .i64 zx.2] ∧ True) ∧ ((decide (((vlen (sv x8) : Nat) : Int) > (16 : Int))) = false → b3 = b3 ∧ (none : Option Nat) = none ∧ b3 = b3 ∧ (none : Option Nat) = none ∧ b3 = b3 ∧ (none : Option Nat) = none ∧ b3 = b3 ∧ (none : Option Nat) = none ∧ (CallT Try.prog 20 #[vI n] [] Row (fun zx => sv zx) (fun zx => [(ss 3 zx)]) (fun zx => RowOK zx ∧ nv (dg zx) = (num (vI n)) ∧ Canon (dg zx) ∧ (dg zx).length ≤ 16)) ∧ (∃ zx : Row, (fun zx => RowOK zx ∧ nv (dg zx) = (num (vI n)) ∧ Canon (dg zx) ∧ (dg zx).length ≤ 16) zx) ∧ ∀ x9 : Row, (RowOK x9 ∧ nv (dg x9) = (num (vI n)) ∧ Canon (dg x9) ∧ (dg x9).length ≤ 16) → b2 = b2 ∧ (none : Option Nat) = none ∧ b2 = b2 ∧ (none : Option Nat) = none ∧ b2 = b2 ∧ (none : Option Nat) = none ∧ b2 = b2 ∧ (none : Option Nat) = none ∧ (CallT Try.prog 88 #[vI S] [] Row (fun zx => sv zx) (fun zx => [(ss 3 zx)]) (fun zx => RowOK zx ∧ nv (dg zx) = (num (vI S)) + 1 ∧ Canon (dg zx) ∧ (dg zx).length ≤ 65)) ∧ (∃ zx : Row, (fun zx => RowOK zx ∧ nv (dg zx) = (num (vI S)) + 1 ∧ Canon (dg zx) ∧ (dg zx).length ≤ 65) zx) ∧ ∀ x10 : Row, (RowOK x10 ∧ nv (dg x10) = (num (vI S)) + 1 ∧ Canon (dg x10) ∧ (dg x10).length ≤ 65) → (CallT Try.prog 31 #[sv x9, sv x10] [(ss 3 x9), (ss 3 x10)] Row (fun zx => sv zx) (fun zx => [(ss 3 x9), (ss 3 x10), (ss 3 zx)]) (fun zx => RowOK zx ∧ nv (dg zx) = nv (rdv (sv x9) (ss 3 x9)) * nv (rdv (sv x10) (ss 3 x10)) ∧ Canon (dg zx))) ∧ (∃ zx : Row, (fun zx => RowOK zx ∧ nv (dg zx) = nv (rdv (sv x9) (ss 3 x9)) * nv (rdv (sv x10) (ss 3 x10)) ∧ Canon (dg zx)) zx) ∧ ∀ x11 : Row, (RowOK x11 ∧ nv (dg x11) = nv (rdv (sv x9) (ss 3 x9)) * nv (rdv (sv x10) (ss 3 x10)) ∧ Canon (dg x11)) → b1 = b1 ∧ (none : Option Nat) = none ∧ b1 = b1 ∧ (none : Option Nat) = none ∧ b1 = b1 ∧ (none : Option Nat) = none ∧ b1 = b1 ∧ (none : Option Nat) = none ∧ (CallT Try.prog 88 #[vI A] [] Row (fun zx => sv zx) (fun zx => [(ss 3 zx)]) (fun zx => RowOK zx ∧ nv (dg zx) = (num (vI A)) + 1 ∧ Canon (dg zx) ∧ (dg zx).length ≤ 65)) ∧ (∃ zx : Row, (fun zx => RowOK zx ∧ nv (dg zx) = (num (vI A)) + 1 ∧ Canon (dg zx) ∧ (dg zx).length ≤ 65) zx) ∧ ∀ x12 : Row, (RowOK x12 ∧ nv (dg x12) = (num (vI A)) + 1 ∧ Canon (dg x12) ∧ (dg x12).length ≤ 65) → (CallT Try.prog 33 #[sv x11, sv x12] [(ss 3 x11), (ss 3 x12)] (Row × Row) (fun zx => .tuple #[sv zx.1, sv zx.2]) (fun zx => [(ss 3 x11), (ss 3 x12), (ss 3 zx.1), (ss 3 zx.2)]) (fun zx => RowOK zx.1 ∧ RowOK zx.2 ∧ nv (dg zx.1) = nv (rdv (sv x11) (ss 3 x11)) / nv (rdv (sv x12) (ss 3 x12)) ∧ nv (dg zx.2) = nv (rdv (sv x11) (ss 3 x11)) % nv (rdv (sv x12) (ss 3 x12)) ∧ Canon (dg zx.1) ∧ Canon (dg zx.2))) ∧ (∃ zx : Row × Row, (fun zx => RowOK zx.1 ∧ RowOK zx.2 ∧ nv (dg zx.1) = nv (rdv (sv x11) (ss 3 x11)) / nv (rdv (sv x12) (ss 3 x12)) ∧ nv (dg zx.2) = nv (rdv (sv x11) (ss 3 x11)) % nv (rdv (sv x12) (ss 3 x12)) ∧ Canon (dg zx.1) ∧ Canon (dg zx.2)) zx) ∧ ∀ x13 : Row × Row, (RowOK x13.1 ∧ RowOK x13.2 ∧ nv (dg x13.1) = nv (rdv (sv x11) (ss 3 x11)) / nv (rdv (sv x12) (ss 3 x12)) ∧ nv (dg x13.2) = nv (rdv (sv x11) (ss 3 x11)) % nv (rdv (sv x12) (ss 3 x12)) ∧ Canon (dg x13.1) ∧ Canon (dg x13.2)) → (CallT Try.prog 82 #[sv x13.1] [(ss 3 x13.1)] (Int × Bool) (fun zx => .tuple #[vI zx.1, .bool zx.2]) (fun zx => [(ss 3 x13.1)]) (fun zx => R4 zx.1 ∧ zx = rInt (nv (rdv (sv x13.1) (ss 3 x13.1))))) ∧ (∃ zx : Int × Bool, (fun zx => R4 zx.1 ∧ zx = rInt (nv (rdv (sv x13.1) (ss 3 x13.1)))) zx) ∧ ∀ x14 : Int × Bool, (R4 x14.1 ∧ x14 = rInt (nv (rdv (sv x13.1) (ss 3 x13.1)))) → ∀ b15 : Nat, b15 = b15 ∧ (none : Option Nat) = none ∧ b15 = b15 ∧ (none : Option Nat) = none ∧ b15 = b15 ∧ (none : Option Nat) = none ∧ b15 = b15 ∧ (none : Option Nat) = none ∧ ((!x14.2) = true → b5 = b5 ∧ (none : Option Nat) = none ∧ b5 = b5 ∧ (none : Option Nat) = none ∧ b5 = b5 ∧ (none : Option Nat) = none ∧ b5 = b5 ∧ (none : Option Nat) = none ∧ b4 = b4 ∧ (none : Option Nat) = none ∧ b4 = b4 ∧ (none : Option Nat) = none ∧ b4 = b4 ∧ (none : Option Nat) = none ∧ b4 = b4 ∧ (none : Option Nat) = none ∧ b4 = b4 ∧ (none : Option Nat) = none ∧ b4 = b4 ∧ (none : Option Nat) = none ∧ b4 = b4 ∧ (none : Option Nat) = none ∧ b4 = b4 ∧ (none : Option Nat) = none ∧ ∃ zx : Int × Int, (R4 zx.1 ∧ zx = sIn (num (vI A)) (num (vI S)) (num (vI n))) ∧ Value.tuple #[.agg #[.int .u64 0, .int .u64 0, .int .u64 0, .int .u64 0], .int .i64 2] = .tuple #[vI zx.1, .int .i64 zx.2] ∧ True) ∧ ((!x14.2) = false → b15 = b15 ∧ (none : Option Nat) = none ∧ b15 = b15 ∧ (none : Option Nat) = none ∧ b15 = b15 ∧ (none : Option Nat) = none ∧ b15 = b15 ∧ (none : Option Nat) = none ∧ b5 = b5 ∧ (none : Option Nat) = none ∧ b5 = b5 ∧ (none : Option Nat) = none ∧ b5 = b5 ∧ (none : Option Nat) = none ∧ b5 = b5 ∧ (none : Option Nat) = none ∧ (PureRun Try.prog (xBin .eql 44 (vI x14.1) (vI 0)) (.bool (num (vI x14.1) == num (vI 0)))) ∧ ((num (vI x14.1) == num (vI 0)) = true → b5 = b5 ∧ (none : Option Nat) = none ∧ b5 = b5 ∧ (none : Option Nat) = none ∧ b5 = b5 ∧ (none : Option Nat) = none ∧ b5 = b5 ∧ (none : Option Nat) = none ∧ b4 = b4 ∧ (none : Option Nat) = none ∧ b4 = b4 ∧ (none : Option Nat) = none ∧ b4 = b4 ∧ (none : Option Nat) = none ∧ b4 = b4 ∧ (none : Option Nat) = none ∧ b4 = b4 ∧ (none : Option Nat) = none ∧ b4 = b4 ∧ (none : Option Nat) = none ∧ b4 = b4 ∧ (none : Option Nat) = none ∧ b4 = b4 ∧ (none : Option Nat) = none ∧ ∃ zx : Int × Int, (R4 zx.1 ∧ zx = sIn (num (vI A)) (num (vI S)) (num (vI n))) ∧ Value.tuple #[.agg #[.int .u64 0, .int .u64 0, .int .u64 0, .int .u64 0], .int .i64 3] = .tuple #[vI zx.1, .int .i64 zx.2] ∧ True) ∧ ((num (vI x14.1) == num (vI 0)) = false → ((decide (115792089237316195423570985008687907853269984665640564039457584007913129639936 ≤ num (vI A) + num (vI n))) = true → b1 = b1 ∧ (none : Option Nat) = none ∧ b1 = b1 ∧ (none : Option Nat) = none ∧ b1 = b1 ∧ (none : Option Nat) = none ∧ b1 = b1 ∧ (none : Option Nat) = none ∧ (CallT Try.prog 20 #[vI A] [] Row (fun zx => sv zx) (fun zx => [(ss 3 zx)]) (fun zx => RowOK zx ∧ nv (dg zx) = (num (vI A)) ∧ Canon (dg zx) ∧ (dg zx).length ≤ 16)) ∧ (∃ zx : Row, (fun zx => RowOK zx ∧ nv (dg zx) = (num (vI A)) ∧ Canon (dg zx) ∧ (dg zx).length ≤ 16) zx) ∧ ∀ x16 : Row, (RowOK x16 ∧ nv (dg x16) = (num (vI A)) ∧ Canon (dg x16) ∧ (dg x16).length ≤ 16) → b3 = b3 ∧ (none : Option Nat) = none ∧ b3 = b3 ∧ (none : Option Nat) = none ∧ b3 = b3 ∧ (none : Option Nat) = none ∧ b3 = b3 ∧ (none : Option Nat) = none ∧ (CallT Try.prog 20 #[vI n] [] Row (fun zx => sv zx) (fun zx => [(ss 3 zx)]) (fun zx => RowOK zx ∧ nv (dg zx) = (num (vI n)) ∧ Canon (dg zx) ∧ (dg zx).length ≤ 16)) ∧ (∃ zx : Row, (fun zx => RowOK zx ∧ nv (dg zx) = (num (vI n)) ∧ Canon (dg zx) ∧ (dg zx).length ≤ 16) zx) ∧ ∀ x17 : Row, (RowOK x17 ∧ nv (dg x17) = (num (vI n)) ∧ Canon (dg x17) ∧ (dg x17).length ≤ 16) → (CallT Try.prog 22 #[sv x16, sv x17] [(ss 3 x16), (ss 3 x17)] Row (fun zx => sv zx) (fun zx => [(ss 3 x16), (ss 3 x17), (ss 3 zx)]) (fun zx => RowOK zx ∧ nv (dg zx) = nv (rdv (sv x16) (ss 3 x16)) + nv (rdv (sv x17) (ss 3 x17)) ∧ Canon (dg zx))) ∧ (∃ zx : Row, (fun zx => RowOK zx ∧ nv (dg zx) = nv (rdv (sv x16) (ss 3 x16)) + nv (rdv (sv x17) (ss 3 x17)) ∧ Canon (dg zx)) zx) ∧ ∀ x18 : Row, (RowOK x18 ∧ nv (dg x18) = nv (rdv (sv x16) (ss 3 x16)) + nv (rdv (sv x17) (ss 3 x17)) ∧ Canon (dg x18)) → (PureRun Try.prog (do pure (.value (← Builtin.len_ #[41] 3 #[sv x18]))) (.int .i64 ((vlen (sv x18) : Nat) : Int))) ∧ (∃ _ : Unit, True ∧ Value.bool (decide (((vlen (sv x18) : Nat) : Int) > (16 : Int))) = .bool true) ∧ ∀ _ : Unit, (True) → true = !false ∧ true = !false ∧ true = !false ∧ true = !false ∧ true = !false ∧ true = !false ∧ (true = true) ∧ b5 = b5 ∧ (none : Option Nat) = none ∧ b5 = b5 ∧ (none : Option Nat) = none ∧ b5 = b5 ∧ (none : Option Nat) = none ∧ b5 = b5 ∧ (none : Option Nat) = none ∧ b4 = b4 ∧ (none : Option Nat) = none ∧ b4 = b4 ∧ (none : Option Nat) = none ∧ b4 = b4 ∧ (none : Option Nat) = none ∧ b4 = b4 ∧ (none : Option Nat) = none ∧ b4 = b4 ∧ (none : Option Nat) = none ∧ b4 = b4 ∧ (none : Option Nat) = none ∧ b4 = b4 ∧ (none : Option Nat) = none ∧ b4 = b4 ∧ (none : Option Nat) = none ∧ ∃ zx : Int × Int, (R4 zx.1 ∧ zx = sIn (num (vI A)) (num (vI S)) (num (vI n))) ∧ Value.tuple #[.agg #[.int .u64 0, .int .u64 0, .int .u64 0, .int .u64 0], .int .i64 2] = .tuple #[vI zx.1, .int .i64 zx.2] ∧ True) ∧ ((decide (115792089237316195423570985008687907853269984665640564039457584007913129639936 ≤ num (vI A) + num (vI n))) = false → b1 = b1 ∧ (none : Option Nat) = none ∧ b1 = b1 ∧ (none : Option Nat) = none ∧ b1 = b1 ∧ (none : Option Nat) = none ∧ b1 = b1 ∧ (none : Option Nat) = none ∧ (CallT Try.prog 20 #[vI A] [] Row (fun zx => sv zx) (fun zx => [(ss 3 zx)]) (fun zx => RowOK zx ∧ nv (dg zx) = (num (vI A)) ∧ Canon (dg zx) ∧ (dg zx).length ≤ 16)) ∧ (∃ zx : Row, (fun zx => RowOK zx ∧ nv (dg zx) = (num (vI A)) ∧ Canon (dg zx) ∧ (dg zx).length ≤ 16) zx) ∧ ∀ x19 : Row, (RowOK x19 ∧ nv (dg x19) = (num (vI A)) ∧ Canon (dg x19) ∧ (dg x19).length ≤ 16) → b3 = b3 ∧ (none : Option Nat) = none ∧ b3 = b3 ∧ (none : Option Nat) = none ∧ b3 = b3 ∧ (none : Option Nat) = none ∧ b3 = b3 ∧ (none : Option Nat) = none ∧ (CallT Try.prog 20 #[vI n] [] Row (fun zx => sv zx) (fun zx => [(ss 3 zx)]) (fun zx => RowOK zx ∧ nv (dg zx) = (num (vI n)) ∧ Canon (dg zx) ∧ (dg zx).length ≤ 16)) ∧ (∃ zx : Row, (fun zx => RowOK zx ∧ nv (dg zx) = (num (vI n)) ∧ Canon (dg zx) ∧ (dg zx).length ≤ 16) zx) ∧ ∀ x20 : Row, (RowOK x20 ∧ nv (dg x20) = (num (vI n)) ∧ Canon (dg x20) ∧ (dg x20).length ≤ 16) → (CallT Try.prog 22 #[sv x19, sv x20] [(ss 3 x19), (ss 3 x20)] Row (fun zx => sv zx) (fun zx => [(ss 3 x19), (ss 3 x20), (ss 3 zx)]) (fun zx => RowOK zx ∧ nv (dg zx) = nv (rdv (sv x19) (ss 3 x19)) + nv (rdv (sv x20) (ss 3 x20)) ∧ Canon (dg zx))) ∧ (∃ zx : Row, (fun zx => RowOK zx ∧ nv (dg zx) = nv (rdv (sv x19) (ss 3 x19)) + nv (rdv (sv x20) (ss 3 x20)) ∧ Canon (dg zx)) zx) ∧ ∀ x21 : Row, (RowOK x21 ∧ nv (dg x21) = nv (rdv (sv x19) (ss 3 x19)) + nv (rdv (sv x20) (ss 3 x20)) ∧ Canon (dg x21)) → (PureRun Try.prog (do pure (.value (← Builtin.len_ #[41] 3 #[sv x21]))) (.int .i64 ((vlen (sv x21) : Nat) : Int))) ∧ (∃ _ : Unit, True ∧ Value.bool (decide (((vlen (sv x21) : Nat) : Int) > (16 : Int))) = .bool false) ∧ ∀ _ : Unit, (True) → false = false ∧ b2 = b2 ∧ (none : Option Nat) = none ∧ b2 = b2 ∧ (none : Option Nat) = none ∧ b2 = b2 ∧ (none : Option Nat) = none ∧ b2 = b2 ∧ (none : Option Nat) = none ∧ false = false ∧ (CallT Try.prog 20 #[vI S] [] Row (fun zx => sv zx) (fun zx => [(ss 3 zx)]) (fun zx => RowOK zx ∧ nv (dg zx) = (num (vI S)) ∧ Canon (dg zx) ∧ (dg zx).length ≤ 16)) ∧ (∃ zx : Row, (fun zx => RowOK zx ∧ nv (dg zx) = (num (vI S)) ∧ Canon (dg zx) ∧ (dg zx).length ≤ 16) zx) ∧ ∀ x22 : Row, (RowOK x22 ∧ nv (dg x22) = (num (vI S)) ∧ Canon (dg x22) ∧ (dg x22).length ≤ 16) → false = false ∧ false = false ∧ (CallT Try.prog 22 #[sv x22, sv x13.1] [(ss 3 x22), (ss 3 x13.1)] Row (fun zx => sv zx) (fun zx => [(ss 3 x22), (ss 3 x13.1), (ss 3 zx)]) (fun zx => RowOK zx ∧ nv (dg zx) = nv (rdv (sv x22) (ss 3 x22)) + nv (rdv (sv x13.1) (ss 3 x13.1)) ∧ Canon (dg zx))) ∧ (∃ zx : Row, (fun zx => RowOK zx ∧ nv (dg zx) = nv (rdv (sv x22) (ss 3 x22)) + nv (rdv (sv x13.1) (ss 3 x13.1)) ∧ Canon (dg zx)) zx) ∧ ∀ x23 : Row, (RowOK x23 ∧ nv (dg x23) = nv (rdv (sv x22) (ss 3 x22)) + nv (rdv (sv x13.1) (ss 3 x13.1)) ∧ Canon (dg x23)) → false = false ∧ (PureRun Try.prog (do pure (.value (← Builtin.len_ #[41] 3 #[sv x23]))) (.int .i64 ((vlen (sv x23) : Nat) : Int))) ∧ false = false ∧ ((decide (((vlen (sv x23) : Nat) : Int) > (16 : Int))) = true → b5 = b5 ∧ (none : Option Nat) = none ∧ b5 = b5 ∧ (none : Option Nat) = none ∧ b5 = b5 ∧ (none : Option Nat) = none ∧ b5 = b5 ∧ (none : Option Nat) = none ∧ b4 = b4 ∧ (none : Option Nat) = none ∧ b4 = b4 ∧ (none : Option Nat) = none ∧ b4 = b4 ∧ (none : Option Nat) = none ∧ b4 = b4 ∧ (none : Option Nat) = none ∧ b4 = b4 ∧ (none : Option Nat) = none ∧ b4 = b4 ∧ (none : Option Nat) = none ∧ b4 = b4 ∧ (none : Option Nat) = none ∧ b4 = b4 ∧ (none : Option Nat) = none ∧ ∃ zx : Int × Int, (R4 zx.1 ∧ zx = sIn (num (vI A)) (num (vI S)) (num (vI n))) ∧ Value.tuple #[.agg #[.int .u64 0, .int .u64 0, .int .u64 0, .int .u64 0], .int .i64 2] = .tuple #[vI zx.1, .int .i64 zx.2] ∧ True) ∧ ((decide (((vlen (sv x23) : Nat) : Int) > (16 : Int))) = false → b15 = b15 ∧ (none : Option Nat) = none ∧ b15 = b15 ∧ (none : Option Nat) = none ∧ b15 = b15 ∧ (none : Option Nat) = none ∧ b15 = b15 ∧ (none : Option Nat) = none ∧ b4 = b4 ∧ (none : Option Nat) = none ∧ b4 = b4 ∧ (none : Option Nat) = none ∧ b4 = b4 ∧ (none : Option Nat) = none ∧ b4 = b4 ∧ (none : Option Nat) = none ∧ b4 = b4 ∧ (none : Option Nat) = none ∧ b4 = b4 ∧ (none : Option Nat) = none ∧ b4 = b4 ∧ (none : Option Nat) = none ∧ b4 = b4 ∧ (none : Option Nat) = none ∧ ∃ zx : Int × Int, (R4 zx.1 ∧ zx = sIn (num (vI A)) (num (vI S)) (num (vI n))) ∧ Value.tuple #[vI x14.1, .int .i64 0] = .tuple #[vI zx.1, .int .i64 zx.2] ∧ True)))))))) := by kernel_rfl
set_option maxRecDepth 100000 in
set_option maxHeartbeats 1000000 in
theorem ref16_In (A : Int) (S : Int) (n : Int) (r_A : R4 A) (r_S : R4 S) (r_n : R4 n) : CallT Try.prog 51 #[vI A, vI S, vI n] [] (Int × Int) (fun zx => .tuple #[vI zx.1, .int .i64 zx.2]) (fun zx => []) (fun zx => (R4 zx.1 ∧ zx = sIn (num (vI A)) (num (vI S)) (num (vI n)))) := by
  refine call_of (c := bodyOf Try.f51) (n := 69) (fn := Try.f51) Try.mixed Try.func51 (by kernel_rfl) (by kernel_rfl) (by kernel_rfl) 2000 _ [.rd 3, .rd 3, .rd 3, .rd 3] [] rfl rfl (Eq.mpr (ref16_In_vc A S n) ?_)
  have g0 := r_A.1; have g1 := r_S.1; have g2 := r_n.1
  have qn := quo_nonneg r_n.1 r_S.1 r_A.1
  intro b1
  intro b2
  intro b3
  intro b4
  intro b5
  refine ⟨rfl, rfl, rfl, rfl, rfl, rfl, rfl, rfl, ?_⟩
  refine ⟨rfl, rfl, rfl, rfl, rfl, rfl, rfl, rfl, rfl, rfl, rfl, rfl, rfl, rfl, rfl, rfl, Try.xeq44 n 0, ?_⟩
  refine ⟨fun h1 => ?_, fun h1 => ?_⟩
  · refine ⟨rfl, rfl, rfl, rfl, rfl, rfl, rfl, rfl, rfl, rfl, rfl, rfl, rfl, rfl, rfl, rfl, ?_⟩
    refine ⟨rfl, rfl, rfl, rfl, rfl, rfl, rfl, rfl, ?_⟩
    try simp (disch := first | assumption | exact R4_zero | exact R4_one) only [num_vI, hCmp_pos, hCmp_neg, hCmp_le0, hCmp_ge0, decide_eq_true_eq, decide_eq_false_iff_not, gt_iff_lt, ge_iff_le, beq_iff_eq, beq_eq_false_iff_ne, bne_iff_ne, bne_eq_false_iff_eq, ne_eq] at *
    have hs : sIn A S n = (0, 3) := by
      unfold sIn
      (repeat' split) <;> first | rfl | (exfalso; omega)
    exact ⟨(0, 3), ⟨R4_zero, by first | exact hs.symm | (rw [num_vI r_A, num_vI r_S, num_vI r_n]; exact hs.symm)⟩, by rw [vI_zero], trivial⟩
  · refine ⟨fun h2 => ?_, fun h2 => ?_⟩
    · have kk0 := of_decide_eq_true h2
      simp only [num_vI r_A, num_vI r_S, num_vI r_n] at kk0
      refine ⟨rfl, rfl, rfl, rfl, rfl, rfl, rfl, rfl, ref16_one A (by assumption), wit_one (by first | exact R4_num _ | exact by assumption), ?_⟩
      intro x6
      intro h3
      obtain ⟨rh3_, h3⟩ := h3
      try simp only [num_vI (n := A) (by assumption)] at h3
      have hO := h3
      have okhO : RowOK x6 := by assumption
      have ehO := vlen_dg x6
      have chO := canon_pos okhO.dig hO.2.1
      have lhO := hO.2.2
      have shO := canon16 okhO.dig hO.2.1
      refine ⟨xlen Try.sl41 3 x6, ⟨(), trivial, congrArg Value.bool (by first | exact decide_eq_true (by omega) | exact decide_eq_false (by omega))⟩, ?_⟩
      intro _
      intro _
      refine ⟨rfl, rfl, rfl, rfl, ?_⟩
      refine ⟨rfl, ?_⟩
      refine ⟨rfl, rfl, rfl, rfl, rfl, rfl, rfl, rfl, rfl, rfl, rfl, rfl, rfl, rfl, rfl, rfl, ?_⟩
      refine ⟨rfl, rfl, rfl, rfl, rfl, rfl, rfl, rfl, ?_⟩
      try simp (disch := first | assumption | exact R4_zero | exact R4_one) only [num_vI, hCmp_pos, hCmp_neg, hCmp_le0, hCmp_ge0, decide_eq_true_eq, decide_eq_false_iff_not, gt_iff_lt, ge_iff_le, beq_iff_eq, beq_eq_false_iff_ne, bne_iff_ne, bne_eq_false_iff_eq, ne_eq] at *
      have hs : sIn A S n = (0, 2) := by
        unfold sIn
        (repeat' split) <;> first | rfl | (exfalso; omega)
      exact ⟨(0, 2), ⟨R4_zero, by first | exact hs.symm | (rw [num_vI r_A, num_vI r_S, num_vI r_n]; exact hs.symm)⟩, by rw [vI_zero], trivial⟩
    · have kk0 := of_decide_eq_false h2
      simp only [num_vI r_A, num_vI r_S, num_vI r_n] at kk0
      refine ⟨rfl, rfl, rfl, rfl, rfl, rfl, rfl, rfl, ref16_one A (by assumption), wit_one (by first | exact R4_num _ | exact by assumption), ?_⟩
      intro x7
      intro h4
      obtain ⟨rh4_, h4⟩ := h4
      try simp only [num_vI (n := A) (by assumption)] at h4
      have hO := h4
      have okhO : RowOK x7 := by assumption
      have ehO := vlen_dg x7
      have chO := canon_pos okhO.dig hO.2.1
      have lhO := hO.2.2
      have shO := canon16 okhO.dig hO.2.1
      refine ⟨xlen Try.sl41 3 x7, ⟨(), trivial, congrArg Value.bool (by first | exact decide_eq_true (by omega) | exact decide_eq_false (by omega))⟩, ?_⟩
      intro _
      intro _
      refine ⟨rfl, rfl, rfl, rfl, rfl, rfl, rfl, rfl, rfl, rfl, ref16_one S (by assumption), wit_one (by first | exact R4_num _ | exact by assumption), ?_⟩
      intro x8
      intro h5
      obtain ⟨rh5_, h5⟩ := h5
      try simp only [num_vI (n := S) (by assumption)] at h5
      have hP := h5
      have okhP : RowOK x8 := by assumption
      have ehP := vlen_dg x8
      have chP := canon_pos okhP.dig hP.2.1
      have lhP := hP.2.2
      have shP := canon16 okhP.dig hP.2.1
      refine ⟨rfl, xlen Try.sl41 3 x8, rfl, ?_⟩
      refine ⟨fun h6 => ?_, fun h6 => ?_⟩
      · refine ⟨rfl, rfl, rfl, rfl, rfl, rfl, rfl, rfl, rfl, rfl, rfl, rfl, rfl, rfl, rfl, rfl, ?_⟩
        refine ⟨rfl, rfl, rfl, rfl, rfl, rfl, rfl, rfl, ?_⟩
        try simp (disch := first | assumption | exact R4_zero | exact R4_one) only [num_vI, hCmp_pos, hCmp_neg, hCmp_le0, hCmp_ge0, decide_eq_true_eq, decide_eq_false_iff_not, gt_iff_lt, ge_iff_le, beq_iff_eq, beq_eq_false_iff_ne, bne_iff_ne, bne_eq_false_iff_eq, ne_eq] at *
        have hs : sIn A S n = (0, 2) := by
          unfold sIn
          (repeat' split) <;> first | rfl | (exfalso; omega)
        exact ⟨(0, 2), ⟨R4_zero, by first | exact hs.symm | (rw [num_vI r_A, num_vI r_S, num_vI r_n]; exact hs.symm)⟩, by rw [vI_zero], trivial⟩
      · have hA1 : A + 1 < 115792089237316195423570985008687907853269984665640564039457584007913129639936 := by (try simp (disch := first | assumption | exact R4_zero | exact R4_one) only [num_vI, hCmp_pos, hCmp_neg, hCmp_le0, hCmp_ge0, decide_eq_true_eq, decide_eq_false_iff_not, gt_iff_lt, ge_iff_le, beq_iff_eq, beq_eq_false_iff_ne, bne_iff_ne, bne_eq_false_iff_eq, ne_eq] at *); omega
        have hS1 : S + 1 < 115792089237316195423570985008687907853269984665640564039457584007913129639936 := by (try simp (disch := first | assumption | exact R4_zero | exact R4_one) only [num_vI, hCmp_pos, hCmp_neg, hCmp_le0, hCmp_ge0, decide_eq_true_eq, decide_eq_false_iff_not, gt_iff_lt, ge_iff_le, beq_iff_eq, beq_eq_false_iff_ne, bne_iff_ne, bne_eq_false_iff_eq, ne_eq] at *); omega
        have R1 : R4 (S + 1) := ⟨by omega, hS1⟩
        refine ⟨rfl, rfl, rfl, rfl, rfl, rfl, rfl, rfl, ref2_Row n (by assumption), wit_num (by first | exact R4_num _ | exact by assumption), ?_⟩
        intro x9
        intro h7
        obtain ⟨rh7_, h7⟩ := h7
        try simp only [num_vI (n := n) (by assumption)] at h7
        have hT := h7
        have okhT : RowOK x9 := by assumption
        have ehT := vlen_dg x9
        have chT := canon_pos okhT.dig hT.2.1
        have lhT := hT.2.2
        refine ⟨rfl, rfl, rfl, rfl, rfl, rfl, rfl, rfl, ref16_one S (by assumption), wit_one (by first | exact R4_num _ | exact by assumption), ?_⟩
        intro x10
        intro h8
        obtain ⟨rh8_, h8⟩ := h8
        try simp only [num_vI (n := S) (by assumption)] at h8
        have hU := h8
        have okhU : RowOK x10 := by assumption
        have ehU := vlen_dg x10
        have chU := canon_pos okhU.dig hU.2.1
        have lhU := hU.2.2
        have shU := canon16 okhU.dig hU.2.1
        refine ⟨ref1_Mul x9 x10 (by first | assumption | exact rowOK_lit _ _ (by decide)) (by first | assumption | exact rowOK_lit _ _ (by decide)) (by omega) (by omega), wit_row (by rw [rdv_eq x9, rdv_eq x10]; exact Int.mul_nonneg (nv_nonneg (RowOK.dig (by first | assumption | exact rowOK_lit _ _ (by decide)))) (nv_nonneg (RowOK.dig (by first | assumption | exact rowOK_lit _ _ (by decide))))), ?_⟩
        intro x11
        intro h9
        simp only [rdv_eq] at h9
        obtain ⟨rh9_, h9⟩ := h9
        have hM := h9
        have lM : (dg x11).length ≤ 64 := len40 (RowOK.dig (by assumption)) hM.2 (by rw [hM.1, hT.1, hU.1]) (wide_num (prod_R r_n R1))
        refine ⟨rfl, rfl, rfl, rfl, rfl, rfl, rfl, rfl, ref16_one A (by assumption), wit_one (by first | exact R4_num _ | exact by assumption), ?_⟩
        intro x12
        intro h10
        obtain ⟨rh10_, h10⟩ := h10
        try simp only [num_vI (n := A) (by assumption)] at h10
        have hV := h10
        have okhV : RowOK x12 := by assumption
        have ehV := vlen_dg x12
        have chV := canon_pos okhV.dig hV.2.1
        have lhV := hV.2.2
        have shV := canon16 okhV.dig hV.2.1
        refine ⟨ref1_Div x11 x12 (by first | assumption | exact rowOK_lit _ _ (by decide)) (by first | assumption | exact rowOK_lit _ _ (by decide)) (by omega) (by omega) (by rw [hV.1]; omega), wit_rdiv (by rw [rdv_eq x11]; exact nv_nonneg (RowOK.dig (by first | assumption | exact rowOK_lit _ _ (by decide)))) (by rw [rdv_eq x12]; omega), ?_⟩
        intro x13
        intro h11
        simp only [rdv_eq] at h11
        obtain ⟨rh11_1, h11⟩ := h11
        obtain ⟨rh11_2, h11⟩ := h11
        have hD := h11
        rw [hM.1, hT.1, hU.1, hV.1] at hD
        have okq : RowOK x13.1 := by assumption
        have l40 : (dg x13.1).length ≤ 64 := len40 okq.dig hD.2.2.1 hD.1 (wide_num (quo_R8 (prod_R r_n R1) (by omega)))
        refine ⟨ref2_Int x13.1 (by first | assumption | exact rowOK_lit _ _ (by decide)) (by omega), ⟨_, rInt_R (by rw [rdv_eq x13.1]; exact nv_nonneg (RowOK.dig (by first | assumption | exact rowOK_lit _ _ (by decide)))), rfl⟩, ?_⟩
        intro x14
        intro h12
        simp only [rdv_eq] at h12
        obtain ⟨rh12_1, h12⟩ := h12
        have hI := h12
        rw [hD.1] at hI
        intro b15
        refine ⟨rfl, rfl, rfl, rfl, rfl, rfl, rfl, rfl, ?_⟩
        refine ⟨fun h13 => ?_, fun h13 => ?_⟩
        · refine ⟨rfl, rfl, rfl, rfl, rfl, rfl, rfl, rfl, rfl, rfl, rfl, rfl, rfl, rfl, rfl, rfl, ?_⟩
          refine ⟨rfl, rfl, rfl, rfl, rfl, rfl, rfl, rfl, ?_⟩
          have cI := (rInt_cases hI).2 (not_t h13)
          try simp (disch := first | assumption | exact R4_zero | exact R4_one) only [num_vI, hCmp_pos, hCmp_neg, hCmp_le0, hCmp_ge0, decide_eq_true_eq, decide_eq_false_iff_not, gt_iff_lt, ge_iff_le, beq_iff_eq, beq_eq_false_iff_ne, bne_iff_ne, bne_eq_false_iff_eq, ne_eq] at *
          have hs : sIn A S n = (0, 2) := by
            unfold sIn
            (repeat' split) <;> first | rfl | (exfalso; omega)
          exact ⟨(0, 2), ⟨R4_zero, by first | exact hs.symm | (rw [num_vI r_A, num_vI r_S, num_vI r_n]; exact hs.symm)⟩, by rw [vI_zero], trivial⟩
        · refine ⟨rfl, rfl, rfl, rfl, rfl, rfl, rfl, rfl, rfl, rfl, rfl, rfl, rfl, rfl, rfl, rfl, Try.xeq44 x14.1 0, ?_⟩
          refine ⟨fun h14 => ?_, fun h14 => ?_⟩
          · refine ⟨rfl, rfl, rfl, rfl, rfl, rfl, rfl, rfl, rfl, rfl, rfl, rfl, rfl, rfl, rfl, rfl, ?_⟩
            refine ⟨rfl, rfl, rfl, rfl, rfl, rfl, rfl, rfl, ?_⟩
            have cI := (rInt_cases hI).1 (not_f h13)
            try simp (disch := first | assumption | exact R4_zero | exact R4_one) only [num_vI, hCmp_pos, hCmp_neg, hCmp_le0, hCmp_ge0, decide_eq_true_eq, decide_eq_false_iff_not, gt_iff_lt, ge_iff_le, beq_iff_eq, beq_eq_false_iff_ne, bne_iff_ne, bne_eq_false_iff_eq, ne_eq] at *
            have hs : sIn A S n = (0, 3) := by
              unfold sIn
              (repeat' split) <;> first | rfl | (exfalso; omega)
            exact ⟨(0, 3), ⟨R4_zero, by first | exact hs.symm | (rw [num_vI r_A, num_vI r_S, num_vI r_n]; exact hs.symm)⟩, by rw [vI_zero], trivial⟩
          · refine ⟨fun h15 => ?_, fun h15 => ?_⟩
            · have kk0 := of_decide_eq_true h15
              simp only [num_vI r_A, num_vI r_S, num_vI r_n] at kk0
              refine ⟨rfl, rfl, rfl, rfl, rfl, rfl, rfl, rfl, ref2_Row A (by assumption), wit_num (by first | exact R4_num _ | exact by assumption), ?_⟩
              intro x16
              intro h16
              obtain ⟨rh16_, h16⟩ := h16
              try simp only [num_vI (n := A) (by assumption)] at h16
              have hE := h16
              have okhE : RowOK x16 := by assumption
              have ehE := vlen_dg x16
              have chE := canon_pos okhE.dig hE.2.1
              have lhE := hE.2.2
              refine ⟨rfl, rfl, rfl, rfl, rfl, rfl, rfl, rfl, ref2_Row n (by assumption), wit_num (by first | exact R4_num _ | exact by assumption), ?_⟩
              intro x17
              intro h17
              obtain ⟨rh17_, h17⟩ := h17
              try simp only [num_vI (n := n) (by assumption)] at h17
              have hF := h17
              have okhF : RowOK x17 := by assumption
              have ehF := vlen_dg x17
              have chF := canon_pos okhF.dig hF.2.1
              have lhF := hF.2.2
              refine ⟨ref1_Add x16 x17 (by first | assumption | exact rowOK_lit _ _ (by decide)) (by first | assumption | exact rowOK_lit _ _ (by decide)) (by omega) (by omega), wit_row (by rw [rdv_eq x16, rdv_eq x17]; exact Int.add_nonneg (nv_nonneg (RowOK.dig (by first | assumption | exact rowOK_lit _ _ (by decide)))) (nv_nonneg (RowOK.dig (by first | assumption | exact rowOK_lit _ _ (by decide))))), ?_⟩
              intro x18
              intro h18
              simp only [rdv_eq] at h18
              obtain ⟨rh18_, h18⟩ := h18
              have hG := h18
              have okhG : RowOK x18 := by assumption
              have ehG := vlen_dg x18
              have shG := canon16 okhG.dig hG.2
              have nG : nv (dg x18) = A + n := by rw [hG.1, hE.1, hF.1]
              refine ⟨xlen Try.sl41 3 x18, ⟨(), trivial, congrArg Value.bool (by first | exact decide_eq_true (by omega) | exact decide_eq_false (by omega))⟩, ?_⟩
              intro _
              intro _
              refine ⟨rfl, rfl, rfl, rfl, rfl, rfl, ?_⟩
              refine ⟨rfl, ?_⟩
              refine ⟨rfl, rfl, rfl, rfl, rfl, rfl, rfl, rfl, rfl, rfl, rfl, rfl, rfl, rfl, rfl, rfl, ?_⟩
              refine ⟨rfl, rfl, rfl, rfl, rfl, rfl, rfl, rfl, ?_⟩
              have cI := (rInt_cases hI).1 (not_f h13)
              try simp (disch := first | assumption | exact R4_zero | exact R4_one) only [num_vI, hCmp_pos, hCmp_neg, hCmp_le0, hCmp_ge0, decide_eq_true_eq, decide_eq_false_iff_not, gt_iff_lt, ge_iff_le, beq_iff_eq, beq_eq_false_iff_ne, bne_iff_ne, bne_eq_false_iff_eq, ne_eq] at *
              have hs : sIn A S n = (0, 2) := by
                unfold sIn
                (repeat' split) <;> first | rfl | (exfalso; omega)
              exact ⟨(0, 2), ⟨R4_zero, by first | exact hs.symm | (rw [num_vI r_A, num_vI r_S, num_vI r_n]; exact hs.symm)⟩, by rw [vI_zero], trivial⟩
            · have kk0 := of_decide_eq_false h15
              simp only [num_vI r_A, num_vI r_S, num_vI r_n] at kk0
              refine ⟨rfl, rfl, rfl, rfl, rfl, rfl, rfl, rfl, ref2_Row A (by assumption), wit_num (by first | exact R4_num _ | exact by assumption), ?_⟩
              intro x19
              intro h19
              obtain ⟨rh19_, h19⟩ := h19
              try simp only [num_vI (n := A) (by assumption)] at h19
              have hE := h19
              have okhE : RowOK x19 := by assumption
              have ehE := vlen_dg x19
              have chE := canon_pos okhE.dig hE.2.1
              have lhE := hE.2.2
              refine ⟨rfl, rfl, rfl, rfl, rfl, rfl, rfl, rfl, ref2_Row n (by assumption), wit_num (by first | exact R4_num _ | exact by assumption), ?_⟩
              intro x20
              intro h20
              obtain ⟨rh20_, h20⟩ := h20
              try simp only [num_vI (n := n) (by assumption)] at h20
              have hF := h20
              have okhF : RowOK x20 := by assumption
              have ehF := vlen_dg x20
              have chF := canon_pos okhF.dig hF.2.1
              have lhF := hF.2.2
              refine ⟨ref1_Add x19 x20 (by first | assumption | exact rowOK_lit _ _ (by decide)) (by first | assumption | exact rowOK_lit _ _ (by decide)) (by omega) (by omega), wit_row (by rw [rdv_eq x19, rdv_eq x20]; exact Int.add_nonneg (nv_nonneg (RowOK.dig (by first | assumption | exact rowOK_lit _ _ (by decide)))) (nv_nonneg (RowOK.dig (by first | assumption | exact rowOK_lit _ _ (by decide))))), ?_⟩
              intro x21
              intro h21
              simp only [rdv_eq] at h21
              obtain ⟨rh21_, h21⟩ := h21
              have hG := h21
              have okhG : RowOK x21 := by assumption
              have ehG := vlen_dg x21
              have shG := canon16 okhG.dig hG.2
              have nG : nv (dg x21) = A + n := by rw [hG.1, hE.1, hF.1]
              refine ⟨xlen Try.sl41 3 x21, ⟨(), trivial, congrArg Value.bool (by first | exact decide_eq_true (by omega) | exact decide_eq_false (by omega))⟩, ?_⟩
              intro _
              intro _
              refine ⟨rfl, rfl, rfl, rfl, rfl, rfl, rfl, rfl, rfl, rfl, ref2_Row S (by assumption), wit_num (by first | exact R4_num _ | exact by assumption), ?_⟩
              intro x22
              intro h22
              obtain ⟨rh22_, h22⟩ := h22
              try simp only [num_vI (n := S) (by assumption)] at h22
              have hH := h22
              have okhH : RowOK x22 := by assumption
              have ehH := vlen_dg x22
              have chH := canon_pos okhH.dig hH.2.1
              have lhH := hH.2.2
              refine ⟨rfl, rfl, ref1_Add x22 x13.1 (by first | assumption | exact rowOK_lit _ _ (by decide)) (by first | assumption | exact rowOK_lit _ _ (by decide)) (by omega) (by omega), wit_row (by rw [rdv_eq x22, rdv_eq x13.1]; exact Int.add_nonneg (nv_nonneg (RowOK.dig (by first | assumption | exact rowOK_lit _ _ (by decide)))) (nv_nonneg (RowOK.dig (by first | assumption | exact rowOK_lit _ _ (by decide))))), ?_⟩
              intro x23
              intro h23
              simp only [rdv_eq] at h23
              obtain ⟨rh23_, h23⟩ := h23
              have hJ := h23
              have okhJ : RowOK x23 := by assumption
              have ehJ := vlen_dg x23
              have shJ := canon16 okhJ.dig hJ.2
              have nJ : nv (dg x23) = S + n * (S + 1) / (A + 1) := by rw [hJ.1, hH.1, hD.1]
              refine ⟨rfl, xlen Try.sl41 3 x23, rfl, ?_⟩
              refine ⟨fun h24 => ?_, fun h24 => ?_⟩
              · refine ⟨rfl, rfl, rfl, rfl, rfl, rfl, rfl, rfl, rfl, rfl, rfl, rfl, rfl, rfl, rfl, rfl, ?_⟩
                refine ⟨rfl, rfl, rfl, rfl, rfl, rfl, rfl, rfl, ?_⟩
                have cI := (rInt_cases hI).1 (not_f h13)
                try simp (disch := first | assumption | exact R4_zero | exact R4_one) only [num_vI, hCmp_pos, hCmp_neg, hCmp_le0, hCmp_ge0, decide_eq_true_eq, decide_eq_false_iff_not, gt_iff_lt, ge_iff_le, beq_iff_eq, beq_eq_false_iff_ne, bne_iff_ne, bne_eq_false_iff_eq, ne_eq] at *
                have hs : sIn A S n = (0, 2) := by
                  unfold sIn
                  (repeat' split) <;> first | rfl | (exfalso; omega)
                exact ⟨(0, 2), ⟨R4_zero, by first | exact hs.symm | (rw [num_vI r_A, num_vI r_S, num_vI r_n]; exact hs.symm)⟩, by rw [vI_zero], trivial⟩
              · refine ⟨rfl, rfl, rfl, rfl, rfl, rfl, rfl, rfl, rfl, rfl, rfl, rfl, rfl, rfl, rfl, rfl, ?_⟩
                refine ⟨rfl, rfl, rfl, rfl, rfl, rfl, rfl, rfl, ?_⟩
                have cI := (rInt_cases hI).1 (not_f h13)
                try simp (disch := first | assumption | exact R4_zero | exact R4_one) only [num_vI, hCmp_pos, hCmp_neg, hCmp_le0, hCmp_ge0, decide_eq_true_eq, decide_eq_false_iff_not, gt_iff_lt, ge_iff_le, beq_iff_eq, beq_eq_false_iff_ne, bne_iff_ne, bne_eq_false_iff_eq, ne_eq] at *
                have ha : x14.1 = n * (S + 1) / (A + 1) := by omega
                have hs : sIn A S n = (n * (S + 1) / (A + 1), 0) := by
                  unfold sIn
                  (repeat' split) <;> first | rfl | (exfalso; omega)
                exact ⟨(n * (S + 1) / (A + 1), 0), ⟨ha ▸ (by assumption), by first | exact hs.symm | (rw [num_vI r_A, num_vI r_S, num_vI r_n]; exact hs.symm)⟩, by rw [ha], trivial⟩

def ref16_Out_C : List Value → List Slot → Ctr := fun vs hs => ⟨Int × Int, fun zx => .tuple #[vI zx.1, .int .i64 zx.2], fun _ => hs, fun zx => R4 zx.1 ∧ zx = sOut (num (varg vs 1)) (num (varg vs 2)) (num (varg vs 3))⟩
set_option maxRecDepth 100000 in
set_option maxHeartbeats 1000000 in
theorem ref16_Out_vc (A : Int) (S : Int) (n : Int) : codeW Try.prog 62 none 2000 none (bodyOf Try.f53) (.reg [.sem [.nw 0], .sem [.nw 1], .sem [.nw 2], .sem [.nw 3], .sem []] (.reg [.sem [], .sem [.nw 4], .sem [.wr 4, .wr 4, .wr 4, .wr 4]] (.reg [.sem [.rd 2, .rd 2, .rd 2, .rd 2], .sem [.rd 4, .rd 4, .rd 4, .rd 4], .eq (f_eq)] (.cond (.reg [.sem [.rd 4, .rd 4, .rd 4, .rd 4], .sem [.wr 3, .wr 3, .wr 3, .wr 3], .sem []] (.done)) (.reg [.sem [.rd 2, .rd 2, .rd 2, .rd 2], .callw [] [5] ref2_Row_C, .sem [.rd 1, .rd 1, .rd 1, .rd 1], .callw [] [6] ref2_Row_C, .callr [5, 6] ref1_Cmp_C, .sem []] (.cond (.reg [.sem [.rd 4, .rd 4, .rd 4, .rd 4], .sem [.wr 3, .wr 3, .wr 3, .wr 3], .sem []] (.done)) (.caseP (fun s => decide (115792089237316195423570985008687907853269984665640564039457584007913129639936 ≤ num (.agg (scells (s.H 0))) + 1)) (.reg [.sem [.rd 0, .rd 0, .rd 0, .rd 0], .callw [] [7] ref16_one_C, .eq (f_len), .gen [] (one (.bool true)), .sem [], .no, .no, .no, .no, .sem []] (.condT (.reg [.sem [.rd 4, .rd 4, .rd 4, .rd 4], .sem [.wr 3, .wr 3, .wr 3, .wr 3], .sem []] (.done)))) (.reg [.sem [.rd 0, .rd 0, .rd 0, .rd 0], .callw [] [7] ref16_one_C, .eq (f_len), .gen [] (one (.bool false)), .sem [], .sem [.rd 1, .rd 1, .rd 1, .rd 1], .callw [] [8] ref16_one_C, .eq (f_len), .sem [], .sem []] (.cond (.reg [.sem [.rd 4, .rd 4, .rd 4, .rd 4], .sem [.wr 3, .wr 3, .wr 3, .wr 3], .sem []] (.done)) (.reg [.sem [.rd 2, .rd 2, .rd 2, .rd 2], .callw [] [9] ref2_Row_C, .sem [.rd 0, .rd 0, .rd 0, .rd 0], .callw [] [10] ref16_one_C, .callw [9, 10] [9, 10, 11] ref1_Mul_C, .sem [.rd 1, .rd 1, .rd 1, .rd 1], .callw [] [12] ref16_one_C, .callw [11, 12] [11, 12, 13, 14] ref1_Div_C, .sem [], .sem [], .sem [], .sem [], .sem []] (.reg [.sem [], .callw [13] [13] ref2_Int_C, .sem [], .sem [], .sem [], .sem [.nw 15], .sem [.wr 15, .wr 15, .wr 15, .wr 15], .sem []] (.reg [.sem [], .sem []] (.cond (.reg [.sem [.rd 4, .rd 4, .rd 4, .rd 4], .sem [.wr 3, .wr 3, .wr 3, .wr 3], .sem []] (.done)) (.reg [.sem [], .sem [.rd 0, .rd 0, .rd 0, .rd 0], .callw [] [16] ref2_Row_C, .callr [13, 16] ref1_Cmp_C, .sem []] (.cond (.reg [.sem [.rd 4, .rd 4, .rd 4, .rd 4], .sem [.wr 3, .wr 3, .wr 3, .wr 3], .sem []] (.done)) (.reg [.sem [.rd 15, .rd 15, .rd 15, .rd 15], .sem [.wr 3, .wr 3, .wr 3, .wr 3], .sem []] (.done)))))))))))))))))
    (init #[vI A, vI S, vI n] []) (finW Try.prog Try.f53 [.rd 3, .rd 3, .rd 3, .rd 3] [] (X := Int × Int) (fun zx => .tuple #[vI zx.1, .int .i64 zx.2]) (fun zx => []) (fun zx => (R4 zx.1 ∧ zx = sOut (num (vI A)) (num (vI S)) (num (vI n))))) =
    (∀ b1 : Nat, ∀ b2 : Nat, ∀ b3 : Nat, ∀ b4 : Nat, ∀ b5 : Nat, b5 = b5 ∧ (none : Option Nat) = none ∧ b5 = b5 ∧ (none : Option Nat) = none ∧ b5 = b5 ∧ (none : Option Nat) = none ∧ b5 = b5 ∧ (none : Option Nat) = none ∧ b3 = b3 ∧ (none : Option Nat) = none ∧ b3 = b3 ∧ (none : Option Nat) = none ∧ b3 = b3 ∧ (none : Option Nat) = none ∧ b3 = b3 ∧ (none : Option Nat) = none ∧ b5 = b5 ∧ (none : Option Nat) = none ∧ b5 = b5 ∧ (none : Option Nat) = none ∧ b5 = b5 ∧ (none : Option Nat) = none ∧ b5 = b5 ∧ (none : Option Nat) = none ∧ (PureRun Try.prog (xBin .eql 44 (vI n) (vI 0)) (.bool (num (vI n) == num (vI 0)))) ∧ ((num (vI n) == num (vI 0)) = true → b5 = b5 ∧ (none : Option Nat) = none ∧ b5 = b5 ∧ (none : Option Nat) = none ∧ b5 = b5 ∧ (none : Option Nat) = none ∧ b5 = b5 ∧ (none : Option Nat) = none ∧ b4 = b4 ∧ (none : Option Nat) = none ∧ b4 = b4 ∧ (none : Option Nat) = none ∧ b4 = b4 ∧ (none : Option Nat) = none ∧ b4 = b4 ∧ (none : Option Nat) = none ∧ b4 = b4 ∧ (none : Option Nat) = none ∧ b4 = b4 ∧ (none : Option Nat) = none ∧ b4 = b4 ∧ (none : Option Nat) = none ∧ b4 = b4 ∧ (none : Option Nat) = none ∧ ∃ zx : Int × Int, (R4 zx.1 ∧ zx = sOut (num (vI A)) (num (vI S)) (num (vI n))) ∧ Value.tuple #[.agg #[.int .u64 0, .int .u64 0, .int .u64 0, .int .u64 0], .int .i64 3] = .tuple #[vI zx.1, .int .i64 zx.2] ∧ True) ∧ ((num (vI n) == num (vI 0)) = false → b3 = b3 ∧ (none : Option Nat) = none ∧ b3 = b3 ∧ (none : Option Nat) = none ∧ b3 = b3 ∧ (none : Option Nat) = none ∧ b3 = b3 ∧ (none : Option Nat) = none ∧ (CallT Try.prog 20 #[vI n] [] Row (fun zx => sv zx) (fun zx => [(ss 3 zx)]) (fun zx => RowOK zx ∧ nv (dg zx) = (num (vI n)) ∧ Canon (dg zx) ∧ (dg zx).length ≤ 16)) ∧ (∃ zx : Row, (fun zx => RowOK zx ∧ nv (dg zx) = (num (vI n)) ∧ Canon (dg zx) ∧ (dg zx).length ≤ 16) zx) ∧ ∀ x6 : Row, (RowOK x6 ∧ nv (dg x6) = (num (vI n)) ∧ Canon (dg x6) ∧ (dg x6).length ≤ 16) → b2 = b2 ∧ (none : Option Nat) = none ∧ b2 = b2 ∧ (none : Option Nat) = none ∧ b2 = b2 ∧ (none : Option Nat) = none ∧ b2 = b2 ∧ (none : Option Nat) = none ∧ (CallT Try.prog 20 #[vI S] [] Row (fun zx => sv zx) (fun zx => [(ss 3 zx)]) (fun zx => RowOK zx ∧ nv (dg zx) = (num (vI S)) ∧ Canon (dg zx) ∧ (dg zx).length ≤ 16)) ∧ (∃ zx : Row, (fun zx => RowOK zx ∧ nv (dg zx) = (num (vI S)) ∧ Canon (dg zx) ∧ (dg zx).length ≤ 16) zx) ∧ ∀ x7 : Row, (RowOK x7 ∧ nv (dg x7) = (num (vI S)) ∧ Canon (dg x7) ∧ (dg x7).length ≤ 16) → (CallT Try.prog 27 #[sv x6, sv x7] [(ss 3 x6), (ss 3 x7)] Int (fun zx => .int .i64 zx) (fun _ => [(ss 3 x6), (ss 3 x7)]) (fun zx => zx = hCmp (nv (rdv (sv x6) (ss 3 x6))) (nv (rdv (sv x7) (ss 3 x7))))) ∧ (∃ zx : Int, (fun zx => zx = hCmp (nv (rdv (sv x6) (ss 3 x6))) (nv (rdv (sv x7) (ss 3 x7)))) zx) ∧ ∀ x8 : Int, (x8 = hCmp (nv (rdv (sv x6) (ss 3 x6))) (nv (rdv (sv x7) (ss 3 x7)))) → ((decide (x8 > (0 : Int))) = true → b5 = b5 ∧ (none : Option Nat) = none ∧ b5 = b5 ∧ (none : Option Nat) = none ∧ b5 = b5 ∧ (none : Option Nat) = none ∧ b5 = b5 ∧ (none : Option Nat) = none ∧ b4 = b4 ∧ (none : Option Nat) = none ∧ b4 = b4 ∧ (none : Option Nat) = none ∧ b4 = b4 ∧ (none : Option Nat) = none ∧ b4 = b4 ∧ (none : Option Nat) = none ∧ b4 = b4 ∧ (none : Option Nat) = none ∧ b4 = b4 ∧ (none : Option Nat) = none ∧ b4 = b4 ∧ (none : Option Nat) = none ∧ b4 = b4 ∧ (none : Option Nat) = none ∧ ∃ zx : Int × Int, (R4 zx.1 ∧ zx = sOut (num (vI A)) (num (vI S)) (num (vI n))) ∧ Value.tuple #[.agg #[.int .u64 0, .int .u64 0, .int .u64 0, .int .u64 0], .int .i64 8] = .tuple #[vI zx.1, .int .i64 zx.2] ∧ True) ∧ ((decide (x8 > (0 : Int))) = false → ((decide (115792089237316195423570985008687907853269984665640564039457584007913129639936 ≤ num (vI A) + 1)) = true → b1 = b1 ∧ (none : Option Nat) = none ∧ b1 = b1 ∧ (none : Option Nat) = none ∧ b1 = b1 ∧ (none : Option Nat) = none ∧ b1 = b1 ∧ (none : Option Nat) = none ∧ (CallT Try.prog 88 #[vI A] [] Row (fun zx => sv zx) (fun zx => [(ss 3 zx)]) (fun zx => RowOK zx ∧ nv (dg zx) = (num (vI A)) + 1 ∧ Canon (dg zx) ∧ (dg zx).length ≤ 65)) ∧ (∃ zx : Row, (fun zx => RowOK zx ∧ nv (dg zx) = (num (vI A)) + 1 ∧ Canon (dg zx) ∧ (dg zx).length ≤ 65) zx) ∧ ∀ x9 : Row, (RowOK x9 ∧ nv (dg x9) = (num (vI A)) + 1 ∧ Canon (dg x9) ∧ (dg x9).length ≤ 65) → (PureRun Try.prog (do pure (.value (← Builtin.len_ #[41] 3 #[sv x9]))) (.int .i64 ((vlen (sv x9) : Nat) : Int))) ∧ (∃ _ : Unit, True ∧ Value.bool (decide (((vlen (sv x9) : Nat) : Int) > (16 : Int))) = .bool true) ∧ ∀ _ : Unit, (True) → true = !false ∧ true = !false ∧ true = !false ∧ true = !false ∧ (true = true) ∧ b5 = b5 ∧ (none : Option Nat) = none ∧ b5 = b5 ∧ (none : Option Nat) = none ∧ b5 = b5 ∧ (none : Option Nat) = none ∧ b5 = b5 ∧ (none : Option Nat) = none ∧ b4 = b4 ∧ (none : Option Nat) = none ∧ b4 = b4 ∧ (none : Option Nat) = none ∧ b4 = b4 ∧ (none : Option Nat) = none ∧ b4 = b4 ∧ (none : Option Nat) = none ∧ b4 = b4 ∧ (none : Option Nat) = none ∧ b4 = b4 ∧ (none : Option Nat) = none ∧ b4 = b4 ∧ (none : Option Nat) = none ∧ b4 = b4 ∧ (none : Option Nat) = none ∧ ∃ zx : Int × Int, (R4 zx.1 ∧ zx = sOut (num (vI A)) (num (vI S)) (num (vI n))) ∧ Value.tuple #[.agg #[.int .u64 0, .int .u64 0, .int .u64 0, .int .u64 0], .int .i64 2] = .tuple #[vI zx.1, .int .i64 zx.2] ∧ True) ∧ ((decide (115792089237316195423570985008687907853269984665640564039457584007913129639936 ≤ num (vI A) + 1)) = false → b1 = b1 ∧ (none : Option Nat) = none ∧ b1 = b1 ∧ (none : Option Nat) = none ∧ b1 = b1 ∧ (none : Option Nat) = none ∧ b1 = b1 ∧ (none : Option Nat) = none ∧ (CallT Try.prog 88 #[vI A] [] Row (fun zx => sv zx) (fun zx => [(ss 3 zx)]) (fun zx => RowOK zx ∧ nv (dg zx) = (num (vI A)) + 1 ∧ Canon (dg zx) ∧ (dg zx).length ≤ 65)) ∧ (∃ zx : Row, (fun zx => RowOK zx ∧ nv (dg zx) = (num (vI A)) + 1 ∧ Canon (dg zx) ∧ (dg zx).length ≤ 65) zx) ∧ ∀ x10 : Row, (RowOK x10 ∧ nv (dg x10) = (num (vI A)) + 1 ∧ Canon (dg x10) ∧ (dg x10).length ≤ 65) → (PureRun Try.prog (do pure (.value (← Builtin.len_ #[41] 3 #[sv x10]))) (.int .i64 ((vlen (sv x10) : Nat) : Int))) ∧ (∃ _ : Unit, True ∧ Value.bool (decide (((vlen (sv x10) : Nat) : Int) > (16 : Int))) = .bool false) ∧ ∀ _ : Unit, (True) → false = false ∧ b2 = b2 ∧ (none : Option Nat) = none ∧ b2 = b2 ∧ (none : Option Nat) = none ∧ b2 = b2 ∧ (none : Option Nat) = none ∧ b2 = b2 ∧ (none : Option Nat) = none ∧ false = false ∧ (CallT Try.prog 88 #[vI S] [] Row (fun zx => sv zx) (fun zx => [(ss 3 zx)]) (fun zx => RowOK zx ∧ nv (dg zx) = (num (vI S)) + 1 ∧ Canon (dg zx) ∧ (dg zx).length ≤ 65)) ∧ (∃ zx : Row, (fun zx => RowOK zx ∧ nv (dg zx) = (num (vI S)) + 1 ∧ Canon (dg zx) ∧ (dg zx).length ≤ 65) zx) ∧ ∀ x11 : Row, (RowOK x11 ∧ nv (dg x11) = (num (vI S)) + 1 ∧ Canon (dg x11) ∧ (dg x11).length ≤ 65) → false = false ∧ (PureRun Try.prog (do pure (.value (← Builtin.len_ #[41] 3 #[sv x11]))) (.int .i64 ((vlen (sv x11) : Nat) : Int))) ∧ false = false ∧ ((decide (((vlen (sv x11) : Nat) : Int) > (16 : Int))) = true → b5 = b5 ∧ (none : Option Nat) = none ∧ b5 = b5 ∧ (none : Option Nat) = none ∧ b5 = b5 ∧ (none : Option Nat) = none ∧ b5 = b5 ∧ (none : Option Nat) = none ∧ b4 = b4 ∧ (none : Option Nat) = none ∧ b4 = b4 ∧ (none : Option Nat) = none ∧ b4 = b4 ∧ (none : Option Nat) = none ∧ b4 = b4 ∧ (none : Option Nat) = none ∧ b4 = b4 ∧ (none : Option Nat) = none ∧ b4 = b4 ∧ (none : Option Nat) = none ∧ b4 = b4 ∧ (none : Option Nat) = none ∧ b4 = b4 ∧ (none : Option Nat) = none ∧ ∃ zx : Int × Int, (R4 zx.1 ∧ zx = sOut (num (vI A)) (num (vI S)) (num (vI n))) ∧ Value.tuple #[.agg #[.int .u64 0, .int .u64 0, .int .u64 0, .int .u64 0], .int .i64 2] = .tuple #[vI zx.1, .int .i64 zx.2] ∧ True) ∧ ((decide (((vlen (sv x11) : Nat) : Int) > (16 : Int))) = false → b3 = b3 ∧ (none : Option Nat) = none ∧ b3 = b3 ∧ (none : Option Nat) = none ∧ b3 = b3 ∧ (none : Option Nat) = none ∧ b3 = b3 ∧ (none : Option Nat) = none ∧ (CallT Try.prog 20 #[vI n] [] Row (fun zx => sv zx) (fun zx => [(ss 3 zx)]) (fun zx => RowOK zx ∧ nv (dg zx) = (num (vI n)) ∧ Canon (dg zx) ∧ (dg zx).length ≤ 16)) ∧ (∃ zx : Row, (fun zx => RowOK zx ∧ nv (dg zx) = (num (vI n)) ∧ Canon (dg zx) ∧ (dg zx).length ≤ 16) zx) ∧ ∀ x12 : Row, (RowOK x12 ∧ nv (dg x12) = (num (vI n)) ∧ Canon (dg x12) ∧ (dg x12).length ≤ 16) → b1 = b1 ∧ (none : Option Nat) = none ∧ b1 = b1 ∧ (none : Option Nat) = none ∧ b1 = b1 ∧ (none : Option Nat) = none ∧ b1 = b1 ∧ (none : Option Nat) = none ∧ (CallT Try.prog 88 #[vI A] [] Row (fun zx => sv zx) (fun zx => [(ss 3 zx)]) (fun zx => RowOK zx ∧ nv (dg zx) = (num (vI A)) + 1 ∧ Canon (dg zx) ∧ (dg zx).length ≤ 65)) ∧ (∃ zx : Row, (fun zx => RowOK zx ∧ nv (dg zx) = (num (vI A)) + 1 ∧ Canon (dg zx) ∧ (dg zx).length ≤ 65) zx) ∧ ∀ x13 : Row, (RowOK x13 ∧ nv (dg x13) = (num (vI A)) + 1 ∧ Canon (dg x13) ∧ (dg x13).length ≤ 65) → (CallT Try.prog 31 #[sv x12, sv x13] [(ss 3 x12), (ss 3 x13)] Row (fun zx => sv zx) (fun zx => [(ss 3 x12), (ss 3 x13), (ss 3 zx)]) (fun zx => RowOK zx ∧ nv (dg zx) = nv (rdv (sv x12) (ss 3 x12)) * nv (rdv (sv x13) (ss 3 x13)) ∧ Canon (dg zx))) ∧ (∃ zx : Row, (fun zx => RowOK zx ∧ nv (dg zx) = nv (rdv (sv x12) (ss 3 x12)) * nv (rdv (sv x13) (ss 3 x13)) ∧ Canon (dg zx)) zx) ∧ ∀ x14 : Row, (RowOK x14 ∧ nv (dg x14) = nv (rdv (sv x12) (ss 3 x12)) * nv (rdv (sv x13) (ss 3 x13)) ∧ Canon (dg x14)) → b2 = b2 ∧ (none : Option Nat) = none ∧ b2 = b2 ∧ (none : Option Nat) = none ∧ b2 = b2 ∧ (none : Option Nat) = none ∧ b2 = b2 ∧ (none : Option Nat) = none ∧ (CallT Try.prog 88 #[vI S] [] Row (fun zx => sv zx) (fun zx => [(ss 3 zx)]) (fun zx => RowOK zx ∧ nv (dg zx) = (num (vI S)) + 1 ∧ Canon (dg zx) ∧ (dg zx).length ≤ 65)) ∧ (∃ zx : Row, (fun zx => RowOK zx ∧ nv (dg zx) = (num (vI S)) + 1 ∧ Canon (dg zx) ∧ (dg zx).length ≤ 65) zx) ∧ ∀ x15 : Row, (RowOK x15 ∧ nv (dg x15) = (num (vI S)) + 1 ∧ Canon (dg x15) ∧ (dg x15).length ≤ 65) → (CallT Try.prog 33 #[sv x14, sv x15] [(ss 3 x14), (ss 3 x15)] (Row × Row) (fun zx => .tuple #[sv zx.1, sv zx.2]) (fun zx => [(ss 3 x14), (ss 3 x15), (ss 3 zx.1), (ss 3 zx.2)]) (fun zx => RowOK zx.1 ∧ RowOK zx.2 ∧ nv (dg zx.1) = nv (rdv (sv x14) (ss 3 x14)) / nv (rdv (sv x15) (ss 3 x15)) ∧ nv (dg zx.2) = nv (rdv (sv x14) (ss 3 x14)) % nv (rdv (sv x15) (ss 3 x15)) ∧ Canon (dg zx.1) ∧ Canon (dg zx.2))) ∧ (∃ zx : Row × Row, (fun zx => RowOK zx.1 ∧ RowOK zx.2 ∧ nv (dg zx.1) = nv (rdv (sv x14) (ss 3 x14)) / nv (rdv (sv x15) (ss 3 x15)) ∧ nv (dg zx.2) = nv (rdv (sv x14) (ss 3 x14)) % nv (rdv (sv x15) (ss 3 x15)) ∧ Canon (dg zx.1) ∧ Canon (dg zx.2)) zx) ∧ ∀ x16 : Row × Row, (RowOK x16.1 ∧ RowOK x16.2 ∧ nv (dg x16.1) = nv (rdv (sv x14) (ss 3 x14)) / nv (rdv (sv x15) (ss 3 x15)) ∧ nv (dg x16.2) = nv (rdv (sv x14) (ss 3 x14)) % nv (rdv (sv x15) (ss 3 x15)) ∧ Canon (dg x16.1) ∧ Canon (dg x16.2)) → (CallT Try.prog 82 #[sv x16.1] [(ss 3 x16.1)] (Int × Bool) (fun zx => .tuple #[vI zx.1, .bool zx.2]) (fun zx => [(ss 3 x16.1)]) (fun zx => R4 zx.1 ∧ zx = rInt (nv (rdv (sv x16.1) (ss 3 x16.1))))) ∧ (∃ zx : Int × Bool, (fun zx => R4 zx.1 ∧ zx = rInt (nv (rdv (sv x16.1) (ss 3 x16.1)))) zx) ∧ ∀ x17 : Int × Bool, (R4 x17.1 ∧ x17 = rInt (nv (rdv (sv x16.1) (ss 3 x16.1)))) → ∀ b18 : Nat, b18 = b18 ∧ (none : Option Nat) = none ∧ b18 = b18 ∧ (none : Option Nat) = none ∧ b18 = b18 ∧ (none : Option Nat) = none ∧ b18 = b18 ∧ (none : Option Nat) = none ∧ ((!x17.2) = true → b5 = b5 ∧ (none : Option Nat) = none ∧ b5 = b5 ∧ (none : Option Nat) = none ∧ b5 = b5 ∧ (none : Option Nat) = none ∧ b5 = b5 ∧ (none : Option Nat) = none ∧ b4 = b4 ∧ (none : Option Nat) = none ∧ b4 = b4 ∧ (none : Option Nat) = none ∧ b4 = b4 ∧ (none : Option Nat) = none ∧ b4 = b4 ∧ (none : Option Nat) = none ∧ b4 = b4 ∧ (none : Option Nat) = none ∧ b4 = b4 ∧ (none : Option Nat) = none ∧ b4 = b4 ∧ (none : Option Nat) = none ∧ b4 = b4 ∧ (none : Option Nat) = none ∧ ∃ zx : Int × Int, (R4 zx.1 ∧ zx = sOut (num (vI A)) (num (vI S)) (num (vI n))) ∧ Value.tuple #[.agg #[.int .u64 0, .int .u64 0, .int .u64 0, .int .u64 0], .int .i64 2] = .tuple #[vI zx.1, .int .i64 zx.2] ∧ True) ∧ ((!x17.2) = false → b1 = b1 ∧ (none : Option Nat) = none ∧ b1 = b1 ∧ (none : Option Nat) = none ∧ b1 = b1 ∧ (none : Option Nat) = none ∧ b1 = b1 ∧ (none : Option Nat) = none ∧ (CallT Try.prog 20 #[vI A] [] Row (fun zx => sv zx) (fun zx => [(ss 3 zx)]) (fun zx => RowOK zx ∧ nv (dg zx) = (num (vI A)) ∧ Canon (dg zx) ∧ (dg zx).length ≤ 16)) ∧ (∃ zx : Row, (fun zx => RowOK zx ∧ nv (dg zx) = (num (vI A)) ∧ Canon (dg zx) ∧ (dg zx).length ≤ 16) zx) ∧ ∀ x19 : Row, (RowOK x19 ∧ nv (dg x19) = (num (vI A)) ∧ Canon (dg x19) ∧ (dg x19).length ≤ 16) → (CallT Try.prog 27 #[sv x16.1, sv x19] [(ss 3 x16.1), (ss 3 x19)] Int (fun zx => .int .i64 zx) (fun _ => [(ss 3 x16.1), (ss 3 x19)]) (fun zx => zx = hCmp (nv (rdv (sv x16.1) (ss 3 x16.1))) (nv (rdv (sv x19) (ss 3 x19))))) ∧ (∃ zx : Int, (fun zx => zx = hCmp (nv (rdv (sv x16.1) (ss 3 x16.1))) (nv (rdv (sv x19) (ss 3 x19)))) zx) ∧ ∀ x20 : Int, (x20 = hCmp (nv (rdv (sv x16.1) (ss 3 x16.1))) (nv (rdv (sv x19) (ss 3 x19)))) → ((decide (x20 > (0 : Int))) = true → b5 = b5 ∧ (none : Option Nat) = none ∧ b5 = b5 ∧ (none : Option Nat) = none ∧ b5 = b5 ∧ (none : Option Nat) = none ∧ b5 = b5 ∧ (none : Option Nat) = none ∧ b4 = b4 ∧ (none : Option Nat) = none ∧ b4 = b4 ∧ (none : Option Nat) = none ∧ b4 = b4 ∧ (none : Option Nat) = none ∧ b4 = b4 ∧ (none : Option Nat) = none ∧ b4 = b4 ∧ (none : Option Nat) = none ∧ b4 = b4 ∧ (none : Option Nat) = none ∧ b4 = b4 ∧ (none : Option Nat) = none ∧ b4 = b4 ∧ (none : Option Nat) = none ∧ ∃ zx : Int × Int, (R4 zx.1 ∧ zx = sOut (num (vI A)) (num (vI S)) (num (vI n))) ∧ Value.tuple #[.agg #[.int .u64 0, .int .u64 0, .int .u64 0, .int .u64 0], .int .i64 8] = .tuple #[vI zx.1, .int .i64 zx.2] ∧ True) ∧ ((decide (x20 > (0 : Int))) = false → b18 = b18 ∧ (none : Option Nat) = none ∧ b18 = b18 ∧ (none : Option Nat) = none ∧ b18 = b18 ∧ (none : Option Nat) = none ∧ b18 = b18 ∧ (none : Option Nat) = none ∧ b4 = b4 ∧ (none : Option Nat) = none ∧ b4 = b4 ∧ (none : Option Nat) = none ∧ b4 = b4 ∧ (none : Option Nat) = none ∧ b4 = b4 ∧ (none : Option Nat) = none ∧ b4 = b4 ∧ (none : Option Nat) = none ∧ b4 = b4 ∧ (none : Option Nat) = none ∧ b4 = b4 ∧ (none : Option Nat) = none ∧ b4 = b4 ∧ (none : Option Nat) = none ∧ ∃ zx : Int × Int, (R4 zx.1 ∧ zx = sOut (num (vI A)) (num (vI S)) (num (vI n))) ∧ Value.tuple #[vI x17.1, .int .i64 0] = .tuple #[vI zx.1, .int .i64 zx.2] ∧ True))))))) := by kernel_rfl
set_option maxRecDepth 100000 in
set_option maxHeartbeats 1000000 in
theorem ref16_Out (A : Int) (S : Int) (n : Int) (r_A : R4 A) (r_S : R4 S) (r_n : R4 n) : CallT Try.prog 53 #[vI A, vI S, vI n] [] (Int × Int) (fun zx => .tuple #[vI zx.1, .int .i64 zx.2]) (fun zx => []) (fun zx => (R4 zx.1 ∧ zx = sOut (num (vI A)) (num (vI S)) (num (vI n)))) := by
  refine call_of (c := bodyOf Try.f53) (n := 62) (fn := Try.f53) Try.mixed Try.func53 (by kernel_rfl) (by kernel_rfl) (by kernel_rfl) 2000 _ [.rd 3, .rd 3, .rd 3, .rd 3] [] rfl rfl (Eq.mpr (ref16_Out_vc A S n) ?_)
  have g0 := r_A.1; have g1 := r_S.1; have g2 := r_n.1
  have qn := quo_nonneg r_n.1 r_A.1 r_S.1
  intro b1
  intro b2
  intro b3
  intro b4
  intro b5
  refine ⟨rfl, rfl, rfl, rfl, rfl, rfl, rfl, rfl, ?_⟩
  refine ⟨rfl, rfl, rfl, rfl, rfl, rfl, rfl, rfl, rfl, rfl, rfl, rfl, rfl, rfl, rfl, rfl, Try.xeq44 n 0, ?_⟩
  refine ⟨fun h1 => ?_, fun h1 => ?_⟩
  · refine ⟨rfl, rfl, rfl, rfl, rfl, rfl, rfl, rfl, rfl, rfl, rfl, rfl, rfl, rfl, rfl, rfl, ?_⟩
    refine ⟨rfl, rfl, rfl, rfl, rfl, rfl, rfl, rfl, ?_⟩
    try simp (disch := first | assumption | exact R4_zero | exact R4_one) only [num_vI, hCmp_pos, hCmp_neg, hCmp_le0, hCmp_ge0, decide_eq_true_eq, decide_eq_false_iff_not, gt_iff_lt, ge_iff_le, beq_iff_eq, beq_eq_false_iff_ne, bne_iff_ne, bne_eq_false_iff_eq, ne_eq] at *
    have hs : sOut A S n = (0, 3) := by
      unfold sOut
      (repeat' split) <;> first | rfl | (exfalso; omega)
    exact ⟨(0, 3), ⟨R4_zero, by first | exact hs.symm | (rw [num_vI r_A, num_vI r_S, num_vI r_n]; exact hs.symm)⟩, by rw [vI_zero], trivial⟩
  · refine ⟨rfl, rfl, rfl, rfl, rfl, rfl, rfl, rfl, ref2_Row n (by assumption), wit_num (by first | exact R4_num _ | exact by assumption), ?_⟩
    intro x6
    intro h2
    obtain ⟨rh2_, h2⟩ := h2
    try simp only [num_vI (n := n) (by assumption)] at h2
    have hE := h2
    have okhE : RowOK x6 := by assumption
    have ehE := vlen_dg x6
    have chE := canon_pos okhE.dig hE.2.1
    have lhE := hE.2.2
    refine ⟨rfl, rfl, rfl, rfl, rfl, rfl, rfl, rfl, ref2_Row S (by assumption), wit_num (by first | exact R4_num _ | exact by assumption), ?_⟩
    intro x7
    intro h3
    obtain ⟨rh3_, h3⟩ := h3
    try simp only [num_vI (n := S) (by assumption)] at h3
    have hF := h3
    have okhF : RowOK x7 := by assumption
    have ehF := vlen_dg x7
    have chF := canon_pos okhF.dig hF.2.1
    have lhF := hF.2.2
    refine ⟨ref1_Cmp x6 x7 (by first | assumption | exact rowOK_lit _ _ (by decide)) (by first | assumption | exact rowOK_lit _ _ (by decide)) (by omega) (by omega), ⟨_, rfl⟩, ?_⟩
    intro x8
    intro h4
    simp only [rdv_eq] at h4
    have hX := h4
    rw [hE.1, hF.1] at hX
    have chX := hCmp_split hX
    refine ⟨fun h5 => ?_, fun h5 => ?_⟩
    · refine ⟨rfl, rfl, rfl, rfl, rfl, rfl, rfl, rfl, rfl, rfl, rfl, rfl, rfl, rfl, rfl, rfl, ?_⟩
      refine ⟨rfl, rfl, rfl, rfl, rfl, rfl, rfl, rfl, ?_⟩
      try simp (disch := first | assumption | exact R4_zero | exact R4_one) only [num_vI, hCmp_pos, hCmp_neg, hCmp_le0, hCmp_ge0, decide_eq_true_eq, decide_eq_false_iff_not, gt_iff_lt, ge_iff_le, beq_iff_eq, beq_eq_false_iff_ne, bne_iff_ne, bne_eq_false_iff_eq, ne_eq] at *
      have hs : sOut A S n = (0, 8) := by
        unfold sOut
        (repeat' split) <;> first | rfl | (exfalso; omega)
      exact ⟨(0, 8), ⟨R4_zero, by first | exact hs.symm | (rw [num_vI r_A, num_vI r_S, num_vI r_n]; exact hs.symm)⟩, by rw [vI_zero], trivial⟩
    · refine ⟨fun h6 => ?_, fun h6 => ?_⟩
      · have kk0 := of_decide_eq_true h6
        simp only [num_vI r_A, num_vI r_S, num_vI r_n] at kk0
        refine ⟨rfl, rfl, rfl, rfl, rfl, rfl, rfl, rfl, ref16_one A (by assumption), wit_one (by first | exact R4_num _ | exact by assumption), ?_⟩
        intro x9
        intro h7
        obtain ⟨rh7_, h7⟩ := h7
        try simp only [num_vI (n := A) (by assumption)] at h7
        have hO := h7
        have okhO : RowOK x9 := by assumption
        have ehO := vlen_dg x9
        have chO := canon_pos okhO.dig hO.2.1
        have lhO := hO.2.2
        have shO := canon16 okhO.dig hO.2.1
        refine ⟨xlen Try.sl41 3 x9, ⟨(), trivial, congrArg Value.bool (by first | exact decide_eq_true (by omega) | exact decide_eq_false (by omega))⟩, ?_⟩
        intro _
        intro _
        refine ⟨rfl, rfl, rfl, rfl, ?_⟩
        refine ⟨rfl, ?_⟩
        refine ⟨rfl, rfl, rfl, rfl, rfl, rfl, rfl, rfl, rfl, rfl, rfl, rfl, rfl, rfl, rfl, rfl, ?_⟩
        refine ⟨rfl, rfl, rfl, rfl, rfl, rfl, rfl, rfl, ?_⟩
        try simp (disch := first | assumption | exact R4_zero | exact R4_one) only [num_vI, hCmp_pos, hCmp_neg, hCmp_le0, hCmp_ge0, decide_eq_true_eq, decide_eq_false_iff_not, gt_iff_lt, ge_iff_le, beq_iff_eq, beq_eq_false_iff_ne, bne_iff_ne, bne_eq_false_iff_eq, ne_eq] at *
        have hs : sOut A S n = (0, 2) := by
          unfold sOut
          (repeat' split) <;> first | rfl | (exfalso; omega)
        exact ⟨(0, 2), ⟨R4_zero, by first | exact hs.symm | (rw [num_vI r_A, num_vI r_S, num_vI r_n]; exact hs.symm)⟩, by rw [vI_zero], trivial⟩
      · have kk0 := of_decide_eq_false h6
        simp only [num_vI r_A, num_vI r_S, num_vI r_n] at kk0
        refine ⟨rfl, rfl, rfl, rfl, rfl, rfl, rfl, rfl, ref16_one A (by assumption), wit_one (by first | exact R4_num _ | exact by assumption), ?_⟩
        intro x10
        intro h8
        obtain ⟨rh8_, h8⟩ := h8
        try simp only [num_vI (n := A) (by assumption)] at h8
        have hO := h8
        have okhO : RowOK x10 := by assumption
        have ehO := vlen_dg x10
        have chO := canon_pos okhO.dig hO.2.1
        have lhO := hO.2.2
        have shO := canon16 okhO.dig hO.2.1
        refine ⟨xlen Try.sl41 3 x10, ⟨(), trivial, congrArg Value.bool (by first | exact decide_eq_true (by omega) | exact decide_eq_false (by omega))⟩, ?_⟩
        intro _
        intro _
        refine ⟨rfl, rfl, rfl, rfl, rfl, rfl, rfl, rfl, rfl, rfl, ref16_one S (by assumption), wit_one (by first | exact R4_num _ | exact by assumption), ?_⟩
        intro x11
        intro h9
        obtain ⟨rh9_, h9⟩ := h9
        try simp only [num_vI (n := S) (by assumption)] at h9
        have hP := h9
        have okhP : RowOK x11 := by assumption
        have ehP := vlen_dg x11
        have chP := canon_pos okhP.dig hP.2.1
        have lhP := hP.2.2
        have shP := canon16 okhP.dig hP.2.1
        refine ⟨rfl, xlen Try.sl41 3 x11, rfl, ?_⟩
        refine ⟨fun h10 => ?_, fun h10 => ?_⟩
        · refine ⟨rfl, rfl, rfl, rfl, rfl, rfl, rfl, rfl, rfl, rfl, rfl, rfl, rfl, rfl, rfl, rfl, ?_⟩
          refine ⟨rfl, rfl, rfl, rfl, rfl, rfl, rfl, rfl, ?_⟩
          try simp (disch := first | assumption | exact R4_zero | exact R4_one) only [num_vI, hCmp_pos, hCmp_neg, hCmp_le0, hCmp_ge0, decide_eq_true_eq, decide_eq_false_iff_not, gt_iff_lt, ge_iff_le, beq_iff_eq, beq_eq_false_iff_ne, bne_iff_ne, bne_eq_false_iff_eq, ne_eq] at *
          have hs : sOut A S n = (0, 2) := by
            unfold sOut
            (repeat' split) <;> first | rfl | (exfalso; omega)
          exact ⟨(0, 2), ⟨R4_zero, by first | exact hs.symm | (rw [num_vI r_A, num_vI r_S, num_vI r_n]; exact hs.symm)⟩, by rw [vI_zero], trivial⟩
        · have hA1 : A + 1 < 115792089237316195423570985008687907853269984665640564039457584007913129639936 := by (try simp (disch := first | assumption | exact R4_zero | exact R4_one) only [num_vI, hCmp_pos, hCmp_neg, hCmp_le0, hCmp_ge0, decide_eq_true_eq, decide_eq_false_iff_not, gt_iff_lt, ge_iff_le, beq_iff_eq, beq_eq_false_iff_ne, bne_iff_ne, bne_eq_false_iff_eq, ne_eq] at *); omega
          have hS1 : S + 1 < 115792089237316195423570985008687907853269984665640564039457584007913129639936 := by (try simp (disch := first | assumption | exact R4_zero | exact R4_one) only [num_vI, hCmp_pos, hCmp_neg, hCmp_le0, hCmp_ge0, decide_eq_true_eq, decide_eq_false_iff_not, gt_iff_lt, ge_iff_le, beq_iff_eq, beq_eq_false_iff_ne, bne_iff_ne, bne_eq_false_iff_eq, ne_eq] at *); omega
          have R1 : R4 (A + 1) := ⟨by omega, hA1⟩
          refine ⟨rfl, rfl, rfl, rfl, rfl, rfl, rfl, rfl, ref2_Row n (by assumption), wit_num (by first | exact R4_num _ | exact by assumption), ?_⟩
          intro x12
          intro h11
          obtain ⟨rh11_, h11⟩ := h11
          try simp only [num_vI (n := n) (by assumption)] at h11
          have hT := h11
          have okhT : RowOK x12 := by assumption
          have ehT := vlen_dg x12
          have chT := canon_pos okhT.dig hT.2.1
          have lhT := hT.2.2
          refine ⟨rfl, rfl, rfl, rfl, rfl, rfl, rfl, rfl, ref16_one A (by assumption), wit_one (by first | exact R4_num _ | exact by assumption), ?_⟩
          intro x13
          intro h12
          obtain ⟨rh12_, h12⟩ := h12
          try simp only [num_vI (n := A) (by assumption)] at h12
          have hU := h12
          have okhU : RowOK x13 := by assumption
          have ehU := vlen_dg x13
          have chU := canon_pos okhU.dig hU.2.1
          have lhU := hU.2.2
          have shU := canon16 okhU.dig hU.2.1
          refine ⟨ref1_Mul x12 x13 (by first | assumption | exact rowOK_lit _ _ (by decide)) (by first | assumption | exact rowOK_lit _ _ (by decide)) (by omega) (by omega), wit_row (by rw [rdv_eq x12, rdv_eq x13]; exact Int.mul_nonneg (nv_nonneg (RowOK.dig (by first | assumption | exact rowOK_lit _ _ (by decide)))) (nv_nonneg (RowOK.dig (by first | assumption | exact rowOK_lit _ _ (by decide))))), ?_⟩
          intro x14
          intro h13
          simp only [rdv_eq] at h13
          obtain ⟨rh13_, h13⟩ := h13
          have hM := h13
          have lM : (dg x14).length ≤ 64 := len40 (RowOK.dig (by assumption)) hM.2 (by rw [hM.1, hT.1, hU.1]) (wide_num (prod_R r_n R1))
          refine ⟨rfl, rfl, rfl, rfl, rfl, rfl, rfl, rfl, ref16_one S (by assumption), wit_one (by first | exact R4_num _ | exact by assumption), ?_⟩
          intro x15
          intro h14
          obtain ⟨rh14_, h14⟩ := h14
          try simp only [num_vI (n := S) (by assumption)] at h14
          have hV := h14
          have okhV : RowOK x15 := by assumption
          have ehV := vlen_dg x15
          have chV := canon_pos okhV.dig hV.2.1
          have lhV := hV.2.2
          have shV := canon16 okhV.dig hV.2.1
          refine ⟨ref1_Div x14 x15 (by first | assumption | exact rowOK_lit _ _ (by decide)) (by first | assumption | exact rowOK_lit _ _ (by decide)) (by omega) (by omega) (by rw [hV.1]; omega), wit_rdiv (by rw [rdv_eq x14]; exact nv_nonneg (RowOK.dig (by first | assumption | exact rowOK_lit _ _ (by decide)))) (by rw [rdv_eq x15]; omega), ?_⟩
          intro x16
          intro h15
          simp only [rdv_eq] at h15
          obtain ⟨rh15_1, h15⟩ := h15
          obtain ⟨rh15_2, h15⟩ := h15
          have hD := h15
          rw [hM.1, hT.1, hU.1, hV.1] at hD
          have okq : RowOK x16.1 := by assumption
          have l40 : (dg x16.1).length ≤ 64 := len40 okq.dig hD.2.2.1 hD.1 (wide_num (quo_R8 (prod_R r_n R1) (by omega)))
          refine ⟨ref2_Int x16.1 (by first | assumption | exact rowOK_lit _ _ (by decide)) (by omega), ⟨_, rInt_R (by rw [rdv_eq x16.1]; exact nv_nonneg (RowOK.dig (by first | assumption | exact rowOK_lit _ _ (by decide)))), rfl⟩, ?_⟩
          intro x17
          intro h16
          simp only [rdv_eq] at h16
          obtain ⟨rh16_1, h16⟩ := h16
          have hI := h16
          rw [hD.1] at hI
          intro b18
          refine ⟨rfl, rfl, rfl, rfl, rfl, rfl, rfl, rfl, ?_⟩
          refine ⟨fun h17 => ?_, fun h17 => ?_⟩
          · refine ⟨rfl, rfl, rfl, rfl, rfl, rfl, rfl, rfl, rfl, rfl, rfl, rfl, rfl, rfl, rfl, rfl, ?_⟩
            refine ⟨rfl, rfl, rfl, rfl, rfl, rfl, rfl, rfl, ?_⟩
            have cI := (rInt_cases hI).2 (not_t h17)
            try simp (disch := first | assumption | exact R4_zero | exact R4_one) only [num_vI, hCmp_pos, hCmp_neg, hCmp_le0, hCmp_ge0, decide_eq_true_eq, decide_eq_false_iff_not, gt_iff_lt, ge_iff_le, beq_iff_eq, beq_eq_false_iff_ne, bne_iff_ne, bne_eq_false_iff_eq, ne_eq] at *
            have hs : sOut A S n = (0, 2) := by
              unfold sOut
              (repeat' split) <;> first | rfl | (exfalso; omega)
            exact ⟨(0, 2), ⟨R4_zero, by first | exact hs.symm | (rw [num_vI r_A, num_vI r_S, num_vI r_n]; exact hs.symm)⟩, by rw [vI_zero], trivial⟩
          · refine ⟨rfl, rfl, rfl, rfl, rfl, rfl, rfl, rfl, ref2_Row A (by assumption), wit_num (by first | exact R4_num _ | exact by assumption), ?_⟩
            intro x19
            intro h18
            obtain ⟨rh18_, h18⟩ := h18
            try simp only [num_vI (n := A) (by assumption)] at h18
            have hH := h18
            have okhH : RowOK x19 := by assumption
            have ehH := vlen_dg x19
            have chH := canon_pos okhH.dig hH.2.1
            have lhH := hH.2.2
            refine ⟨ref1_Cmp x16.1 x19 (by first | assumption | exact rowOK_lit _ _ (by decide)) (by first | assumption | exact rowOK_lit _ _ (by decide)) (by omega) (by omega), ⟨_, rfl⟩, ?_⟩
            intro x20
            intro h19
            simp only [rdv_eq] at h19
            have hY := h19
            rw [hD.1, hH.1] at hY
            have chY := hCmp_split hY
            refine ⟨fun h20 => ?_, fun h20 => ?_⟩
            · refine ⟨rfl, rfl, rfl, rfl, rfl, rfl, rfl, rfl, rfl, rfl, rfl, rfl, rfl, rfl, rfl, rfl, ?_⟩
              refine ⟨rfl, rfl, rfl, rfl, rfl, rfl, rfl, rfl, ?_⟩
              have cI := (rInt_cases hI).1 (not_f h17)
              try simp (disch := first | assumption | exact R4_zero | exact R4_one) only [num_vI, hCmp_pos, hCmp_neg, hCmp_le0, hCmp_ge0, decide_eq_true_eq, decide_eq_false_iff_not, gt_iff_lt, ge_iff_le, beq_iff_eq, beq_eq_false_iff_ne, bne_iff_ne, bne_eq_false_iff_eq, ne_eq] at *
              have hs : sOut A S n = (0, 8) := by
                unfold sOut
                (repeat' split) <;> first | rfl | (exfalso; omega)
              exact ⟨(0, 8), ⟨R4_zero, by first | exact hs.symm | (rw [num_vI r_A, num_vI r_S, num_vI r_n]; exact hs.symm)⟩, by rw [vI_zero], trivial⟩
            · refine ⟨rfl, rfl, rfl, rfl, rfl, rfl, rfl, rfl, rfl, rfl, rfl, rfl, rfl, rfl, rfl, rfl, ?_⟩
              refine ⟨rfl, rfl, rfl, rfl, rfl, rfl, rfl, rfl, ?_⟩
              have cI := (rInt_cases hI).1 (not_f h17)
              try simp (disch := first | assumption | exact R4_zero | exact R4_one) only [num_vI, hCmp_pos, hCmp_neg, hCmp_le0, hCmp_ge0, decide_eq_true_eq, decide_eq_false_iff_not, gt_iff_lt, ge_iff_le, beq_iff_eq, beq_eq_false_iff_ne, bne_iff_ne, bne_eq_false_iff_eq, ne_eq] at *
              have ha : x17.1 = n * (A + 1) / (S + 1) := by omega
              have hs : sOut A S n = (n * (A + 1) / (S + 1), 0) := by
                unfold sOut
                (repeat' split) <;> first | rfl | (exfalso; omega)
              exact ⟨(n * (A + 1) / (S + 1), 0), ⟨ha ▸ (by assumption), by first | exact hs.symm | (rw [num_vI r_A, num_vI r_S, num_vI r_n]; exact hs.symm)⟩, by rw [ha], trivial⟩

def law16_lives_C : List Value → List Slot → Ctr := fun vs hs => ⟨Unit, fun _ => .bool true, fun _ => hs, fun _ => True⟩
set_option maxRecDepth 100000 in
theorem law16_lives_vc  : codeW Try.prog 30 none 2000 none (bodyOf Try.f49) (.reg [.sem []] (.reg [.sem [], .sem [], .callr [] huge_Of_C, .callr [] share_In_C, .sem [], .sem [], .sem [], .sem [.nw 0], .sem [.wr 0, .wr 0, .wr 0, .wr 0], .sem []] (.reg [.callr [] huge_Of_C, .sem [], .callr [] huge_Of_C, .callr [] share_In_C, .sem [], .sem [], .sem [], .sem [.nw 1], .sem [.wr 1, .wr 1, .wr 1, .wr 1], .sem []] (.reg [.sem [], .gen [] (one (.bool true)), .sem [], .sem [.rd 0, .rd 0, .rd 0, .rd 0], .callr [] huge_Of_C, .specr [] (fun _ hs => ⟨Unit, fun _ => .bool true, fun _ => hs, fun _ => True⟩), .sem [], .sem [], .sem [], .gen [] (one (.bool true)), .sem [], .sem []] (.done)))))
    (init #[] []) (finW Try.prog Try.f49 [] [] (X := Unit) (fun _ => .bool true) (fun _ => []) (fun _ => True)) =
    ((CallT Try.prog 75 #[.int .u64 5] [] Unit (fun _ => vI (5 : Int)) (fun _ => []) (fun _ => True)) ∧ (∃ zx : Unit, (fun _ => True) zx) ∧ ∀ _ : Unit, (True) → (CallT Try.prog 50 #[.agg #[.int .u64 0, .int .u64 0, .int .u64 0, .int .u64 0], .agg #[.int .u64 0, .int .u64 0, .int .u64 0, .int .u64 0], vI (5 : Int)] [] (Int × Int) (fun zx => .tuple #[vI zx.1, .int .i64 zx.2]) (fun _ => []) (fun zx => R4 zx.1 ∧ zx = sIn (num (vI (0 : Int))) (num (vI (0 : Int))) (num (vI (5 : Int))))) ∧ (∃ zx : Int × Int, (fun zx => R4 zx.1 ∧ zx = sIn (num (vI (0 : Int))) (num (vI (0 : Int))) (num (vI (5 : Int)))) zx) ∧ ∀ x1 : Int × Int, (R4 x1.1 ∧ x1 = sIn (num (vI (0 : Int))) (num (vI (0 : Int))) (num (vI (5 : Int)))) → ∀ b2 : Nat, b2 = b2 ∧ (none : Option Nat) = none ∧ b2 = b2 ∧ (none : Option Nat) = none ∧ b2 = b2 ∧ (none : Option Nat) = none ∧ b2 = b2 ∧ (none : Option Nat) = none ∧ (CallT Try.prog 75 #[.int .u64 100] [] Unit (fun _ => vI (100 : Int)) (fun _ => []) (fun _ => True)) ∧ (∃ zx : Unit, (fun _ => True) zx) ∧ ∀ _ : Unit, (True) → (CallT Try.prog 75 #[.int .u64 50] [] Unit (fun _ => vI (50 : Int)) (fun _ => []) (fun _ => True)) ∧ (∃ zx : Unit, (fun _ => True) zx) ∧ ∀ _ : Unit, (True) → (CallT Try.prog 50 #[vI (100 : Int), .agg #[.int .u64 0, .int .u64 0, .int .u64 0, .int .u64 0], vI (50 : Int)] [] (Int × Int) (fun zx => .tuple #[vI zx.1, .int .i64 zx.2]) (fun _ => []) (fun zx => R4 zx.1 ∧ zx = sIn (num (vI (100 : Int))) (num (vI (0 : Int))) (num (vI (50 : Int))))) ∧ (∃ zx : Int × Int, (fun zx => R4 zx.1 ∧ zx = sIn (num (vI (100 : Int))) (num (vI (0 : Int))) (num (vI (50 : Int)))) zx) ∧ ∀ x3 : Int × Int, (R4 x3.1 ∧ x3 = sIn (num (vI (100 : Int))) (num (vI (0 : Int))) (num (vI (50 : Int)))) → ∀ b4 : Nat, b4 = b4 ∧ (none : Option Nat) = none ∧ b4 = b4 ∧ (none : Option Nat) = none ∧ b4 = b4 ∧ (none : Option Nat) = none ∧ b4 = b4 ∧ (none : Option Nat) = none ∧ (∃ _ : Unit, True ∧ Value.bool (x1.2 == (0 : Int)) = .bool true) ∧ ∀ _ : Unit, (True) → true = true ∧ b2 = b2 ∧ (none : Option Nat) = none ∧ b2 = b2 ∧ (none : Option Nat) = none ∧ b2 = b2 ∧ (none : Option Nat) = none ∧ b2 = b2 ∧ (none : Option Nat) = none ∧ true = true ∧ (CallT Try.prog 75 #[.int .u64 5] [] Unit (fun _ => vI (5 : Int)) (fun _ => []) (fun _ => True)) ∧ (∃ zx : Unit, (fun _ => True) zx) ∧ ∀ _ : Unit, (True) → true = true ∧ (OpT Try.prog (xBin .eql 44 (vI x1.1) (vI (5 : Int))) [] Unit (fun _ => .bool true) (fun _ => []) (fun _ => True)) ∧ (∃ zx : Unit, (fun _ => True) zx) ∧ ∀ _ : Unit, (True) → true = true ∧ true = true ∧ (∃ _ : Unit, True ∧ Value.bool (x3.2 == (3 : Int)) = .bool true) ∧ ∀ _ : Unit, (True) → ∃ _ : Unit, (True) ∧ Value.bool true = .bool true ∧ True) := by kernel_rfl
set_option maxRecDepth 100000 in
theorem law16_lives   : CallT Try.prog 49 #[] [] Unit (fun _ => .bool true) (fun _ => []) (fun _ => True) := by
  refine call_of (c := bodyOf Try.f49) (n := 30) (fn := Try.f49) Try.mixed Try.func49 (by kernel_rfl) (by kernel_rfl) (by kernel_rfl) 2000 _ [] [] rfl rfl (Eq.mpr (law16_lives_vc ) ?_)
  refine ⟨huge_Of (5 : Int) (by first | assumption | exact W_lim _ _ | (unfold W; decide)), ⟨(), trivial⟩, ?_⟩
  intro _
  intro _
  refine ⟨share_In (0 : Int) (0 : Int) (5 : Int) (by unfold R4; decide) (by unfold R4; decide) (by unfold R4; decide), ⟨_, sIn_R (by first | exact R4_num _ | exact by unfold R4; decide) (by first | exact R4_num _ | exact by unfold R4; decide) (by first | exact R4_num _ | exact by unfold R4; decide), rfl⟩, ?_⟩
  intro x1
  intro h1
  obtain ⟨rh1_1, h1⟩ := h1
  try simp only [num_vI (n := (0 : Int)) (by unfold R4; decide), num_vI (n := (0 : Int)) (by unfold R4; decide), num_vI (n := (5 : Int)) (by unfold R4; decide)] at h1
  have h1 := h1
  replace h1 := h1.trans (show sIn 0 0 5 = (5, 0) from by decide +kernel)
  intro b2
  refine ⟨rfl, rfl, rfl, rfl, rfl, rfl, rfl, rfl, ?_⟩
  refine ⟨huge_Of (100 : Int) (by first | assumption | exact W_lim _ _ | (unfold W; decide)), ⟨(), trivial⟩, ?_⟩
  intro _
  intro _
  refine ⟨huge_Of (50 : Int) (by first | assumption | exact W_lim _ _ | (unfold W; decide)), ⟨(), trivial⟩, ?_⟩
  intro _
  intro _
  refine ⟨share_In (100 : Int) (0 : Int) (50 : Int) (by unfold R4; decide) (by unfold R4; decide) (by unfold R4; decide), ⟨_, sIn_R (by first | exact R4_num _ | exact by unfold R4; decide) (by first | exact R4_num _ | exact by unfold R4; decide) (by first | exact R4_num _ | exact by unfold R4; decide), rfl⟩, ?_⟩
  intro x3
  intro h2
  obtain ⟨rh2_1, h2⟩ := h2
  try simp only [num_vI (n := (100 : Int)) (by unfold R4; decide), num_vI (n := (0 : Int)) (by unfold R4; decide), num_vI (n := (50 : Int)) (by unfold R4; decide)] at h2
  have h2 := h2
  replace h2 := h2.trans (show sIn 100 0 50 = (0, 3) from by decide +kernel)
  intro b4
  refine ⟨rfl, rfl, rfl, rfl, rfl, rfl, rfl, rfl, ?_⟩
  refine ⟨⟨(), trivial, congrArg Value.bool (by rw [h1]; rfl)⟩, ?_⟩
  intro _
  intro _
  refine ⟨rfl, rfl, rfl, rfl, rfl, rfl, rfl, rfl, rfl, rfl, huge_Of (5 : Int) (by first | assumption | exact W_lim _ _ | (unfold W; decide)), ⟨(), trivial⟩, ?_⟩
  intro _
  intro _
  refine ⟨rfl, OpT.ofPure (Try.xeq44 x1.1 (5 : Int)) (congrArg Value.bool ((by rw [h1]; exact beq_self_eq_true _))), ⟨(), trivial⟩, ?_⟩
  intro _
  intro _
  refine ⟨rfl, rfl, ⟨(), trivial, congrArg Value.bool (by rw [h2]; rfl)⟩, ?_⟩
  intro _
  intro _
  exact ⟨(), trivial, rfl, trivial⟩

set_option maxRecDepth 100000 in
theorem law16_ShareIns_vc (A : Int) (S : Int) (n : Int) : codeW Try.prog 63 none 2000 none (bodyOf Try.f10) (.reg [.sem [.nw 0], .sem [.nw 1], .sem [.nw 2], .sem []] (.reg [.callr [] law16_lives_C, .sem []] (.condF (.reg [.sem [.rd 0, .rd 0, .rd 0, .rd 0], .sem [.rd 1, .rd 1, .rd 1, .rd 1], .sem [.rd 2, .rd 2, .rd 2, .rd 2], .callr [] share_In_C, .sem [], .sem [], .sem [], .sem [.nw 3], .sem [.wr 3, .wr 3, .wr 3, .wr 3], .sem []] (.reg [.sem [.rd 0, .rd 0, .rd 0, .rd 0], .sem [.rd 1, .rd 1, .rd 1, .rd 1], .sem [.rd 2, .rd 2, .rd 2, .rd 2], .callr [] ref16_In_C, .sem [], .sem [], .sem [], .sem [.nw 4], .sem [.wr 4, .wr 4, .wr 4, .wr 4], .sem []] (.reg [.sem [.rd 0, .rd 0, .rd 0, .rd 0], .sem [.rd 1, .rd 1, .rd 1, .rd 1], .sem [.rd 2, .rd 2, .rd 2, .rd 2], .callr [] share_Out_C, .sem [], .sem [], .sem [], .sem [.nw 5], .sem [.wr 5, .wr 5, .wr 5, .wr 5], .sem []] (.reg [.sem [.rd 0, .rd 0, .rd 0, .rd 0], .sem [.rd 1, .rd 1, .rd 1, .rd 1], .sem [.rd 2, .rd 2, .rd 2, .rd 2], .callr [] ref16_Out_C, .sem [], .sem [], .sem [], .sem [.nw 6], .sem [.wr 6, .wr 6, .wr 6, .wr 6], .sem []] (.reg [.sem [.rd 3, .rd 3, .rd 3, .rd 3], .sem [.rd 4, .rd 4, .rd 4, .rd 4], .specr [] (fun _ hs => ⟨Unit, fun _ => .bool true, fun _ => hs, fun _ => True⟩), .sem [], .sem [], .sem [], .gen [] (one (.bool true)), .sem [], .sem [], .sem [.rd 5, .rd 5, .rd 5, .rd 5], .sem [.rd 6, .rd 6, .rd 6, .rd 6], .specr [] (fun _ hs => ⟨Unit, fun _ => .bool true, fun _ => hs, fun _ => True⟩), .sem [], .sem [], .sem [], .sem [], .gen [] (one (.bool true)), .sem [], .sem []] (.done)))))))))
    (init #[vI A, vI S, vI n] []) (finW Try.prog Try.f10 [] [] (X := Unit) (fun _ => .bool true) (fun _ => []) (fun _ => True)) =
    (∀ b1 : Nat, ∀ b2 : Nat, ∀ b3 : Nat, (CallT Try.prog 49 #[] [] Unit (fun _ => .bool true) (fun _ => []) (fun _ => True)) ∧ (∃ zx : Unit, (fun _ => True) zx) ∧ ∀ _ : Unit, (True) → (false = false) ∧ b1 = b1 ∧ (none : Option Nat) = none ∧ b1 = b1 ∧ (none : Option Nat) = none ∧ b1 = b1 ∧ (none : Option Nat) = none ∧ b1 = b1 ∧ (none : Option Nat) = none ∧ b2 = b2 ∧ (none : Option Nat) = none ∧ b2 = b2 ∧ (none : Option Nat) = none ∧ b2 = b2 ∧ (none : Option Nat) = none ∧ b2 = b2 ∧ (none : Option Nat) = none ∧ b3 = b3 ∧ (none : Option Nat) = none ∧ b3 = b3 ∧ (none : Option Nat) = none ∧ b3 = b3 ∧ (none : Option Nat) = none ∧ b3 = b3 ∧ (none : Option Nat) = none ∧ (CallT Try.prog 50 #[vI A, vI S, vI n] [] (Int × Int) (fun zx => .tuple #[vI zx.1, .int .i64 zx.2]) (fun _ => []) (fun zx => R4 zx.1 ∧ zx = sIn (num (vI A)) (num (vI S)) (num (vI n)))) ∧ (∃ zx : Int × Int, (fun zx => R4 zx.1 ∧ zx = sIn (num (vI A)) (num (vI S)) (num (vI n))) zx) ∧ ∀ x4 : Int × Int, (R4 x4.1 ∧ x4 = sIn (num (vI A)) (num (vI S)) (num (vI n))) → ∀ b5 : Nat, b5 = b5 ∧ (none : Option Nat) = none ∧ b5 = b5 ∧ (none : Option Nat) = none ∧ b5 = b5 ∧ (none : Option Nat) = none ∧ b5 = b5 ∧ (none : Option Nat) = none ∧ b1 = b1 ∧ (none : Option Nat) = none ∧ b1 = b1 ∧ (none : Option Nat) = none ∧ b1 = b1 ∧ (none : Option Nat) = none ∧ b1 = b1 ∧ (none : Option Nat) = none ∧ b2 = b2 ∧ (none : Option Nat) = none ∧ b2 = b2 ∧ (none : Option Nat) = none ∧ b2 = b2 ∧ (none : Option Nat) = none ∧ b2 = b2 ∧ (none : Option Nat) = none ∧ b3 = b3 ∧ (none : Option Nat) = none ∧ b3 = b3 ∧ (none : Option Nat) = none ∧ b3 = b3 ∧ (none : Option Nat) = none ∧ b3 = b3 ∧ (none : Option Nat) = none ∧ (CallT Try.prog 51 #[vI A, vI S, vI n] [] (Int × Int) (fun zx => .tuple #[vI zx.1, .int .i64 zx.2]) (fun _ => []) (fun zx => R4 zx.1 ∧ zx = sIn (num (vI A)) (num (vI S)) (num (vI n)))) ∧ (∃ zx : Int × Int, (fun zx => R4 zx.1 ∧ zx = sIn (num (vI A)) (num (vI S)) (num (vI n))) zx) ∧ ∀ x6 : Int × Int, (R4 x6.1 ∧ x6 = sIn (num (vI A)) (num (vI S)) (num (vI n))) → ∀ b7 : Nat, b7 = b7 ∧ (none : Option Nat) = none ∧ b7 = b7 ∧ (none : Option Nat) = none ∧ b7 = b7 ∧ (none : Option Nat) = none ∧ b7 = b7 ∧ (none : Option Nat) = none ∧ b1 = b1 ∧ (none : Option Nat) = none ∧ b1 = b1 ∧ (none : Option Nat) = none ∧ b1 = b1 ∧ (none : Option Nat) = none ∧ b1 = b1 ∧ (none : Option Nat) = none ∧ b2 = b2 ∧ (none : Option Nat) = none ∧ b2 = b2 ∧ (none : Option Nat) = none ∧ b2 = b2 ∧ (none : Option Nat) = none ∧ b2 = b2 ∧ (none : Option Nat) = none ∧ b3 = b3 ∧ (none : Option Nat) = none ∧ b3 = b3 ∧ (none : Option Nat) = none ∧ b3 = b3 ∧ (none : Option Nat) = none ∧ b3 = b3 ∧ (none : Option Nat) = none ∧ (CallT Try.prog 52 #[vI A, vI S, vI n] [] (Int × Int) (fun zx => .tuple #[vI zx.1, .int .i64 zx.2]) (fun _ => []) (fun zx => R4 zx.1 ∧ zx = sOut (num (vI A)) (num (vI S)) (num (vI n)))) ∧ (∃ zx : Int × Int, (fun zx => R4 zx.1 ∧ zx = sOut (num (vI A)) (num (vI S)) (num (vI n))) zx) ∧ ∀ x8 : Int × Int, (R4 x8.1 ∧ x8 = sOut (num (vI A)) (num (vI S)) (num (vI n))) → ∀ b9 : Nat, b9 = b9 ∧ (none : Option Nat) = none ∧ b9 = b9 ∧ (none : Option Nat) = none ∧ b9 = b9 ∧ (none : Option Nat) = none ∧ b9 = b9 ∧ (none : Option Nat) = none ∧ b1 = b1 ∧ (none : Option Nat) = none ∧ b1 = b1 ∧ (none : Option Nat) = none ∧ b1 = b1 ∧ (none : Option Nat) = none ∧ b1 = b1 ∧ (none : Option Nat) = none ∧ b2 = b2 ∧ (none : Option Nat) = none ∧ b2 = b2 ∧ (none : Option Nat) = none ∧ b2 = b2 ∧ (none : Option Nat) = none ∧ b2 = b2 ∧ (none : Option Nat) = none ∧ b3 = b3 ∧ (none : Option Nat) = none ∧ b3 = b3 ∧ (none : Option Nat) = none ∧ b3 = b3 ∧ (none : Option Nat) = none ∧ b3 = b3 ∧ (none : Option Nat) = none ∧ (CallT Try.prog 53 #[vI A, vI S, vI n] [] (Int × Int) (fun zx => .tuple #[vI zx.1, .int .i64 zx.2]) (fun _ => []) (fun zx => R4 zx.1 ∧ zx = sOut (num (vI A)) (num (vI S)) (num (vI n)))) ∧ (∃ zx : Int × Int, (fun zx => R4 zx.1 ∧ zx = sOut (num (vI A)) (num (vI S)) (num (vI n))) zx) ∧ ∀ x10 : Int × Int, (R4 x10.1 ∧ x10 = sOut (num (vI A)) (num (vI S)) (num (vI n))) → ∀ b11 : Nat, b11 = b11 ∧ (none : Option Nat) = none ∧ b11 = b11 ∧ (none : Option Nat) = none ∧ b11 = b11 ∧ (none : Option Nat) = none ∧ b11 = b11 ∧ (none : Option Nat) = none ∧ b5 = b5 ∧ (none : Option Nat) = none ∧ b5 = b5 ∧ (none : Option Nat) = none ∧ b5 = b5 ∧ (none : Option Nat) = none ∧ b5 = b5 ∧ (none : Option Nat) = none ∧ b7 = b7 ∧ (none : Option Nat) = none ∧ b7 = b7 ∧ (none : Option Nat) = none ∧ b7 = b7 ∧ (none : Option Nat) = none ∧ b7 = b7 ∧ (none : Option Nat) = none ∧ (OpT Try.prog (xBin .eql 44 (vI x4.1) (vI x6.1)) [] Unit (fun _ => .bool true) (fun _ => []) (fun _ => True)) ∧ (∃ zx : Unit, (fun _ => True) zx) ∧ ∀ _ : Unit, (True) → true = true ∧ true = true ∧ true = true ∧ (∃ _ : Unit, True ∧ Value.bool (x4.2 == x6.2) = .bool true) ∧ ∀ _ : Unit, (True) → true = true ∧ b9 = b9 ∧ (none : Option Nat) = none ∧ b9 = b9 ∧ (none : Option Nat) = none ∧ b9 = b9 ∧ (none : Option Nat) = none ∧ b9 = b9 ∧ (none : Option Nat) = none ∧ true = true ∧ b11 = b11 ∧ (none : Option Nat) = none ∧ b11 = b11 ∧ (none : Option Nat) = none ∧ b11 = b11 ∧ (none : Option Nat) = none ∧ b11 = b11 ∧ (none : Option Nat) = none ∧ true = true ∧ (OpT Try.prog (xBin .eql 44 (vI x8.1) (vI x10.1)) [] Unit (fun _ => .bool true) (fun _ => []) (fun _ => True)) ∧ (∃ zx : Unit, (fun _ => True) zx) ∧ ∀ _ : Unit, (True) → true = true ∧ true = true ∧ true = true ∧ (∃ _ : Unit, True ∧ Value.bool (x8.2 == x10.2) = .bool true) ∧ ∀ _ : Unit, (True) → ∃ _ : Unit, (True) ∧ Value.bool true = .bool true ∧ True) := by kernel_rfl
set_option maxRecDepth 100000 in
theorem law16_ShareIns (A : Int) (S : Int) (n : Int) (r_A : R4 A) (r_S : R4 S) (r_n : R4 n) : CallT Try.prog 10 #[vI A, vI S, vI n] [] Unit (fun _ => .bool true) (fun _ => []) (fun _ => True) := by
  refine call_of (c := bodyOf Try.f10) (n := 63) (fn := Try.f10) Try.mixed Try.func10 (by kernel_rfl) (by kernel_rfl) (by kernel_rfl) 2000 _ [] [] rfl rfl (Eq.mpr (law16_ShareIns_vc A S n) ?_)
  intro b1
  intro b2
  intro b3
  refine ⟨law16_lives, ⟨(), trivial⟩, ?_⟩
  intro _
  intro _
  refine ⟨rfl, ?_⟩
  refine ⟨rfl, rfl, rfl, rfl, rfl, rfl, rfl, rfl, rfl, rfl, rfl, rfl, rfl, rfl, rfl, rfl, rfl, rfl, rfl, rfl, rfl, rfl, rfl, rfl, share_In A S n (by assumption) (by assumption) (by assumption), ⟨_, sIn_R (by first | exact R4_num _ | exact by assumption) (by first | exact R4_num _ | exact by assumption) (by first | exact R4_num _ | exact by assumption), rfl⟩, ?_⟩
  intro x4
  intro h1
  obtain ⟨rh1_1, h1⟩ := h1
  try simp only [num_vI (n := A) (by assumption), num_vI (n := S) (by assumption), num_vI (n := n) (by assumption)] at h1
  have h1 := h1
  intro b5
  refine ⟨rfl, rfl, rfl, rfl, rfl, rfl, rfl, rfl, ?_⟩
  refine ⟨rfl, rfl, rfl, rfl, rfl, rfl, rfl, rfl, rfl, rfl, rfl, rfl, rfl, rfl, rfl, rfl, rfl, rfl, rfl, rfl, rfl, rfl, rfl, rfl, ref16_In A S n (by assumption) (by assumption) (by assumption), ⟨_, sIn_R (by first | exact R4_num _ | exact by assumption) (by first | exact R4_num _ | exact by assumption) (by first | exact R4_num _ | exact by assumption), rfl⟩, ?_⟩
  intro x6
  intro h2
  obtain ⟨rh2_1, h2⟩ := h2
  try simp only [num_vI (n := A) (by assumption), num_vI (n := S) (by assumption), num_vI (n := n) (by assumption)] at h2
  have h2 := h2
  intro b7
  refine ⟨rfl, rfl, rfl, rfl, rfl, rfl, rfl, rfl, ?_⟩
  refine ⟨rfl, rfl, rfl, rfl, rfl, rfl, rfl, rfl, rfl, rfl, rfl, rfl, rfl, rfl, rfl, rfl, rfl, rfl, rfl, rfl, rfl, rfl, rfl, rfl, share_Out A S n (by assumption) (by assumption) (by assumption), ⟨_, sOut_R (by first | exact R4_num _ | exact by assumption) (by first | exact R4_num _ | exact by assumption) (by first | exact R4_num _ | exact by assumption), rfl⟩, ?_⟩
  intro x8
  intro h3
  obtain ⟨rh3_1, h3⟩ := h3
  try simp only [num_vI (n := A) (by assumption), num_vI (n := S) (by assumption), num_vI (n := n) (by assumption)] at h3
  have h3 := h3
  intro b9
  refine ⟨rfl, rfl, rfl, rfl, rfl, rfl, rfl, rfl, ?_⟩
  refine ⟨rfl, rfl, rfl, rfl, rfl, rfl, rfl, rfl, rfl, rfl, rfl, rfl, rfl, rfl, rfl, rfl, rfl, rfl, rfl, rfl, rfl, rfl, rfl, rfl, ref16_Out A S n (by assumption) (by assumption) (by assumption), ⟨_, sOut_R (by first | exact R4_num _ | exact by assumption) (by first | exact R4_num _ | exact by assumption) (by first | exact R4_num _ | exact by assumption), rfl⟩, ?_⟩
  intro x10
  intro h4
  obtain ⟨rh4_1, h4⟩ := h4
  try simp only [num_vI (n := A) (by assumption), num_vI (n := S) (by assumption), num_vI (n := n) (by assumption)] at h4
  have h4 := h4
  intro b11
  refine ⟨rfl, rfl, rfl, rfl, rfl, rfl, rfl, rfl, ?_⟩
  refine ⟨rfl, rfl, rfl, rfl, rfl, rfl, rfl, rfl, rfl, rfl, rfl, rfl, rfl, rfl, rfl, rfl, OpT.ofPure (Try.xeq44 x4.1 x6.1) (congrArg Value.bool ((by rw [h1, h2]; exact beq_self_eq_true _))), ⟨(), trivial⟩, ?_⟩
  intro _
  intro _
  refine ⟨rfl, rfl, rfl, ⟨(), trivial, congrArg Value.bool (by rw [h1, h2]; exact beq_self_eq_true _)⟩, ?_⟩
  intro _
  intro _
  refine ⟨rfl, rfl, rfl, rfl, rfl, rfl, rfl, rfl, rfl, rfl, rfl, rfl, rfl, rfl, rfl, rfl, rfl, rfl, rfl, OpT.ofPure (Try.xeq44 x8.1 x10.1) (congrArg Value.bool ((by rw [h3, h4]; exact beq_self_eq_true _))), ⟨(), trivial⟩, ?_⟩
  intro _
  intro _
  refine ⟨rfl, rfl, rfl, ⟨(), trivial, congrArg Value.bool (by rw [h3, h4]; exact beq_self_eq_true _)⟩, ?_⟩
  intro _
  intro _
  exact ⟨(), trivial, rfl, trivial⟩

end Go.Proofs
