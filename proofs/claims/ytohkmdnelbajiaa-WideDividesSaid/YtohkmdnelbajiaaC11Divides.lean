/- Contracts of this program's functions, and their proofs, printed by a program of the prover's own (see the claim's other texts for what the words mean). -/
import Derived.Test.YtohkmdnelbajiaaSxB21
import Derived.Test.YtohkmdnelbajiaaC10
set_option linter.unusedVariables false
set_option linter.unusedSimpArgs false
namespace Go.Proofs
open Go.Sx
def law3_WideDivides_C : List Value → List Slot → Ctr := fun vs hs => ⟨Unit, fun _ => .bool true, fun _ => hs, fun _ => True⟩
set_option maxRecDepth 100000 in
theorem law3_WideDivides_vc (n : Int) (d : Int) : codeW Try.prog 60 none 2000 none (bodyOf Try.f6) (.reg [.sem [.nw 0], .sem [.nw 1], .sem []] (.reg [.callr [] law3_lives_C, .sem []] (.condF (.reg [.sem [.rd 0, .rd 0, .rd 0, .rd 0, .rd 0, .rd 0, .rd 0, .rd 0], .sem [.rd 1, .rd 1, .rd 1, .rd 1], .callr [] wide_Divide_C, .sem [], .sem [], .sem [], .sem [], .sem [.nw 2], .sem [.nw 3], .sem [.wr 2, .wr 2, .wr 2, .wr 2, .wr 2, .wr 2, .wr 2, .wr 2], .sem [.wr 3, .wr 3, .wr 3, .wr 3], .sem []] (.reg [.sem [.rd 1, .rd 1, .rd 1, .rd 1], .callw [] [4] ref2_Row_C, .sem []] (.reg [.sem [], .eq (f_len), .sem []] (.cond (.reg [.sem [], .gen [] (one (.bool true)), .sem [], .sem [.rd 2, .rd 2, .rd 2, .rd 2, .rd 2, .rd 2, .rd 2, .rd 2], .sem [], .specr [] (fun _ hs => ⟨Unit, fun _ => .bool true, fun _ => hs, fun _ => True⟩), .sem [], .sem [], .sem [.rd 3, .rd 3, .rd 3, .rd 3], .sem [], .specr [] (fun _ hs => ⟨Unit, fun _ => .bool true, fun _ => hs, fun _ => True⟩), .sem [], .sem []] (.done)) (.reg [.sem [.rd 0, .rd 0, .rd 0, .rd 0, .rd 0, .rd 0, .rd 0, .rd 0], .callw [] [5] law3_row_C, .sem [], .callw [5, 4] [5, 4, 6, 7] ref1_Div_C, .sem [], .sem [], .sem [], .sem [], .sem []] (.reg [.sem [], .gen [] (one (.bool true)), .sem [], .sem [.rd 2, .rd 2, .rd 2, .rd 2, .rd 2, .rd 2, .rd 2, .rd 2], .callw [] [8] law3_row_C, .sem [], .callr [8, 6] ref1_Cmp_C, .gen [] (one (.bool true)), .sem [], .sem [], .sem [.rd 3, .rd 3, .rd 3, .rd 3], .callw [] [9] ref2_Row_C, .sem [], .callr [9, 7] ref1_Cmp_C, .gen [] (one (.bool true)), .sem [], .sem []] (.done))))))))))
    (init #[vW n, vI d] []) (finW Try.prog Try.f6 [] [] (X := Unit) (fun _ => .bool true) (fun _ => []) (fun _ => True)) =
    (∀ b1 : Nat, ∀ b2 : Nat, (CallT Try.prog 28 #[] [] Unit (fun _ => .bool true) (fun _ => []) (fun _ => True)) ∧ (∃ zx : Unit, (fun _ => True) zx) ∧ ∀ _ : Unit, (True) → (false = false) ∧ b1 = b1 ∧ (none : Option Nat) = none ∧ b1 = b1 ∧ (none : Option Nat) = none ∧ b1 = b1 ∧ (none : Option Nat) = none ∧ b1 = b1 ∧ (none : Option Nat) = none ∧ b1 = b1 ∧ (none : Option Nat) = none ∧ b1 = b1 ∧ (none : Option Nat) = none ∧ b1 = b1 ∧ (none : Option Nat) = none ∧ b1 = b1 ∧ (none : Option Nat) = none ∧ b2 = b2 ∧ (none : Option Nat) = none ∧ b2 = b2 ∧ (none : Option Nat) = none ∧ b2 = b2 ∧ (none : Option Nat) = none ∧ b2 = b2 ∧ (none : Option Nat) = none ∧ (CallT Try.prog 32 #[vW n, vI d] [] (Int × Int × Int) (fun zx => .tuple #[vW zx.1, vI zx.2.1, .int .i64 zx.2.2]) (fun _ => []) (fun zx => R8 zx.1 ∧ R4 zx.2.1 ∧ zx = wDiv (num (vW n)) (num (vI d)))) ∧ (∃ zx : Int × Int × Int, (fun zx => R8 zx.1 ∧ R4 zx.2.1 ∧ zx = wDiv (num (vW n)) (num (vI d))) zx) ∧ ∀ x3 : Int × Int × Int, (R8 x3.1 ∧ R4 x3.2.1 ∧ x3 = wDiv (num (vW n)) (num (vI d))) → ∀ b4 : Nat, ∀ b5 : Nat, b4 = b4 ∧ (none : Option Nat) = none ∧ b4 = b4 ∧ (none : Option Nat) = none ∧ b4 = b4 ∧ (none : Option Nat) = none ∧ b4 = b4 ∧ (none : Option Nat) = none ∧ b4 = b4 ∧ (none : Option Nat) = none ∧ b4 = b4 ∧ (none : Option Nat) = none ∧ b4 = b4 ∧ (none : Option Nat) = none ∧ b4 = b4 ∧ (none : Option Nat) = none ∧ b5 = b5 ∧ (none : Option Nat) = none ∧ b5 = b5 ∧ (none : Option Nat) = none ∧ b5 = b5 ∧ (none : Option Nat) = none ∧ b5 = b5 ∧ (none : Option Nat) = none ∧ b2 = b2 ∧ (none : Option Nat) = none ∧ b2 = b2 ∧ (none : Option Nat) = none ∧ b2 = b2 ∧ (none : Option Nat) = none ∧ b2 = b2 ∧ (none : Option Nat) = none ∧ (CallT Try.prog 20 #[vI d] [] Row (fun zx => sv zx) (fun zx => [(ss 3 zx)]) (fun zx => RowOK zx ∧ nv (dg zx) = (num (vI d)) ∧ Canon (dg zx) ∧ (dg zx).length ≤ 16)) ∧ (∃ zx : Row, (fun zx => RowOK zx ∧ nv (dg zx) = (num (vI d)) ∧ Canon (dg zx) ∧ (dg zx).length ≤ 16) zx) ∧ ∀ x6 : Row, (RowOK x6 ∧ nv (dg x6) = (num (vI d)) ∧ Canon (dg x6) ∧ (dg x6).length ≤ 16) → (PureRun Try.prog (do pure (.value (← Builtin.len_ #[41] 3 #[sv x6]))) (.int .i64 ((vlen (sv x6) : Nat) : Int))) ∧ ((((vlen (sv x6) : Nat) : Int) == (0 : Int)) = true → (∃ _ : Unit, True ∧ Value.bool (x3.2.2 == (3 : Int)) = .bool true) ∧ ∀ _ : Unit, (True) → true = true ∧ b4 = b4 ∧ (none : Option Nat) = none ∧ b4 = b4 ∧ (none : Option Nat) = none ∧ b4 = b4 ∧ (none : Option Nat) = none ∧ b4 = b4 ∧ (none : Option Nat) = none ∧ b4 = b4 ∧ (none : Option Nat) = none ∧ b4 = b4 ∧ (none : Option Nat) = none ∧ b4 = b4 ∧ (none : Option Nat) = none ∧ b4 = b4 ∧ (none : Option Nat) = none ∧ true = true ∧ true = true ∧ (OpT Try.prog (xBin .eql 56 (vW x3.1) (vW 0)) [] Unit (fun _ => .bool true) (fun _ => []) (fun _ => True)) ∧ (∃ zx : Unit, (fun _ => True) zx) ∧ ∀ _ : Unit, (True) → true = true ∧ b5 = b5 ∧ (none : Option Nat) = none ∧ b5 = b5 ∧ (none : Option Nat) = none ∧ b5 = b5 ∧ (none : Option Nat) = none ∧ b5 = b5 ∧ (none : Option Nat) = none ∧ true = true ∧ true = true ∧ (OpT Try.prog (xBin .eql 44 (vI x3.2.1) (vI 0)) [] Unit (fun _ => .bool true) (fun _ => []) (fun _ => True)) ∧ (∃ zx : Unit, (fun _ => True) zx) ∧ ∀ _ : Unit, (True) → ∃ _ : Unit, (True) ∧ Value.bool true = .bool true ∧ True) ∧ ((((vlen (sv x6) : Nat) : Int) == (0 : Int)) = false → b1 = b1 ∧ (none : Option Nat) = none ∧ b1 = b1 ∧ (none : Option Nat) = none ∧ b1 = b1 ∧ (none : Option Nat) = none ∧ b1 = b1 ∧ (none : Option Nat) = none ∧ b1 = b1 ∧ (none : Option Nat) = none ∧ b1 = b1 ∧ (none : Option Nat) = none ∧ b1 = b1 ∧ (none : Option Nat) = none ∧ b1 = b1 ∧ (none : Option Nat) = none ∧ (CallT Try.prog 30 #[vW n] [] Row (fun zx => sv zx) (fun zx => [(ss 3 zx)]) (fun zx => RowOK zx ∧ nv (dg zx) = (num (vW n)) ∧ Canon (dg zx) ∧ (dg zx).length ≤ 64)) ∧ (∃ zx : Row, (fun zx => RowOK zx ∧ nv (dg zx) = (num (vW n)) ∧ Canon (dg zx) ∧ (dg zx).length ≤ 64) zx) ∧ ∀ x7 : Row, (RowOK x7 ∧ nv (dg x7) = (num (vW n)) ∧ Canon (dg x7) ∧ (dg x7).length ≤ 64) → (CallT Try.prog 33 #[sv x7, sv x6] [(ss 3 x7), (ss 3 x6)] (Row × Row) (fun zx => .tuple #[sv zx.1, sv zx.2]) (fun zx => [(ss 3 x7), (ss 3 x6), (ss 3 zx.1), (ss 3 zx.2)]) (fun zx => RowOK zx.1 ∧ RowOK zx.2 ∧ nv (dg zx.1) = nv (rdv (sv x7) (ss 3 x7)) / nv (rdv (sv x6) (ss 3 x6)) ∧ nv (dg zx.2) = nv (rdv (sv x7) (ss 3 x7)) % nv (rdv (sv x6) (ss 3 x6)) ∧ Canon (dg zx.1) ∧ Canon (dg zx.2))) ∧ (∃ zx : Row × Row, (fun zx => RowOK zx.1 ∧ RowOK zx.2 ∧ nv (dg zx.1) = nv (rdv (sv x7) (ss 3 x7)) / nv (rdv (sv x6) (ss 3 x6)) ∧ nv (dg zx.2) = nv (rdv (sv x7) (ss 3 x7)) % nv (rdv (sv x6) (ss 3 x6)) ∧ Canon (dg zx.1) ∧ Canon (dg zx.2)) zx) ∧ ∀ x8 : Row × Row, (RowOK x8.1 ∧ RowOK x8.2 ∧ nv (dg x8.1) = nv (rdv (sv x7) (ss 3 x7)) / nv (rdv (sv x6) (ss 3 x6)) ∧ nv (dg x8.2) = nv (rdv (sv x7) (ss 3 x7)) % nv (rdv (sv x6) (ss 3 x6)) ∧ Canon (dg x8.1) ∧ Canon (dg x8.2)) → (∃ _ : Unit, True ∧ Value.bool (x3.2.2 == (0 : Int)) = .bool true) ∧ ∀ _ : Unit, (True) → true = true ∧ b4 = b4 ∧ (none : Option Nat) = none ∧ b4 = b4 ∧ (none : Option Nat) = none ∧ b4 = b4 ∧ (none : Option Nat) = none ∧ b4 = b4 ∧ (none : Option Nat) = none ∧ b4 = b4 ∧ (none : Option Nat) = none ∧ b4 = b4 ∧ (none : Option Nat) = none ∧ b4 = b4 ∧ (none : Option Nat) = none ∧ b4 = b4 ∧ (none : Option Nat) = none ∧ true = true ∧ (CallT Try.prog 30 #[vW x3.1] [] Row (fun zx => sv zx) (fun zx => [(ss 3 zx)]) (fun zx => RowOK zx ∧ nv (dg zx) = (num (vW x3.1)) ∧ Canon (dg zx) ∧ (dg zx).length ≤ 64)) ∧ (∃ zx : Row, (fun zx => RowOK zx ∧ nv (dg zx) = (num (vW x3.1)) ∧ Canon (dg zx) ∧ (dg zx).length ≤ 64) zx) ∧ ∀ x9 : Row, (RowOK x9 ∧ nv (dg x9) = (num (vW x3.1)) ∧ Canon (dg x9) ∧ (dg x9).length ≤ 64) → true = true ∧ true = true ∧ (CallT Try.prog 27 #[sv x9, sv x8.1] [(ss 3 x9), (ss 3 x8.1)] Int (fun zx => .int .i64 zx) (fun _ => [(ss 3 x9), (ss 3 x8.1)]) (fun zx => zx = hCmp (nv (rdv (sv x9) (ss 3 x9))) (nv (rdv (sv x8.1) (ss 3 x8.1))))) ∧ (∃ zx : Int, (fun zx => zx = hCmp (nv (rdv (sv x9) (ss 3 x9))) (nv (rdv (sv x8.1) (ss 3 x8.1)))) zx) ∧ ∀ x10 : Int, (x10 = hCmp (nv (rdv (sv x9) (ss 3 x9))) (nv (rdv (sv x8.1) (ss 3 x8.1)))) → true = true ∧ (∃ _ : Unit, True ∧ Value.bool (x10 == (0 : Int)) = .bool true) ∧ ∀ _ : Unit, (True) → true = true ∧ b5 = b5 ∧ (none : Option Nat) = none ∧ b5 = b5 ∧ (none : Option Nat) = none ∧ b5 = b5 ∧ (none : Option Nat) = none ∧ b5 = b5 ∧ (none : Option Nat) = none ∧ true = true ∧ (CallT Try.prog 20 #[vI x3.2.1] [] Row (fun zx => sv zx) (fun zx => [(ss 3 zx)]) (fun zx => RowOK zx ∧ nv (dg zx) = (num (vI x3.2.1)) ∧ Canon (dg zx) ∧ (dg zx).length ≤ 16)) ∧ (∃ zx : Row, (fun zx => RowOK zx ∧ nv (dg zx) = (num (vI x3.2.1)) ∧ Canon (dg zx) ∧ (dg zx).length ≤ 16) zx) ∧ ∀ x11 : Row, (RowOK x11 ∧ nv (dg x11) = (num (vI x3.2.1)) ∧ Canon (dg x11) ∧ (dg x11).length ≤ 16) → true = true ∧ true = true ∧ (CallT Try.prog 27 #[sv x11, sv x8.2] [(ss 3 x11), (ss 3 x8.2)] Int (fun zx => .int .i64 zx) (fun _ => [(ss 3 x11), (ss 3 x8.2)]) (fun zx => zx = hCmp (nv (rdv (sv x11) (ss 3 x11))) (nv (rdv (sv x8.2) (ss 3 x8.2))))) ∧ (∃ zx : Int, (fun zx => zx = hCmp (nv (rdv (sv x11) (ss 3 x11))) (nv (rdv (sv x8.2) (ss 3 x8.2)))) zx) ∧ ∀ x12 : Int, (x12 = hCmp (nv (rdv (sv x11) (ss 3 x11))) (nv (rdv (sv x8.2) (ss 3 x8.2)))) → true = true ∧ (∃ _ : Unit, True ∧ Value.bool (x12 == (0 : Int)) = .bool true) ∧ ∀ _ : Unit, (True) → ∃ _ : Unit, (True) ∧ Value.bool true = .bool true ∧ True)) := by kernel_rfl
set_option maxRecDepth 100000 in
theorem law3_WideDivides (n : Int) (d : Int) (r_n : R8 n) (r_d : R4 d) : CallT Try.prog 6 #[vW n, vI d] [] Unit (fun _ => .bool true) (fun _ => []) (fun _ => True) := by
  refine call_of (c := bodyOf Try.f6) (n := 60) (fn := Try.f6) Try.mixed Try.func6 (by kernel_rfl) (by kernel_rfl) (by kernel_rfl) 2000 _ [] [] rfl rfl (Eq.mpr (law3_WideDivides_vc n d) ?_)
  intro b1
  intro b2
  refine ⟨law3_lives, ⟨(), trivial⟩, ?_⟩
  intro _
  intro _
  refine ⟨rfl, ?_⟩
  refine ⟨rfl, rfl, rfl, rfl, rfl, rfl, rfl, rfl, rfl, rfl, rfl, rfl, rfl, rfl, rfl, rfl, rfl, rfl, rfl, rfl, rfl, rfl, rfl, rfl, wide_Divide n d (by assumption) (by assumption), ⟨wDiv _ _, wDiv_R8 (by first | exact R8_num _ | exact by assumption) (R4_num _), wDiv_R4 (R4_num _), rfl⟩, ?_⟩
  intro x3
  intro h1
  obtain ⟨rh1_1, h1⟩ := h1
  obtain ⟨rh1_21, h1⟩ := h1
  try simp only [num_vW (n := n) (by assumption), num_vI (n := d) (by assumption)] at h1
  have hx : x3 = wDiv n d := h1
  intro b4
  intro b5
  refine ⟨rfl, rfl, rfl, rfl, rfl, rfl, rfl, rfl, rfl, rfl, rfl, rfl, rfl, rfl, rfl, rfl, rfl, rfl, rfl, rfl, rfl, rfl, rfl, rfl, ?_⟩
  refine ⟨rfl, rfl, rfl, rfl, rfl, rfl, rfl, rfl, ref2_Row d (by assumption), wit_num (by first | exact R4_num _ | exact by assumption), ?_⟩
  intro x6
  intro h2
  obtain ⟨rh2_, h2⟩ := h2
  try simp only [num_vI (n := d) (by assumption)] at h2
  have hd := h2
  have okhd : RowOK x6 := by assumption
  have ehd := vlen_dg x6
  have chd := canon_pos okhd.dig hd.2.1
  have lhd := hd.2.2
  refine ⟨xlen Try.sl41 3 x6, ?_⟩
  refine ⟨fun h3 => ?_, fun h3 => ?_⟩
  · have hz : d = 0 := by
      have := chd.1 (by simp only [decide_eq_true_eq, decide_eq_false_iff_not, gt_iff_lt, ge_iff_le, beq_iff_eq, beq_eq_false_iff_ne] at *; omega)
      rw [hd.1] at this; exact this
    have hw := hx
    rw [hz] at hw
    have hw := hw.trans (show wDiv n 0 = (0, 0, 3) from rfl)
    refine ⟨⟨(), trivial, congrArg Value.bool (by rw [hw]; rfl)⟩, ?_⟩
    intro _
    intro _
    refine ⟨rfl, rfl, rfl, rfl, rfl, rfl, rfl, rfl, rfl, rfl, rfl, rfl, rfl, rfl, rfl, rfl, rfl, rfl, rfl, OpT.ofPure (Try.xeq56 x3.1 0) (congrArg Value.bool ((by rw [hw]; exact beq_self_eq_true _))), ⟨(), trivial⟩, ?_⟩
    intro _
    intro _
    refine ⟨rfl, rfl, rfl, rfl, rfl, rfl, rfl, rfl, rfl, rfl, rfl, OpT.ofPure (Try.xeq44 x3.2.1 0) (congrArg Value.bool ((by rw [hw]; exact beq_self_eq_true _))), ⟨(), trivial⟩, ?_⟩
    intro _
    intro _
    exact ⟨(), trivial, rfl, trivial⟩
  · have hnz : ¬ d = 0 := fun h0 => by
      have := chd.2 (by rw [hd.1]; exact h0)
      simp only [decide_eq_true_eq, decide_eq_false_iff_not, gt_iff_lt, ge_iff_le, beq_iff_eq, beq_eq_false_iff_ne] at *
      omega
    have dpos : 0 < d := by have := r_d.1; omega
    have hw := hx.trans (if_neg hnz)
    have hD0 := trivial
    refine ⟨rfl, rfl, rfl, rfl, rfl, rfl, rfl, rfl, rfl, rfl, rfl, rfl, rfl, rfl, rfl, rfl, law3_row n (by assumption), wit_wide (by first | exact R8_num _ | exact by assumption), ?_⟩
    intro x7
    intro h4
    obtain ⟨rh4_, h4⟩ := h4
    try simp only [num_vW (n := n) (by assumption)] at h4
    have hN := h4
    have okhN : RowOK x7 := by assumption
    have ehN := vlen_dg x7
    have chN := canon_pos okhN.dig hN.2.1
    have lhN := hN.2.2
    refine ⟨ref1_Div x7 x6 (by first | assumption | exact rowOK_lit _ _ (by decide)) (by first | assumption | exact rowOK_lit _ _ (by decide)) (by omega) (by omega) (by rw [hd.1]; exact dpos), wit_rdiv (by rw [rdv_eq x7]; exact nv_nonneg (RowOK.dig (by first | assumption | exact rowOK_lit _ _ (by decide)))) (by rw [rdv_eq x6]; omega), ?_⟩
    intro x8
    intro h5
    simp only [rdv_eq] at h5
    obtain ⟨rh5_1, h5⟩ := h5
    obtain ⟨rh5_2, h5⟩ := h5
    have hD := h5
    rw [hN.1, hd.1] at hD
    have lD1 : (dg x8.1).length ≤ 64 := len40 (RowOK.dig (by assumption)) hD.2.2.1 hD.1 (wide_num (quo_R8 r_n dpos))
    have lD2 : (dg x8.2).length ≤ 16 := num_len (RowOK.dig (by assumption)) hD.2.2.2 hD.2.1 (rem_R4 r_d dpos)
    refine ⟨⟨(), trivial, congrArg Value.bool (by rw [hw]; rfl)⟩, ?_⟩
    intro _
    intro _
    refine ⟨rfl, rfl, rfl, rfl, rfl, rfl, rfl, rfl, rfl, rfl, rfl, rfl, rfl, rfl, rfl, rfl, rfl, rfl, law3_row x3.1 (by assumption), wit_wide (by first | exact R8_num _ | exact by assumption), ?_⟩
    intro x9
    intro h6
    obtain ⟨rh6_, h6⟩ := h6
    try simp only [num_vW (n := x3.1) (by assumption)] at h6
    have hQ := h6
    have okhQ : RowOK x9 := by assumption
    have ehQ := vlen_dg x9
    have chQ := canon_pos okhQ.dig hQ.2.1
    have lhQ := hQ.2.2
    refine ⟨rfl, rfl, ref1_Cmp x9 x8.1 (by first | assumption | exact rowOK_lit _ _ (by decide)) (by first | assumption | exact rowOK_lit _ _ (by decide)) (by omega) (by omega), ⟨_, rfl⟩, ?_⟩
    intro x10
    intro h7
    simp only [rdv_eq] at h7
    have hC1 := h7
    refine ⟨rfl, ⟨(), trivial, congrArg Value.bool (by rw [hC1, hQ.1, hD.1, hw]; exact beq_iff_eq.2 (hCmp_eq rfl).symm)⟩, ?_⟩
    intro _
    intro _
    refine ⟨rfl, rfl, rfl, rfl, rfl, rfl, rfl, rfl, rfl, rfl, ref2_Row x3.2.1 (by assumption), wit_num (by first | exact R4_num _ | exact by assumption), ?_⟩
    intro x11
    intro h8
    obtain ⟨rh8_, h8⟩ := h8
    try simp only [num_vI (n := x3.2.1) (by assumption)] at h8
    have hR := h8
    have okhR : RowOK x11 := by assumption
    have ehR := vlen_dg x11
    have chR := canon_pos okhR.dig hR.2.1
    have lhR := hR.2.2
    refine ⟨rfl, rfl, ref1_Cmp x11 x8.2 (by first | assumption | exact rowOK_lit _ _ (by decide)) (by first | assumption | exact rowOK_lit _ _ (by decide)) (by omega) (by omega), ⟨_, rfl⟩, ?_⟩
    intro x12
    intro h9
    simp only [rdv_eq] at h9
    have hC2 := h9
    refine ⟨rfl, ⟨(), trivial, congrArg Value.bool (by rw [hC2, hR.1, hD.2.1, hw]; exact beq_iff_eq.2 (hCmp_eq rfl).symm)⟩, ?_⟩
    intro _
    intro _
    exact ⟨(), trivial, rfl, trivial⟩

end Go.Proofs
