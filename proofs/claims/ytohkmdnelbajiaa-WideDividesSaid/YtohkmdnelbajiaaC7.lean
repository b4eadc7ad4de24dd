/- Contracts of this program's functions, and their proofs, printed by a program of the prover's own (see the claim's other texts for what the words mean). -/
import Derived.Test.YtohkmdnelbajiaaSxB16
import Derived.Test.YtohkmdnelbajiaaC6
set_option linter.unusedVariables false
set_option linter.unusedSimpArgs false
namespace Go.Proofs
open Go.Sx
theorem Try.sl41 : SlT Try.prog 41 3 (.int .i64 0) := SlT.of (by kernel_rfl) (by kernel_rfl) (by kernel_rfl) (by kernel_rfl) rfl
theorem Try.agg3 : ∀ w, (isAgg 3).run Try.prog w = .ok false w := fun w => by kernel_rfl
theorem Try.size3 : ∀ w, (sizeOf 3).run Try.prog w = .ok 1 w := fun w => by kernel_rfl
def ref1_at_C : List Value → List Slot → Ctr := fun vs hs => ⟨Int, fun zx => .int .i64 zx, fun _ => hs, fun zx => zx = dgt (rdv (varg vs 1) (sarg hs 0)) (ci (varg vs 2)).toNat⟩
set_option maxRecDepth 100000 in
theorem ref1_at_vc (a : Row) (i : Int) : codeW Try.prog 13 none 2000 none (bodyOf Try.f72) (.reg [.sem []] (.reg [.sem [], .sem [], .eq (f_len), .sem []] (.cond (.reg [.sem [], .sem [], .eq (f_idx), .specr [0] F_get, .sem []] (.done)) (.reg [.sem []] (.done)))))
    (init #[sv a, .int .i64 i] [(ss 3 a)]) (finW Try.prog Try.f72 [] [0] (X := Int) (fun zx => .int .i64 zx) (fun zx => [(ss 3 a)]) (fun zx => (zx = dgt (rdv (sv a) (ss 3 a)) i.toNat))) =
    ((PureRun Try.prog (do pure (.value (← Builtin.len_ #[41] 3 #[sv a]))) (.int .i64 ((vlen (sv a) : Nat) : Int))) ∧ ((decide (i < ((vlen (sv a) : Nat) : Int))) = true → (PureRun Try.prog (do pure (.value (← Instr.indexAt 41 (sv a) (.int .i64 i)))) (.pointer (some ⟨(vblk (sv a)), (Int.toNat i), none⟩))) ∧ (OpT Try.prog (do pure (.value (← Instr.loadAt 3 (.pointer (some ⟨(vblk (sv a)), (Int.toNat i), none⟩))))) [(ss 3 a)] Int (fun zx => .int .i64 zx) (fun _ => [(ss 3 a)]) (fun zx => (scells (ss 3 a))[(Int.toNat i)]? = some (.int .i64 zx))) ∧ (∃ zx : Int, (fun zx => (scells (ss 3 a))[(Int.toNat i)]? = some (.int .i64 zx)) zx) ∧ ∀ x1 : Int, ((scells (ss 3 a))[(Int.toNat i)]? = some (.int .i64 x1)) → ∃ zx : Int, (zx = dgt (rdv (sv a) (ss 3 a)) i.toNat) ∧ Value.int .i64 x1 = .int .i64 zx ∧ (ss 3 a) = (ss 3 a) ∧ True) ∧ ((decide (i < ((vlen (sv a) : Nat) : Int))) = false → ∃ zx : Int, (zx = dgt (rdv (sv a) (ss 3 a)) i.toNat) ∧ Value.int .i64 0 = .int .i64 zx ∧ (ss 3 a) = (ss 3 a) ∧ True)) := by kernel_rfl
set_option maxRecDepth 100000 in
theorem ref1_at (a : Row) (i : Int) (r_a : RowOK a) (hi : 0 ≤ i) : CallT Try.prog 72 #[sv a, .int .i64 i] [(ss 3 a)] Int (fun zx => .int .i64 zx) (fun zx => [(ss 3 a)]) (fun zx => (zx = dgt (rdv (sv a) (ss 3 a)) i.toNat)) := by
  refine call_of (c := bodyOf Try.f72) (n := 13) (fn := Try.f72) Try.mixed Try.func72 (by kernel_rfl) (by kernel_rfl) (by kernel_rfl) 2000 _ [] [0] rfl rfl (Eq.mpr (ref1_at_vc a i) ?_)
  have d_a := rdv_eq a 3
  have e_a := vlen_dg a
  refine ⟨xlen Try.sl41 3 a, ?_⟩
  refine ⟨fun h1 => ?_, fun h1 => ?_⟩
  · refine ⟨xidx Try.sl41 a .i64 i hi (by rw [← vlen_sv]; exact of_decide_eq_true (by assumption)), xgetR (e := 3) a 3 Try.agg3 (Int.toNat i) r_a (by rw [← vlen_dg]; have := of_decide_eq_true ‹_›; omega), wit_get (e := 3) a (Int.toNat i) r_a (by rw [← vlen_dg]; have := of_decide_eq_true ‹_›; omega), ?_⟩
    intro x1
    intro h2
    replace h2 := getR (e := 3) a (Int.toNat i) r_a (by rw [← vlen_dg]; have := of_decide_eq_true ‹_›; omega) h2
    exact ⟨_, by rw [d_a]; assumption, rfl, rfl, trivial⟩
  · exact ⟨0, by rw [d_a]; exact (dgt_out (by have := of_decide_eq_false ‹_›; omega)).symm, rfl, rfl, trivial⟩

def ref1_Trim_C : List Value → List Slot → Ctr := fun vs hs => ⟨Row, fun zx => sv zx, fun zx => [(ss 3 zx)], fun zx => RowOK zx ∧ ss 3 zx = (sarg hs 0) ∧ TrimR (rdv (varg vs 1) (sarg hs 0)) (dg zx)⟩
set_option maxRecDepth 100000 in
theorem ref1_Trim_vc (a : Row) : codeW Try.prog 21 none 2000 none (bodyOf Try.f68) (.reg [.sem []] (.reg [.sem [], .eq (f_len), .sem []] (.inv Nat (fun zx => [(0, sv a), (3, .int .i64 ((zx : Nat) : Int))]) (fun zx => [(0, (ss 3 a))]) (fun zx => TrimI (dg a) zx) (fun zx => zx) (fun x1 => .caseP (fun s => decide ((ci (s.fr 3)) > (0 : Int))) (.reg [.sem [], .gen [] (one (.bool true)), .sem [], .sem [], .sem [], .gen [] (fun vs => one (.int .i64 (ci (varg vs 0) - ci (varg vs 1))) vs), .eq (f_idx), .specr [0] F_get, .sem [], .sem []] (.cond (.reg [.sem [], .gen [] (fun vs => one (.int .i64 (ci (varg vs 0) - ci (varg vs 1))) vs), .sem []] (.done)) (.reg [.sem [], .sem [], .eq (f_take), .sem []] (.done)))) (.reg [.sem [], .gen [] (one (.bool false)), .sem [], .no, .no, .no, .no, .no, .no, .sem []] (.condF (.reg [.sem [], .sem [], .eq (f_take), .sem []] (.done))))))))
    (init #[sv a] [(ss 3 a)]) (finW Try.prog Try.f68 [] [0] (X := Row) (fun zx => sv zx) (fun zx => [(ss 3 zx)]) (fun zx => (RowOK zx ∧ ss 3 zx = (ss 3 a) ∧ TrimR (rdv (sv a) (ss 3 a)) (dg zx)))) =
    ((PureRun Try.prog (do pure (.value (← Builtin.len_ #[41] 3 #[sv a]))) (.int .i64 ((vlen (sv a) : Nat) : Int))) ∧ (∃ zx : Nat, (TrimI (dg a) zx) ∧ sv a = sv a ∧ Value.int .i64 ((vlen (sv a) : Nat) : Int) = .int .i64 ((zx : Nat) : Int) ∧ (ss 3 a) = (ss 3 a) ∧ True) ∧ ∀ x1 : Nat, ∀ jx1 : Nat → Value, (TrimI (dg a) x1) → ((decide (((x1 : Nat) : Int) > (0 : Int))) = true → (∃ _ : Unit, True ∧ Value.bool (decide (((x1 : Nat) : Int) > (0 : Int))) = .bool true) ∧ ∀ _ : Unit, (True) → true = true ∧ true = true ∧ true = true ∧ (∃ _ : Unit, True ∧ Value.int .i64 (IntKind.i64.wrap (((x1 : Nat) : Int) - 1)) = .int .i64 (((x1 : Nat) : Int) - 1)) ∧ ∀ _ : Unit, (True) → true = true ∧ (PureRun Try.prog (do pure (.value (← Instr.indexAt 41 (sv a) (.int .i64 (((x1 : Nat) : Int) - 1))))) (.pointer (some ⟨(vblk (sv a)), (Int.toNat (((x1 : Nat) : Int) - 1)), none⟩))) ∧ true = true ∧ (OpT Try.prog (do pure (.value (← Instr.loadAt 3 (.pointer (some ⟨(vblk (sv a)), (Int.toNat (((x1 : Nat) : Int) - 1)), none⟩))))) [(ss 3 a)] Int (fun zx => .int .i64 zx) (fun _ => [(ss 3 a)]) (fun zx => (scells (ss 3 a))[(Int.toNat (((x1 : Nat) : Int) - 1))]? = some (.int .i64 zx))) ∧ (∃ zx : Int, (fun zx => (scells (ss 3 a))[(Int.toNat (((x1 : Nat) : Int) - 1))]? = some (.int .i64 zx)) zx) ∧ ∀ x2 : Int, ((scells (ss 3 a))[(Int.toNat (((x1 : Nat) : Int) - 1))]? = some (.int .i64 x2)) → true = true ∧ ((x2 == (0 : Int)) = true → (∃ _ : Unit, True ∧ Value.int .i64 (IntKind.i64.wrap (((x1 : Nat) : Int) - 1)) = .int .i64 (((x1 : Nat) : Int) - 1)) ∧ ∀ _ : Unit, (True) → ∃ zy : Nat, (TrimI (dg a) zy) ∧ zy < x1 ∧ sv a = sv a ∧ Value.int .i64 (((x1 : Nat) : Int) - 1) = .int .i64 ((zy : Nat) : Int) ∧ (ss 3 a) = (ss 3 a) ∧ True) ∧ ((x2 == (0 : Int)) = false → (PureRun Try.prog (do pure (.value (← Instr.sliceAt 41 (sv a) none (some (.int .i64 ((x1 : Nat) : Int))) none))) ((vtake (sv a) (Int.toNat ((x1 : Nat) : Int))))) ∧ ∃ zx : Row, (RowOK zx ∧ ss 3 zx = (ss 3 a) ∧ TrimR (rdv (sv a) (ss 3 a)) (dg zx)) ∧ (vtake (sv a) (Int.toNat ((x1 : Nat) : Int))) = sv zx ∧ (ss 3 a) = (ss 3 zx) ∧ True)) ∧ ((decide (((x1 : Nat) : Int) > (0 : Int))) = false → (∃ _ : Unit, True ∧ Value.bool (decide (((x1 : Nat) : Int) > (0 : Int))) = .bool false) ∧ ∀ _ : Unit, (True) → false = !true ∧ false = !true ∧ false = !true ∧ false = !true ∧ false = !true ∧ false = !true ∧ (false = false) ∧ (PureRun Try.prog (do pure (.value (← Instr.sliceAt 41 (sv a) none (some (.int .i64 ((x1 : Nat) : Int))) none))) ((vtake (sv a) (Int.toNat ((x1 : Nat) : Int))))) ∧ ∃ zx : Row, (RowOK zx ∧ ss 3 zx = (ss 3 a) ∧ TrimR (rdv (sv a) (ss 3 a)) (dg zx)) ∧ (vtake (sv a) (Int.toNat ((x1 : Nat) : Int))) = sv zx ∧ (ss 3 a) = (ss 3 zx) ∧ True)) := by kernel_rfl
set_option maxRecDepth 100000 in
theorem ref1_Trim (a : Row) (r_a : RowOK a) (hl : (dg a).length ≤ 1073741824) : CallT Try.prog 68 #[sv a] [(ss 3 a)] Row (fun zx => sv zx) (fun zx => [(ss 3 zx)]) (fun zx => (RowOK zx ∧ ss 3 zx = (ss 3 a) ∧ TrimR (rdv (sv a) (ss 3 a)) (dg zx))) := by
  refine call_of (c := bodyOf Try.f68) (n := 21) (fn := Try.f68) Try.mixed Try.func68 (by kernel_rfl) (by kernel_rfl) (by kernel_rfl) 2000 _ [] [0] rfl rfl (Eq.mpr (ref1_Trim_vc a) ?_)
  have d_a := rdv_eq a 3
  have e_a := vlen_dg a
  refine ⟨xlen Try.sl41 3 a, ?_⟩
  refine ⟨?_, fun x1 jx1 h1 => ?_⟩
  · exact ⟨_, e_a ▸ trim_start _, rfl, rfl, rfl, trivial⟩
  · have L := h1
    have Ll := L.le
    refine ⟨fun h2 => ?_, fun h2 => ?_⟩
    · refine ⟨⟨(), trivial, congrArg Value.bool h2⟩, ?_⟩
      intro _
      intro _
      refine ⟨rfl, rfl, rfl, ⟨(), trivial, congrArg (Value.int .i64) (wrap_i64 _ (by simp only [decide_eq_true_eq, decide_eq_false_iff_not, gt_iff_lt, ge_iff_le, beq_iff_eq, beq_eq_false_iff_ne] at *; omega) (by simp only [decide_eq_true_eq, decide_eq_false_iff_not, gt_iff_lt, ge_iff_le, beq_iff_eq, beq_eq_false_iff_ne] at *; omega))⟩, ?_⟩
      intro _
      intro _
      refine ⟨rfl, xidx Try.sl41 a .i64 (((x1 : Nat) : Int) - 1) (by simp only [decide_eq_true_eq, decide_eq_false_iff_not, gt_iff_lt, ge_iff_le, beq_iff_eq, beq_eq_false_iff_ne] at *; omega) (by rw [← dg_len]; simp only [decide_eq_true_eq, decide_eq_false_iff_not, gt_iff_lt, ge_iff_le, beq_iff_eq, beq_eq_false_iff_ne] at *; omega), rfl, xgetR (e := 3) a 3 Try.agg3 (Int.toNat (((x1 : Nat) : Int) - 1)) r_a (by simp only [decide_eq_true_eq, decide_eq_false_iff_not, gt_iff_lt, ge_iff_le, beq_iff_eq, beq_eq_false_iff_ne] at *; omega), wit_get (e := 3) a (Int.toNat (((x1 : Nat) : Int) - 1)) r_a (by simp only [decide_eq_true_eq, decide_eq_false_iff_not, gt_iff_lt, ge_iff_le, beq_iff_eq, beq_eq_false_iff_ne] at *; omega), ?_⟩
      intro x2
      intro h3
      replace h3 := getR (e := 3) a (Int.toNat (((x1 : Nat) : Int) - 1)) r_a (by simp only [decide_eq_true_eq, decide_eq_false_iff_not, gt_iff_lt, ge_iff_le, beq_iff_eq, beq_eq_false_iff_ne] at *; omega) h3
      refine ⟨rfl, ?_⟩
      refine ⟨fun h4 => ?_, fun h4 => ?_⟩
      · refine ⟨⟨(), trivial, congrArg (Value.int .i64) (wrap_i64 _ (by simp only [decide_eq_true_eq, decide_eq_false_iff_not, gt_iff_lt, ge_iff_le, beq_iff_eq, beq_eq_false_iff_ne] at *; omega) (by simp only [decide_eq_true_eq, decide_eq_false_iff_not, gt_iff_lt, ge_iff_le, beq_iff_eq, beq_eq_false_iff_ne] at *; omega))⟩, ?_⟩
        intro _
        intro _
        have hd : dgt (dg a) (x1 - 1) = 0 := by
          simp only [decide_eq_true_eq, decide_eq_false_iff_not, gt_iff_lt, ge_iff_le, beq_iff_eq, beq_eq_false_iff_ne] at *
          have e1 : Int.toNat (((x1 : Nat) : Int) - 1) = x1 - 1 := by omega
          simp_all
        exact ⟨x1 - 1, trim_step L (by simp only [decide_eq_true_eq, decide_eq_false_iff_not, gt_iff_lt, ge_iff_le, beq_iff_eq, beq_eq_false_iff_ne] at *; omega) hd, (by simp only [decide_eq_true_eq, decide_eq_false_iff_not, gt_iff_lt, ge_iff_le, beq_iff_eq, beq_eq_false_iff_ne] at *; omega), rfl, congrArg (Value.int .i64) (by simp only [decide_eq_true_eq, decide_eq_false_iff_not, gt_iff_lt, ge_iff_le, beq_iff_eq, beq_eq_false_iff_ne] at *; omega), rfl, trivial⟩
      · refine ⟨xtake Try.sl41 a .i64 ((x1 : Nat) : Int) (by omega) (by rw [← dg_len]; omega), ?_⟩
        refine ⟨a.take x1, ⟨(r_a.take _).1, ss_take _ _ _, ?_⟩, vtake_sv a _ (by rw [← dg_len]; exact L.le), (ss_take _ _ _).symm, trivial⟩
        rw [d_a, (r_a.take _).2]
        refine trim_end L ?_
        simp only [decide_eq_true_eq, decide_eq_false_iff_not, gt_iff_lt, ge_iff_le, beq_iff_eq, beq_eq_false_iff_ne] at *
        first | exact .inl (by omega) | exact .inr (by rename_i hne; intro h0; simp_all) | exact .inr (by intro h0; simp_all)
    · refine ⟨⟨(), trivial, congrArg Value.bool h2⟩, ?_⟩
      intro _
      intro _
      refine ⟨rfl, rfl, rfl, rfl, rfl, rfl, ?_⟩
      refine ⟨rfl, ?_⟩
      refine ⟨xtake Try.sl41 a .i64 ((x1 : Nat) : Int) (by omega) (by rw [← dg_len]; omega), ?_⟩
      refine ⟨a.take x1, ⟨(r_a.take _).1, ss_take _ _ _, ?_⟩, vtake_sv a _ (by rw [← dg_len]; exact L.le), (ss_take _ _ _).symm, trivial⟩
      rw [d_a, (r_a.take _).2]
      refine trim_end L ?_
      simp only [decide_eq_true_eq, decide_eq_false_iff_not, gt_iff_lt, ge_iff_le, beq_iff_eq, beq_eq_false_iff_ne] at *
      first | exact .inl (by omega) | exact .inr (by rename_i hne; intro h0; simp_all) | exact .inr (by intro h0; simp_all)

def ref1_Cmp_C : List Value → List Slot → Ctr := fun vs hs => ⟨Int, fun zx => .int .i64 zx, fun _ => hs, fun zx => zx = hCmp (nv (rdv (varg vs 1) (sarg hs 0))) (nv (rdv (varg vs 2) (sarg hs 1)))⟩
set_option maxRecDepth 100000 in
theorem ref1_Cmp_vc (a : Row) (b : Row) : codeW Try.prog 30 none 2000 none (bodyOf Try.f27) (.reg [.sem []] (.reg [.sem [], .eq (f_len), .sem [], .eq (f_len), .sem [], .gen [] (fun vs => one (.int .i64 (ci (varg vs 0) - ci (varg vs 1))) vs), .sem []] (.inv Nat (fun zx => [(0, sv a), (1, sv b), (5, .int .i64 (((zx : Nat) : Int) - 1))]) (fun zx => [(0, (ss 3 a)), (1, (ss 3 b))]) (fun zx => CmpI (dg a) (dg b) zx) (fun zx => zx) (fun x1 => .reg [.sem [], .sem []] (.cond (.reg [.sem [], .sem [], .callr [0] ref1_at_C, .sem [], .sem [], .callr [1] ref1_at_C, .sem []] (.cond (.reg [.sem []] (.done)) (.reg [.sem [], .sem [], .callr [0] ref1_at_C, .sem [], .sem [], .callr [1] ref1_at_C, .sem []] (.cond (.reg [.sem []] (.done)) (.reg [.sem [], .gen [] (fun vs => one (.int .i64 (ci (varg vs 0) - ci (varg vs 1))) vs), .sem []] (.done)))))) (.reg [.sem []] (.done)))))))
    (init #[sv a, sv b] [(ss 3 a), (ss 3 b)]) (finW Try.prog Try.f27 [] [0, 1] (X := Int) (fun zx => .int .i64 zx) (fun zx => [(ss 3 a), (ss 3 b)]) (fun zx => (zx = hCmp (nv (rdv (sv a) (ss 3 a))) (nv (rdv (sv b) (ss 3 b)))))) =
    ((PureRun Try.prog (do pure (.value (← Builtin.len_ #[41] 3 #[sv a]))) (.int .i64 ((vlen (sv a) : Nat) : Int))) ∧ (PureRun Try.prog (do pure (.value (← Builtin.len_ #[41] 3 #[sv b]))) (.int .i64 ((vlen (sv b) : Nat) : Int))) ∧ (∃ _ : Unit, True ∧ Value.int .i64 (IntKind.i64.wrap ((if ((vlen (sv b) : Nat) : Int) > ((vlen (sv a) : Nat) : Int) then ((vlen (sv b) : Nat) : Int) else ((vlen (sv a) : Nat) : Int)) - 1)) = .int .i64 ((if ((vlen (sv b) : Nat) : Int) > ((vlen (sv a) : Nat) : Int) then ((vlen (sv b) : Nat) : Int) else ((vlen (sv a) : Nat) : Int)) - 1)) ∧ ∀ _ : Unit, (True) → (∃ zx : Nat, (CmpI (dg a) (dg b) zx) ∧ sv a = sv a ∧ sv b = sv b ∧ Value.int .i64 ((if ((vlen (sv b) : Nat) : Int) > ((vlen (sv a) : Nat) : Int) then ((vlen (sv b) : Nat) : Int) else ((vlen (sv a) : Nat) : Int)) - 1) = .int .i64 (((zx : Nat) : Int) - 1) ∧ (ss 3 a) = (ss 3 a) ∧ (ss 3 b) = (ss 3 b) ∧ True) ∧ ∀ x1 : Nat, ∀ jx1 : Nat → Value, (CmpI (dg a) (dg b) x1) → ((decide ((((x1 : Nat) : Int) - 1) ≥ (0 : Int))) = true → (CallT Try.prog 72 #[sv a, .int .i64 (((x1 : Nat) : Int) - 1)] [(ss 3 a)] Int (fun zx => .int .i64 zx) (fun _ => [(ss 3 a)]) (fun zx => zx = dgt (rdv (sv a) (ss 3 a)) (((x1 : Nat) : Int) - 1).toNat)) ∧ (∃ zx : Int, (fun zx => zx = dgt (rdv (sv a) (ss 3 a)) (((x1 : Nat) : Int) - 1).toNat) zx) ∧ ∀ x2 : Int, (x2 = dgt (rdv (sv a) (ss 3 a)) (((x1 : Nat) : Int) - 1).toNat) → (CallT Try.prog 72 #[sv b, .int .i64 (((x1 : Nat) : Int) - 1)] [(ss 3 b)] Int (fun zx => .int .i64 zx) (fun _ => [(ss 3 b)]) (fun zx => zx = dgt (rdv (sv b) (ss 3 b)) (((x1 : Nat) : Int) - 1).toNat)) ∧ (∃ zx : Int, (fun zx => zx = dgt (rdv (sv b) (ss 3 b)) (((x1 : Nat) : Int) - 1).toNat) zx) ∧ ∀ x3 : Int, (x3 = dgt (rdv (sv b) (ss 3 b)) (((x1 : Nat) : Int) - 1).toNat) → ((decide (x2 < x3)) = true → ∃ zx : Int, (zx = hCmp (nv (rdv (sv a) (ss 3 a))) (nv (rdv (sv b) (ss 3 b)))) ∧ Value.int .i64 (-1) = .int .i64 zx ∧ (ss 3 a) = (ss 3 a) ∧ (ss 3 b) = (ss 3 b) ∧ True) ∧ ((decide (x2 < x3)) = false → (CallT Try.prog 72 #[sv a, .int .i64 (((x1 : Nat) : Int) - 1)] [(ss 3 a)] Int (fun zx => .int .i64 zx) (fun _ => [(ss 3 a)]) (fun zx => zx = dgt (rdv (sv a) (ss 3 a)) (((x1 : Nat) : Int) - 1).toNat)) ∧ (∃ zx : Int, (fun zx => zx = dgt (rdv (sv a) (ss 3 a)) (((x1 : Nat) : Int) - 1).toNat) zx) ∧ ∀ x4 : Int, (x4 = dgt (rdv (sv a) (ss 3 a)) (((x1 : Nat) : Int) - 1).toNat) → (CallT Try.prog 72 #[sv b, .int .i64 (((x1 : Nat) : Int) - 1)] [(ss 3 b)] Int (fun zx => .int .i64 zx) (fun _ => [(ss 3 b)]) (fun zx => zx = dgt (rdv (sv b) (ss 3 b)) (((x1 : Nat) : Int) - 1).toNat)) ∧ (∃ zx : Int, (fun zx => zx = dgt (rdv (sv b) (ss 3 b)) (((x1 : Nat) : Int) - 1).toNat) zx) ∧ ∀ x5 : Int, (x5 = dgt (rdv (sv b) (ss 3 b)) (((x1 : Nat) : Int) - 1).toNat) → ((decide (x4 > x5)) = true → ∃ zx : Int, (zx = hCmp (nv (rdv (sv a) (ss 3 a))) (nv (rdv (sv b) (ss 3 b)))) ∧ Value.int .i64 1 = .int .i64 zx ∧ (ss 3 a) = (ss 3 a) ∧ (ss 3 b) = (ss 3 b) ∧ True) ∧ ((decide (x4 > x5)) = false → (∃ _ : Unit, True ∧ Value.int .i64 (IntKind.i64.wrap ((((x1 : Nat) : Int) - 1) - 1)) = .int .i64 ((((x1 : Nat) : Int) - 1) - 1)) ∧ ∀ _ : Unit, (True) → ∃ zy : Nat, (CmpI (dg a) (dg b) zy) ∧ zy < x1 ∧ sv a = sv a ∧ sv b = sv b ∧ Value.int .i64 ((((x1 : Nat) : Int) - 1) - 1) = .int .i64 (((zy : Nat) : Int) - 1) ∧ (ss 3 a) = (ss 3 a) ∧ (ss 3 b) = (ss 3 b) ∧ True))) ∧ ((decide ((((x1 : Nat) : Int) - 1) ≥ (0 : Int))) = false → ∃ zx : Int, (zx = hCmp (nv (rdv (sv a) (ss 3 a))) (nv (rdv (sv b) (ss 3 b)))) ∧ Value.int .i64 0 = .int .i64 zx ∧ (ss 3 a) = (ss 3 a) ∧ (ss 3 b) = (ss 3 b) ∧ True)) := by kernel_rfl
set_option maxRecDepth 100000 in
theorem ref1_Cmp (a : Row) (b : Row) (r_a : RowOK a) (r_b : RowOK b) (la : (dg a).length ≤ 65536) (lb : (dg b).length ≤ 65536) : CallT Try.prog 27 #[sv a, sv b] [(ss 3 a), (ss 3 b)] Int (fun zx => .int .i64 zx) (fun zx => [(ss 3 a), (ss 3 b)]) (fun zx => (zx = hCmp (nv (rdv (sv a) (ss 3 a))) (nv (rdv (sv b) (ss 3 b))))) := by
  refine call_of (c := bodyOf Try.f27) (n := 30) (fn := Try.f27) Try.mixed Try.func27 (by kernel_rfl) (by kernel_rfl) (by kernel_rfl) 2000 _ [] [0, 1] rfl rfl (Eq.mpr (ref1_Cmp_vc a b) ?_)
  have d_a := rdv_eq a 3
  have d_b := rdv_eq b 3
  have e_a := vlen_dg a
  have e_b := vlen_dg b
  refine ⟨xlen Try.sl41 3 a, xlen Try.sl41 3 b, ⟨(), trivial, congrArg (Value.int .i64) (wrap_i64 _ (by rw [e_a, e_b]; split <;> omega) (by rw [e_a, e_b]; split <;> omega))⟩, ?_⟩
  intro _
  intro _
  refine ⟨?_, fun x1 jx1 h1 => ?_⟩
  · exact ⟨_, cmp_start _ _, rfl, rfl, congrArg (Value.int .i64) (by rw [e_a, e_b]; split <;> omega), rfl, rfl, trivial⟩
  · have L := h1
    have Ll := L.le
    refine ⟨fun h2 => ?_, fun h2 => ?_⟩
    · refine ⟨ref1_at a (((x1 : Nat) : Int) - 1) (by first | assumption | exact rowOK_lit _ _ (by decide)) (by simp only [decide_eq_true_eq, decide_eq_false_iff_not, gt_iff_lt, ge_iff_le, beq_iff_eq, beq_eq_false_iff_ne] at *; omega), ⟨_, rfl⟩, ?_⟩
      intro x2
      intro h3
      simp only [rdv_eq] at h3
      refine ⟨ref1_at b (((x1 : Nat) : Int) - 1) (by first | assumption | exact rowOK_lit _ _ (by decide)) (by simp only [decide_eq_true_eq, decide_eq_false_iff_not, gt_iff_lt, ge_iff_le, beq_iff_eq, beq_eq_false_iff_ne] at *; omega), ⟨_, rfl⟩, ?_⟩
      intro x3
      intro h4
      simp only [rdv_eq] at h4
      refine ⟨fun h5 => ?_, fun h5 => ?_⟩
      · have et : Int.toNat (((x1 : Nat) : Int) - 1) = x1 - 1 := by simp only [decide_eq_true_eq, decide_eq_false_iff_not, gt_iff_lt, ge_iff_le, beq_iff_eq, beq_eq_false_iff_ne] at *; omega
        have hd : dgt (dg a) (x1 - 1) < dgt (dg b) (x1 - 1) := by
          simp only [et] at *
          simp only [decide_eq_true_eq, decide_eq_false_iff_not, gt_iff_lt, ge_iff_le, beq_iff_eq, beq_eq_false_iff_ne] at *
          omega
        exact ⟨_, by rw [d_a, d_b]; exact hCmp_lt (cmp_lt r_a.dig r_b.dig L (by simp only [decide_eq_true_eq, decide_eq_false_iff_not, gt_iff_lt, ge_iff_le, beq_iff_eq, beq_eq_false_iff_ne] at *; omega) hd), rfl, rfl, rfl, trivial⟩
      · refine ⟨ref1_at a (((x1 : Nat) : Int) - 1) (by first | assumption | exact rowOK_lit _ _ (by decide)) (by simp only [decide_eq_true_eq, decide_eq_false_iff_not, gt_iff_lt, ge_iff_le, beq_iff_eq, beq_eq_false_iff_ne] at *; omega), ⟨_, rfl⟩, ?_⟩
        intro x4
        intro h6
        simp only [rdv_eq] at h6
        refine ⟨ref1_at b (((x1 : Nat) : Int) - 1) (by first | assumption | exact rowOK_lit _ _ (by decide)) (by simp only [decide_eq_true_eq, decide_eq_false_iff_not, gt_iff_lt, ge_iff_le, beq_iff_eq, beq_eq_false_iff_ne] at *; omega), ⟨_, rfl⟩, ?_⟩
        intro x5
        intro h7
        simp only [rdv_eq] at h7
        refine ⟨fun h8 => ?_, fun h8 => ?_⟩
        · have et : Int.toNat (((x1 : Nat) : Int) - 1) = x1 - 1 := by simp only [decide_eq_true_eq, decide_eq_false_iff_not, gt_iff_lt, ge_iff_le, beq_iff_eq, beq_eq_false_iff_ne] at *; omega
          have hd : dgt (dg a) (x1 - 1) > dgt (dg b) (x1 - 1) := by
            simp only [et] at *
            simp only [decide_eq_true_eq, decide_eq_false_iff_not, gt_iff_lt, ge_iff_le, beq_iff_eq, beq_eq_false_iff_ne] at *
            omega
          exact ⟨_, by rw [d_a, d_b]; exact hCmp_gt (cmp_lt r_b.dig r_a.dig L.symm (by simp only [decide_eq_true_eq, decide_eq_false_iff_not, gt_iff_lt, ge_iff_le, beq_iff_eq, beq_eq_false_iff_ne] at *; omega) hd), rfl, rfl, rfl, trivial⟩
        · refine ⟨⟨(), trivial, congrArg (Value.int .i64) (wrap_i64 _ (by simp only [decide_eq_true_eq, decide_eq_false_iff_not, gt_iff_lt, ge_iff_le, beq_iff_eq, beq_eq_false_iff_ne] at *; omega) (by simp only [decide_eq_true_eq, decide_eq_false_iff_not, gt_iff_lt, ge_iff_le, beq_iff_eq, beq_eq_false_iff_ne] at *; omega))⟩, ?_⟩
          intro _
          intro _
          have et : Int.toNat (((x1 : Nat) : Int) - 1) = x1 - 1 := by simp only [decide_eq_true_eq, decide_eq_false_iff_not, gt_iff_lt, ge_iff_le, beq_iff_eq, beq_eq_false_iff_ne] at *; omega
          have hd : dgt (dg a) (x1 - 1) = dgt (dg b) (x1 - 1) := by
            simp only [et] at *
            simp only [decide_eq_true_eq, decide_eq_false_iff_not, gt_iff_lt, ge_iff_le, beq_iff_eq, beq_eq_false_iff_ne] at *
            omega
          exact ⟨x1 - 1, cmp_step L (by simp only [decide_eq_true_eq, decide_eq_false_iff_not, gt_iff_lt, ge_iff_le, beq_iff_eq, beq_eq_false_iff_ne] at *; omega) hd, (by simp only [decide_eq_true_eq, decide_eq_false_iff_not, gt_iff_lt, ge_iff_le, beq_iff_eq, beq_eq_false_iff_ne] at *; omega), rfl, rfl, congrArg (Value.int .i64) (by simp only [decide_eq_true_eq, decide_eq_false_iff_not, gt_iff_lt, ge_iff_le, beq_iff_eq, beq_eq_false_iff_ne] at *; omega), rfl, rfl, trivial⟩
    · have ez : x1 = 0 := (by simp only [decide_eq_true_eq, decide_eq_false_iff_not, gt_iff_lt, ge_iff_le, beq_iff_eq, beq_eq_false_iff_ne] at *; omega)
      rw [ez] at L
      exact ⟨_, by rw [d_a, d_b]; exact hCmp_eq (cmp_end L), rfl, rfl, rfl, trivial⟩

def ref1_Add_C : List Value → List Slot → Ctr := fun vs hs => ⟨Row, fun zx => sv zx, fun zx => [(sarg hs 0), (sarg hs 1), (ss 3 zx)], fun zx => RowOK zx ∧ nv (dg zx) = nv (rdv (varg vs 1) (sarg hs 0)) + nv (rdv (varg vs 2) (sarg hs 1)) ∧ Canon (dg zx)⟩
set_option maxRecDepth 100000 in
set_option maxHeartbeats 1000000 in
theorem ref1_Add_vc (a : Row) (b : Row) : codeW Try.prog 40 none 2000 none (bodyOf Try.f22) (.reg [.sem []] (.reg [.sem []] (.reg [.sem []] (.reg [.sem []] (.inv (Nat × Int × Row) (fun zx => [(0, sv a), (1, sv b), (5, sv zx.2.2), (6, .int .i64 zx.2.1), (7, .int .i64 ((zx.1 : Nat) : Int))]) (fun zx => [(0, (ss 3 a)), (1, (ss 3 b)), (20, (ss 3 zx.2.2))]) (fun zx => AddI (dg a) (dg b) zx.1 zx.2.1 (dg zx.2.2) ∧ RowOK zx.2.2) (fun zx => 2 * ((max (dg a).length (dg b).length) + 1 - zx.1) + zx.2.1.toNat) (fun x1 => .caseP (fun s => decide ((ci (s.fr 7)) < (if ((vlen (sv b) : Nat) : Int) > ((vlen (sv a) : Nat) : Int) then ((vlen (sv b) : Nat) : Int) else ((vlen (sv a) : Nat) : Int)))) (.reg [.sem [], .sem [], .eq (f_len), .sem [], .eq (f_len), .sem [], .gen [] (one (.bool true)), .sem [], .no, .no, .sem []] (.condT (.reg [.sem [], .sem [], .callr [0] ref1_at_C, .sem [], .sem [], .callr [1] ref1_at_C, .gen [] (fun vs => one (.int .i64 (ci (varg vs 0) + ci (varg vs 1))) vs), .sem [], .gen [] (fun vs => one (.int .i64 (ci (varg vs 0) + ci (varg vs 1))) vs), .sem []] (.reg [.sem [], .sem [], .gen [] (fun vs => one (.int .i64 (ci (varg vs 0) % 65536)) vs), .sem [.nw 2], .specw [20, 2] [20, 2] (F_app 3), .sem []] (.reg [.sem [], .gen [] (fun vs => one (.int .i64 (ci (varg vs 0) / 65536)) vs), .sem []] (.reg [.sem [], .gen [] (fun vs => one (.int .i64 (ci (varg vs 0) + ci (varg vs 1))) vs), .sem []] (.done))))))) (.reg [.sem [], .sem [], .eq (f_len), .sem [], .eq (f_len), .sem [], .gen [] (one (.bool false)), .sem [], .sem [], .sem [], .sem []] (.cond (.reg [.sem [], .sem [], .callr [0] ref1_at_C, .sem [], .sem [], .callr [1] ref1_at_C, .gen [] (fun vs => one (.int .i64 (ci (varg vs 0) + ci (varg vs 1))) vs), .sem [], .gen [] (fun vs => one (.int .i64 (ci (varg vs 0) + ci (varg vs 1))) vs), .sem []] (.reg [.sem [], .sem [], .gen [] (fun vs => one (.int .i64 (ci (varg vs 0) % 65536)) vs), .sem [.nw 2], .specw [20, 2] [20, 2] (F_app 3), .sem []] (.reg [.sem [], .gen [] (fun vs => one (.int .i64 (ci (varg vs 0) / 65536)) vs), .sem []] (.reg [.sem [], .gen [] (fun vs => one (.int .i64 (ci (varg vs 0) + ci (varg vs 1))) vs), .sem []] (.done))))) (.reg [.sem [], .callw [20] [20] ref1_Trim_C, .sem []] (.done))))))))))
    (init #[sv a, sv b] [(ss 3 a), (ss 3 b)]) (finW Try.prog Try.f22 [] [0, 1, 20] (X := Row) (fun zx => sv zx) (fun zx => [(ss 3 a), (ss 3 b), (ss 3 zx)]) (fun zx => (RowOK zx ∧ nv (dg zx) = nv (rdv (sv a) (ss 3 a)) + nv (rdv (sv b) (ss 3 b)) ∧ Canon (dg zx)))) =
    ((∃ zx : Nat × Int × Row, (AddI (dg a) (dg b) zx.1 zx.2.1 (dg zx.2.2) ∧ RowOK zx.2.2) ∧ sv a = sv a ∧ sv b = sv b ∧ Value.slice none 0 0 = sv zx.2.2 ∧ Value.int .i64 0 = .int .i64 zx.2.1 ∧ Value.int .i64 0 = .int .i64 ((zx.1 : Nat) : Int) ∧ (ss 3 a) = (ss 3 a) ∧ (ss 3 b) = (ss 3 b) ∧ Slot.free = (ss 3 zx.2.2) ∧ True) ∧ ∀ x1 : Nat × Int × Row, ∀ jx1 : Nat → Value, (AddI (dg a) (dg b) x1.1 x1.2.1 (dg x1.2.2) ∧ RowOK x1.2.2) → ((decide (((x1.1 : Nat) : Int) < (if ((vlen (sv b) : Nat) : Int) > ((vlen (sv a) : Nat) : Int) then ((vlen (sv b) : Nat) : Int) else ((vlen (sv a) : Nat) : Int)))) = true → (PureRun Try.prog (do pure (.value (← Builtin.len_ #[41] 3 #[sv a]))) (.int .i64 ((vlen (sv a) : Nat) : Int))) ∧ (PureRun Try.prog (do pure (.value (← Builtin.len_ #[41] 3 #[sv b]))) (.int .i64 ((vlen (sv b) : Nat) : Int))) ∧ (∃ _ : Unit, True ∧ Value.bool (decide (((x1.1 : Nat) : Int) < (if ((vlen (sv b) : Nat) : Int) > ((vlen (sv a) : Nat) : Int) then ((vlen (sv b) : Nat) : Int) else ((vlen (sv a) : Nat) : Int)))) = .bool true) ∧ ∀ _ : Unit, (True) → true = !false ∧ true = !false ∧ (true = true) ∧ (CallT Try.prog 72 #[sv a, .int .i64 ((x1.1 : Nat) : Int)] [(ss 3 a)] Int (fun zx => .int .i64 zx) (fun _ => [(ss 3 a)]) (fun zx => zx = dgt (rdv (sv a) (ss 3 a)) ((x1.1 : Nat) : Int).toNat)) ∧ (∃ zx : Int, (fun zx => zx = dgt (rdv (sv a) (ss 3 a)) ((x1.1 : Nat) : Int).toNat) zx) ∧ ∀ x2 : Int, (x2 = dgt (rdv (sv a) (ss 3 a)) ((x1.1 : Nat) : Int).toNat) → (CallT Try.prog 72 #[sv b, .int .i64 ((x1.1 : Nat) : Int)] [(ss 3 b)] Int (fun zx => .int .i64 zx) (fun _ => [(ss 3 b)]) (fun zx => zx = dgt (rdv (sv b) (ss 3 b)) ((x1.1 : Nat) : Int).toNat)) ∧ (∃ zx : Int, (fun zx => zx = dgt (rdv (sv b) (ss 3 b)) ((x1.1 : Nat) : Int).toNat) zx) ∧ ∀ x3 : Int, (x3 = dgt (rdv (sv b) (ss 3 b)) ((x1.1 : Nat) : Int).toNat) → (∃ _ : Unit, True ∧ Value.int .i64 (IntKind.i64.wrap (x2 + x3)) = .int .i64 (x2 + x3)) ∧ ∀ _ : Unit, (True) → (∃ _ : Unit, True ∧ Value.int .i64 (IntKind.i64.wrap ((x2 + x3) + x1.2.1)) = .int .i64 ((x2 + x3) + x1.2.1)) ∧ ∀ _ : Unit, (True) → (∃ _ : Unit, True ∧ Value.int .i64 (Int.tmod ((x2 + x3) + x1.2.1) 65536) = .int .i64 (((x2 + x3) + x1.2.1) % 65536)) ∧ ∀ _ : Unit, (True) → ∀ b4 : Nat, (OpT Try.prog (do pure (.value (← Builtin.append_ #[41, 41] 41 #[sv x1.2.2, .slice (some ⟨b4, 0, none⟩) 1 1]))) [(ss 3 x1.2.2), .blk b4 (.cells #[.int .i64 (((x2 + x3) + x1.2.1) % 65536)] 3 (0, 0))] Row (fun zx => sv zx) (fun zx => [(ss 3 zx), .blk b4 (.cells #[.int .i64 (((x2 + x3) + x1.2.1) % 65536)] 3 (0, 0))]) (fun zx => vals zx = rvals (sv x1.2.2) (ss 3 x1.2.2) ++ [.int .i64 (((x2 + x3) + x1.2.1) % 65536)])) ∧ (∃ zx : Row, (fun zx => vals zx = rvals (sv x1.2.2) (ss 3 x1.2.2) ++ [.int .i64 (((x2 + x3) + x1.2.1) % 65536)]) zx) ∧ ∀ x5 : Row, (vals x5 = rvals (sv x1.2.2) (ss 3 x1.2.2) ++ [.int .i64 (((x2 + x3) + x1.2.1) % 65536)]) → (∃ _ : Unit, True ∧ Value.int .i64 (IntKind.i64.wrap (Int.tdiv ((x2 + x3) + x1.2.1) 65536)) = .int .i64 (((x2 + x3) + x1.2.1) / 65536)) ∧ ∀ _ : Unit, (True) → (∃ _ : Unit, True ∧ Value.int .i64 (IntKind.i64.wrap (((x1.1 : Nat) : Int) + 1)) = .int .i64 (((x1.1 : Nat) : Int) + 1)) ∧ ∀ _ : Unit, (True) → ∃ zy : Nat × Int × Row, (AddI (dg a) (dg b) zy.1 zy.2.1 (dg zy.2.2) ∧ RowOK zy.2.2) ∧ 2 * ((max (dg a).length (dg b).length) + 1 - zy.1) + zy.2.1.toNat < 2 * ((max (dg a).length (dg b).length) + 1 - x1.1) + x1.2.1.toNat ∧ sv a = sv a ∧ sv b = sv b ∧ sv x5 = sv zy.2.2 ∧ Value.int .i64 (((x2 + x3) + x1.2.1) / 65536) = .int .i64 zy.2.1 ∧ Value.int .i64 (((x1.1 : Nat) : Int) + 1) = .int .i64 ((zy.1 : Nat) : Int) ∧ (ss 3 a) = (ss 3 a) ∧ (ss 3 b) = (ss 3 b) ∧ (ss 3 x5) = (ss 3 zy.2.2) ∧ True) ∧ ((decide (((x1.1 : Nat) : Int) < (if ((vlen (sv b) : Nat) : Int) > ((vlen (sv a) : Nat) : Int) then ((vlen (sv b) : Nat) : Int) else ((vlen (sv a) : Nat) : Int)))) = false → (PureRun Try.prog (do pure (.value (← Builtin.len_ #[41] 3 #[sv a]))) (.int .i64 ((vlen (sv a) : Nat) : Int))) ∧ (PureRun Try.prog (do pure (.value (← Builtin.len_ #[41] 3 #[sv b]))) (.int .i64 ((vlen (sv b) : Nat) : Int))) ∧ (∃ _ : Unit, True ∧ Value.bool (decide (((x1.1 : Nat) : Int) < (if ((vlen (sv b) : Nat) : Int) > ((vlen (sv a) : Nat) : Int) then ((vlen (sv b) : Nat) : Int) else ((vlen (sv a) : Nat) : Int)))) = .bool false) ∧ ∀ _ : Unit, (True) → false = false ∧ false = false ∧ ((decide (x1.2.1 > (0 : Int))) = true → (CallT Try.prog 72 #[sv a, .int .i64 ((x1.1 : Nat) : Int)] [(ss 3 a)] Int (fun zx => .int .i64 zx) (fun _ => [(ss 3 a)]) (fun zx => zx = dgt (rdv (sv a) (ss 3 a)) ((x1.1 : Nat) : Int).toNat)) ∧ (∃ zx : Int, (fun zx => zx = dgt (rdv (sv a) (ss 3 a)) ((x1.1 : Nat) : Int).toNat) zx) ∧ ∀ x6 : Int, (x6 = dgt (rdv (sv a) (ss 3 a)) ((x1.1 : Nat) : Int).toNat) → (CallT Try.prog 72 #[sv b, .int .i64 ((x1.1 : Nat) : Int)] [(ss 3 b)] Int (fun zx => .int .i64 zx) (fun _ => [(ss 3 b)]) (fun zx => zx = dgt (rdv (sv b) (ss 3 b)) ((x1.1 : Nat) : Int).toNat)) ∧ (∃ zx : Int, (fun zx => zx = dgt (rdv (sv b) (ss 3 b)) ((x1.1 : Nat) : Int).toNat) zx) ∧ ∀ x7 : Int, (x7 = dgt (rdv (sv b) (ss 3 b)) ((x1.1 : Nat) : Int).toNat) → (∃ _ : Unit, True ∧ Value.int .i64 (IntKind.i64.wrap (x6 + x7)) = .int .i64 (x6 + x7)) ∧ ∀ _ : Unit, (True) → (∃ _ : Unit, True ∧ Value.int .i64 (IntKind.i64.wrap ((x6 + x7) + x1.2.1)) = .int .i64 ((x6 + x7) + x1.2.1)) ∧ ∀ _ : Unit, (True) → (∃ _ : Unit, True ∧ Value.int .i64 (Int.tmod ((x6 + x7) + x1.2.1) 65536) = .int .i64 (((x6 + x7) + x1.2.1) % 65536)) ∧ ∀ _ : Unit, (True) → ∀ b8 : Nat, (OpT Try.prog (do pure (.value (← Builtin.append_ #[41, 41] 41 #[sv x1.2.2, .slice (some ⟨b8, 0, none⟩) 1 1]))) [(ss 3 x1.2.2), .blk b8 (.cells #[.int .i64 (((x6 + x7) + x1.2.1) % 65536)] 3 (0, 0))] Row (fun zx => sv zx) (fun zx => [(ss 3 zx), .blk b8 (.cells #[.int .i64 (((x6 + x7) + x1.2.1) % 65536)] 3 (0, 0))]) (fun zx => vals zx = rvals (sv x1.2.2) (ss 3 x1.2.2) ++ [.int .i64 (((x6 + x7) + x1.2.1) % 65536)])) ∧ (∃ zx : Row, (fun zx => vals zx = rvals (sv x1.2.2) (ss 3 x1.2.2) ++ [.int .i64 (((x6 + x7) + x1.2.1) % 65536)]) zx) ∧ ∀ x9 : Row, (vals x9 = rvals (sv x1.2.2) (ss 3 x1.2.2) ++ [.int .i64 (((x6 + x7) + x1.2.1) % 65536)]) → (∃ _ : Unit, True ∧ Value.int .i64 (IntKind.i64.wrap (Int.tdiv ((x6 + x7) + x1.2.1) 65536)) = .int .i64 (((x6 + x7) + x1.2.1) / 65536)) ∧ ∀ _ : Unit, (True) → (∃ _ : Unit, True ∧ Value.int .i64 (IntKind.i64.wrap (((x1.1 : Nat) : Int) + 1)) = .int .i64 (((x1.1 : Nat) : Int) + 1)) ∧ ∀ _ : Unit, (True) → ∃ zy : Nat × Int × Row, (AddI (dg a) (dg b) zy.1 zy.2.1 (dg zy.2.2) ∧ RowOK zy.2.2) ∧ 2 * ((max (dg a).length (dg b).length) + 1 - zy.1) + zy.2.1.toNat < 2 * ((max (dg a).length (dg b).length) + 1 - x1.1) + x1.2.1.toNat ∧ sv a = sv a ∧ sv b = sv b ∧ sv x9 = sv zy.2.2 ∧ Value.int .i64 (((x6 + x7) + x1.2.1) / 65536) = .int .i64 zy.2.1 ∧ Value.int .i64 (((x1.1 : Nat) : Int) + 1) = .int .i64 ((zy.1 : Nat) : Int) ∧ (ss 3 a) = (ss 3 a) ∧ (ss 3 b) = (ss 3 b) ∧ (ss 3 x9) = (ss 3 zy.2.2) ∧ True) ∧ ((decide (x1.2.1 > (0 : Int))) = false → (CallT Try.prog 68 #[sv x1.2.2] [(ss 3 x1.2.2)] Row (fun zx => sv zx) (fun zx => [(ss 3 zx)]) (fun zx => RowOK zx ∧ ss 3 zx = (ss 3 x1.2.2) ∧ TrimR (rdv (sv x1.2.2) (ss 3 x1.2.2)) (dg zx))) ∧ (∃ zx : Row, (fun zx => RowOK zx ∧ ss 3 zx = (ss 3 x1.2.2) ∧ TrimR (rdv (sv x1.2.2) (ss 3 x1.2.2)) (dg zx)) zx) ∧ ∀ x10 : Row, (RowOK x10 ∧ ss 3 x10 = (ss 3 x1.2.2) ∧ TrimR (rdv (sv x1.2.2) (ss 3 x1.2.2)) (dg x10)) → ∃ zx : Row, (RowOK zx ∧ nv (dg zx) = nv (rdv (sv a) (ss 3 a)) + nv (rdv (sv b) (ss 3 b)) ∧ Canon (dg zx)) ∧ sv x10 = sv zx ∧ (ss 3 a) = (ss 3 a) ∧ (ss 3 b) = (ss 3 b) ∧ (ss 3 x10) = (ss 3 zx) ∧ True))) := by kernel_rfl
set_option maxRecDepth 100000 in
set_option maxHeartbeats 1000000 in
theorem ref1_Add (a : Row) (b : Row) (r_a : RowOK a) (r_b : RowOK b) (la : (dg a).length ≤ 65536) (lb : (dg b).length ≤ 65536) : CallT Try.prog 22 #[sv a, sv b] [(ss 3 a), (ss 3 b)] Row (fun zx => sv zx) (fun zx => [(ss 3 a), (ss 3 b), (ss 3 zx)]) (fun zx => (RowOK zx ∧ nv (dg zx) = nv (rdv (sv a) (ss 3 a)) + nv (rdv (sv b) (ss 3 b)) ∧ Canon (dg zx))) := by
  refine call_of (c := bodyOf Try.f22) (n := 40) (fn := Try.f22) Try.mixed Try.func22 (by kernel_rfl) (by kernel_rfl) (by kernel_rfl) 2000 _ [] [0, 1, 20] rfl rfl (Eq.mpr (ref1_Add_vc a b) ?_)
  have d_a := rdv_eq a 3
  have d_b := rdv_eq b 3
  have e_a := vlen_dg a
  have e_b := vlen_dg b
  have hm : (if (((vlen (sv b) : Nat) : Int)) > (((vlen (sv a) : Nat) : Int)) then (((vlen (sv b) : Nat) : Int)) else (((vlen (sv a) : Nat) : Int))) = (((max (dg a).length (dg b).length) : Nat) : Int) := by rw [e_a, e_b]; split <;> omega
  refine ⟨?_, fun x1 jx1 h1 => ?_⟩
  · exact ⟨(0, 0, Row.nil), ⟨add_start _ _, RowOK.nil⟩, rfl, rfl, rfl, rfl, rfl, rfl, rfl, rfl, trivial⟩
  · obtain ⟨L, ok⟩ := h1
    have l1 := L.le; have l2 := L.len; have l3 := L.c0; have l4 := L.c1; have l5 := L.ends
    have da := r_a.dig.dgt (Int.toNat ((x1.1 : Nat) : Int))
    have db := r_b.dig.dgt (Int.toNat ((x1.1 : Nat) : Int))
    refine ⟨fun h2 => ?_, fun h2 => ?_⟩
    · refine ⟨xlen Try.sl41 3 a, xlen Try.sl41 3 b, ⟨(), trivial, congrArg Value.bool h2⟩, ?_⟩
      intro _
      intro _
      refine ⟨rfl, rfl, ?_⟩
      refine ⟨rfl, ?_⟩
      try rw [hm] at *
      refine ⟨ref1_at a ((x1.1 : Nat) : Int) (by first | assumption | exact rowOK_lit _ _ (by decide)) (by omega), ⟨_, rfl⟩, ?_⟩
      intro x2
      intro h3
      simp only [rdv_eq] at h3
      refine ⟨ref1_at b ((x1.1 : Nat) : Int) (by first | assumption | exact rowOK_lit _ _ (by decide)) (by omega), ⟨_, rfl⟩, ?_⟩
      intro x3
      intro h4
      simp only [rdv_eq] at h4
      refine ⟨⟨(), trivial, congrArg (Value.int .i64) (wrap_i64 _ (by omega) (by omega))⟩, ?_⟩
      intro _
      intro _
      refine ⟨⟨(), trivial, congrArg (Value.int .i64) (wrap_i64 _ (by omega) (by omega))⟩, ?_⟩
      intro _
      intro _
      refine ⟨⟨(), trivial, congrArg (Value.int .i64) (tmod_nat (by omega))⟩, ?_⟩
      intro _
      intro _
      intro b4
      refine ⟨xappendR Try.sl41 41 x1.2.2 (by omega) b4 1 (.int .i64 (((x2 + x3) + x1.2.1) % 65536)) rfl, wit_app _, ?_⟩
      intro x5
      intro h5
      rw [rvals_eq] at h5
      refine ⟨⟨(), trivial, congrArg (Value.int .i64) (quo_i64 (by omega) (by omega))⟩, ?_⟩
      intro _
      intro _
      refine ⟨⟨(), trivial, congrArg (Value.int .i64) (wrap_i64 _ (by omega) (by omega))⟩, ?_⟩
      intro _
      intro _
      have hx : ((x2 + x3) + x1.2.1) = dgt (dg a) x1.1 + dgt (dg b) x1.1 + x1.2.1 := by
        simp only [Int.toNat_natCast] at *
        omega
      have hlt : (x1.1 < (max (dg a).length (dg b).length)) ∨ 0 < x1.2.1 := by
        simp only [decide_eq_true_eq, decide_eq_false_iff_not, gt_iff_lt, ge_iff_le, beq_iff_eq, beq_eq_false_iff_ne] at *
        omega
      obtain ⟨q1, q2, q3⟩ := add_step r_a.dig r_b.dig L hx hlt
      have q := RowOK.snoc ok q2 q3 (by assumption)
      have hmu := q1.c1
      exact ⟨(x1.1 + 1, ((x2 + x3) + x1.2.1) / 65536, x5), ⟨q.2 ▸ q1, q.1⟩, by dsimp only; omega, rfl, rfl, rfl, rfl, congrArg (Value.int .i64) (by dsimp only; omega), rfl, rfl, rfl, trivial⟩
    · refine ⟨xlen Try.sl41 3 a, xlen Try.sl41 3 b, ⟨(), trivial, congrArg Value.bool h2⟩, ?_⟩
      intro _
      intro _
      refine ⟨rfl, rfl, ?_⟩
      refine ⟨fun h6 => ?_, fun h6 => ?_⟩
      · try rw [hm] at *
        refine ⟨ref1_at a ((x1.1 : Nat) : Int) (by first | assumption | exact rowOK_lit _ _ (by decide)) (by omega), ⟨_, rfl⟩, ?_⟩
        intro x6
        intro h7
        simp only [rdv_eq] at h7
        refine ⟨ref1_at b ((x1.1 : Nat) : Int) (by first | assumption | exact rowOK_lit _ _ (by decide)) (by omega), ⟨_, rfl⟩, ?_⟩
        intro x7
        intro h8
        simp only [rdv_eq] at h8
        refine ⟨⟨(), trivial, congrArg (Value.int .i64) (wrap_i64 _ (by omega) (by omega))⟩, ?_⟩
        intro _
        intro _
        refine ⟨⟨(), trivial, congrArg (Value.int .i64) (wrap_i64 _ (by omega) (by omega))⟩, ?_⟩
        intro _
        intro _
        refine ⟨⟨(), trivial, congrArg (Value.int .i64) (tmod_nat (by omega))⟩, ?_⟩
        intro _
        intro _
        intro b8
        refine ⟨xappendR Try.sl41 41 x1.2.2 (by omega) b8 1 (.int .i64 (((x6 + x7) + x1.2.1) % 65536)) rfl, wit_app _, ?_⟩
        intro x9
        intro h9
        rw [rvals_eq] at h9
        refine ⟨⟨(), trivial, congrArg (Value.int .i64) (quo_i64 (by omega) (by omega))⟩, ?_⟩
        intro _
        intro _
        refine ⟨⟨(), trivial, congrArg (Value.int .i64) (wrap_i64 _ (by omega) (by omega))⟩, ?_⟩
        intro _
        intro _
        have hx : ((x6 + x7) + x1.2.1) = dgt (dg a) x1.1 + dgt (dg b) x1.1 + x1.2.1 := by
          simp only [Int.toNat_natCast] at *
          omega
        have hlt : (x1.1 < (max (dg a).length (dg b).length)) ∨ 0 < x1.2.1 := by
          simp only [decide_eq_true_eq, decide_eq_false_iff_not, gt_iff_lt, ge_iff_le, beq_iff_eq, beq_eq_false_iff_ne] at *
          omega
        obtain ⟨q1, q2, q3⟩ := add_step r_a.dig r_b.dig L hx hlt
        have q := RowOK.snoc ok q2 q3 (by assumption)
        have hmu := q1.c1
        exact ⟨(x1.1 + 1, ((x6 + x7) + x1.2.1) / 65536, x9), ⟨q.2 ▸ q1, q.1⟩, by dsimp only; omega, rfl, rfl, rfl, rfl, congrArg (Value.int .i64) (by dsimp only; omega), rfl, rfl, rfl, trivial⟩
      · refine ⟨ref1_Trim x1.2.2 (by first | assumption | exact rowOK_lit _ _ (by decide)) (by omega), wit_trim x1.2.2 (by first | assumption | exact rowOK_lit _ _ (by decide)), ?_⟩
        intro x10
        intro h10
        simp only [rdv_eq] at h10
        obtain ⟨rh10_, h10⟩ := h10
        have T : TrimR (dg x1.2.2) (dg x10) := by first | exact And.right (by assumption) | assumption
        have hi : (max (dg a).length (dg b).length) ≤ x1.1 := by
          simp only [decide_eq_true_eq, decide_eq_false_iff_not, gt_iff_lt, ge_iff_le, beq_iff_eq, beq_eq_false_iff_ne] at *
          omega
        have hc : x1.2.1 ≤ 0 := by
          simp only [decide_eq_true_eq, decide_eq_false_iff_not, gt_iff_lt, ge_iff_le, beq_iff_eq, beq_eq_false_iff_ne] at *
          omega
        exact ⟨_, ⟨by assumption, by rw [d_a, d_b]; exact T.eq.trans (add_end L hi hc), T.canon⟩, rfl, rfl, rfl, rfl, trivial⟩

def ref1_Add2_C : List Value → List Slot → Ctr := fun vs hs => ⟨Row, fun zx => sv zx, fun zx => [(sarg hs 0), (ss 3 zx)], fun zx => RowOK zx ∧ nv (dg zx) = nv (rdv (varg vs 1) (sarg hs 0)) + nv (rdv (varg vs 1) (sarg hs 0)) ∧ Canon (dg zx)⟩
set_option maxRecDepth 100000 in
set_option maxHeartbeats 1000000 in
theorem ref1_Add2_vc (a : Row) : codeW Try.prog 40 none 2000 none (bodyOf Try.f22) (.reg [.sem []] (.reg [.sem []] (.reg [.sem []] (.reg [.sem []] (.inv (Nat × Int × Row) (fun zx => [(0, sv a), (1, sv a), (5, sv zx.2.2), (6, .int .i64 zx.2.1), (7, .int .i64 ((zx.1 : Nat) : Int))]) (fun zx => [(0, (ss 3 a)), (20, (ss 3 zx.2.2))]) (fun zx => AddI (dg a) (dg a) zx.1 zx.2.1 (dg zx.2.2) ∧ RowOK zx.2.2) (fun zx => 2 * ((max (dg a).length (dg a).length) + 1 - zx.1) + zx.2.1.toNat) (fun x1 => .caseP (fun s => decide ((ci (s.fr 7)) < (if ((vlen (sv a) : Nat) : Int) > ((vlen (sv a) : Nat) : Int) then ((vlen (sv a) : Nat) : Int) else ((vlen (sv a) : Nat) : Int)))) (.reg [.sem [], .sem [], .eq (f_len), .sem [], .eq (f_len), .sem [], .gen [] (one (.bool true)), .sem [], .no, .no, .sem []] (.condT (.reg [.sem [], .sem [], .callr [0] ref1_at_C, .sem [], .sem [], .callr [0] ref1_at_C, .gen [] (fun vs => one (.int .i64 (ci (varg vs 0) + ci (varg vs 1))) vs), .sem [], .gen [] (fun vs => one (.int .i64 (ci (varg vs 0) + ci (varg vs 1))) vs), .sem []] (.reg [.sem [], .sem [], .gen [] (fun vs => one (.int .i64 (ci (varg vs 0) % 65536)) vs), .sem [.nw 1], .specw [20, 1] [20, 1] (F_app 3), .sem []] (.reg [.sem [], .gen [] (fun vs => one (.int .i64 (ci (varg vs 0) / 65536)) vs), .sem []] (.reg [.sem [], .gen [] (fun vs => one (.int .i64 (ci (varg vs 0) + ci (varg vs 1))) vs), .sem []] (.done))))))) (.reg [.sem [], .sem [], .eq (f_len), .sem [], .eq (f_len), .sem [], .gen [] (one (.bool false)), .sem [], .sem [], .sem [], .sem []] (.cond (.reg [.sem [], .sem [], .callr [0] ref1_at_C, .sem [], .sem [], .callr [0] ref1_at_C, .gen [] (fun vs => one (.int .i64 (ci (varg vs 0) + ci (varg vs 1))) vs), .sem [], .gen [] (fun vs => one (.int .i64 (ci (varg vs 0) + ci (varg vs 1))) vs), .sem []] (.reg [.sem [], .sem [], .gen [] (fun vs => one (.int .i64 (ci (varg vs 0) % 65536)) vs), .sem [.nw 1], .specw [20, 1] [20, 1] (F_app 3), .sem []] (.reg [.sem [], .gen [] (fun vs => one (.int .i64 (ci (varg vs 0) / 65536)) vs), .sem []] (.reg [.sem [], .gen [] (fun vs => one (.int .i64 (ci (varg vs 0) + ci (varg vs 1))) vs), .sem []] (.done))))) (.reg [.sem [], .callw [20] [20] ref1_Trim_C, .sem []] (.done))))))))))
    (init #[sv a, sv a] [(ss 3 a)]) (finW Try.prog Try.f22 [] [0, 20] (X := Row) (fun zx => sv zx) (fun zx => [(ss 3 a), (ss 3 zx)]) (fun zx => (RowOK zx ∧ nv (dg zx) = nv (rdv (sv a) (ss 3 a)) + nv (rdv (sv a) (ss 3 a)) ∧ Canon (dg zx)))) =
    ((∃ zx : Nat × Int × Row, (AddI (dg a) (dg a) zx.1 zx.2.1 (dg zx.2.2) ∧ RowOK zx.2.2) ∧ sv a = sv a ∧ sv a = sv a ∧ Value.slice none 0 0 = sv zx.2.2 ∧ Value.int .i64 0 = .int .i64 zx.2.1 ∧ Value.int .i64 0 = .int .i64 ((zx.1 : Nat) : Int) ∧ (ss 3 a) = (ss 3 a) ∧ Slot.free = (ss 3 zx.2.2) ∧ True) ∧ ∀ x1 : Nat × Int × Row, ∀ jx1 : Nat → Value, (AddI (dg a) (dg a) x1.1 x1.2.1 (dg x1.2.2) ∧ RowOK x1.2.2) → ((decide (((x1.1 : Nat) : Int) < (if ((vlen (sv a) : Nat) : Int) > ((vlen (sv a) : Nat) : Int) then ((vlen (sv a) : Nat) : Int) else ((vlen (sv a) : Nat) : Int)))) = true → (PureRun Try.prog (do pure (.value (← Builtin.len_ #[41] 3 #[sv a]))) (.int .i64 ((vlen (sv a) : Nat) : Int))) ∧ (PureRun Try.prog (do pure (.value (← Builtin.len_ #[41] 3 #[sv a]))) (.int .i64 ((vlen (sv a) : Nat) : Int))) ∧ (∃ _ : Unit, True ∧ Value.bool (decide (((x1.1 : Nat) : Int) < (if ((vlen (sv a) : Nat) : Int) > ((vlen (sv a) : Nat) : Int) then ((vlen (sv a) : Nat) : Int) else ((vlen (sv a) : Nat) : Int)))) = .bool true) ∧ ∀ _ : Unit, (True) → true = !false ∧ true = !false ∧ (true = true) ∧ (CallT Try.prog 72 #[sv a, .int .i64 ((x1.1 : Nat) : Int)] [(ss 3 a)] Int (fun zx => .int .i64 zx) (fun _ => [(ss 3 a)]) (fun zx => zx = dgt (rdv (sv a) (ss 3 a)) ((x1.1 : Nat) : Int).toNat)) ∧ (∃ zx : Int, (fun zx => zx = dgt (rdv (sv a) (ss 3 a)) ((x1.1 : Nat) : Int).toNat) zx) ∧ ∀ x2 : Int, (x2 = dgt (rdv (sv a) (ss 3 a)) ((x1.1 : Nat) : Int).toNat) → (CallT Try.prog 72 #[sv a, .int .i64 ((x1.1 : Nat) : Int)] [(ss 3 a)] Int (fun zx => .int .i64 zx) (fun _ => [(ss 3 a)]) (fun zx => zx = dgt (rdv (sv a) (ss 3 a)) ((x1.1 : Nat) : Int).toNat)) ∧ (∃ zx : Int, (fun zx => zx = dgt (rdv (sv a) (ss 3 a)) ((x1.1 : Nat) : Int).toNat) zx) ∧ ∀ x3 : Int, (x3 = dgt (rdv (sv a) (ss 3 a)) ((x1.1 : Nat) : Int).toNat) → (∃ _ : Unit, True ∧ Value.int .i64 (IntKind.i64.wrap (x2 + x3)) = .int .i64 (x2 + x3)) ∧ ∀ _ : Unit, (True) → (∃ _ : Unit, True ∧ Value.int .i64 (IntKind.i64.wrap ((x2 + x3) + x1.2.1)) = .int .i64 ((x2 + x3) + x1.2.1)) ∧ ∀ _ : Unit, (True) → (∃ _ : Unit, True ∧ Value.int .i64 (Int.tmod ((x2 + x3) + x1.2.1) 65536) = .int .i64 (((x2 + x3) + x1.2.1) % 65536)) ∧ ∀ _ : Unit, (True) → ∀ b4 : Nat, (OpT Try.prog (do pure (.value (← Builtin.append_ #[41, 41] 41 #[sv x1.2.2, .slice (some ⟨b4, 0, none⟩) 1 1]))) [(ss 3 x1.2.2), .blk b4 (.cells #[.int .i64 (((x2 + x3) + x1.2.1) % 65536)] 3 (0, 0))] Row (fun zx => sv zx) (fun zx => [(ss 3 zx), .blk b4 (.cells #[.int .i64 (((x2 + x3) + x1.2.1) % 65536)] 3 (0, 0))]) (fun zx => vals zx = rvals (sv x1.2.2) (ss 3 x1.2.2) ++ [.int .i64 (((x2 + x3) + x1.2.1) % 65536)])) ∧ (∃ zx : Row, (fun zx => vals zx = rvals (sv x1.2.2) (ss 3 x1.2.2) ++ [.int .i64 (((x2 + x3) + x1.2.1) % 65536)]) zx) ∧ ∀ x5 : Row, (vals x5 = rvals (sv x1.2.2) (ss 3 x1.2.2) ++ [.int .i64 (((x2 + x3) + x1.2.1) % 65536)]) → (∃ _ : Unit, True ∧ Value.int .i64 (IntKind.i64.wrap (Int.tdiv ((x2 + x3) + x1.2.1) 65536)) = .int .i64 (((x2 + x3) + x1.2.1) / 65536)) ∧ ∀ _ : Unit, (True) → (∃ _ : Unit, True ∧ Value.int .i64 (IntKind.i64.wrap (((x1.1 : Nat) : Int) + 1)) = .int .i64 (((x1.1 : Nat) : Int) + 1)) ∧ ∀ _ : Unit, (True) → ∃ zy : Nat × Int × Row, (AddI (dg a) (dg a) zy.1 zy.2.1 (dg zy.2.2) ∧ RowOK zy.2.2) ∧ 2 * ((max (dg a).length (dg a).length) + 1 - zy.1) + zy.2.1.toNat < 2 * ((max (dg a).length (dg a).length) + 1 - x1.1) + x1.2.1.toNat ∧ sv a = sv a ∧ sv a = sv a ∧ sv x5 = sv zy.2.2 ∧ Value.int .i64 (((x2 + x3) + x1.2.1) / 65536) = .int .i64 zy.2.1 ∧ Value.int .i64 (((x1.1 : Nat) : Int) + 1) = .int .i64 ((zy.1 : Nat) : Int) ∧ (ss 3 a) = (ss 3 a) ∧ (ss 3 x5) = (ss 3 zy.2.2) ∧ True) ∧ ((decide (((x1.1 : Nat) : Int) < (if ((vlen (sv a) : Nat) : Int) > ((vlen (sv a) : Nat) : Int) then ((vlen (sv a) : Nat) : Int) else ((vlen (sv a) : Nat) : Int)))) = false → (PureRun Try.prog (do pure (.value (← Builtin.len_ #[41] 3 #[sv a]))) (.int .i64 ((vlen (sv a) : Nat) : Int))) ∧ (PureRun Try.prog (do pure (.value (← Builtin.len_ #[41] 3 #[sv a]))) (.int .i64 ((vlen (sv a) : Nat) : Int))) ∧ (∃ _ : Unit, True ∧ Value.bool (decide (((x1.1 : Nat) : Int) < (if ((vlen (sv a) : Nat) : Int) > ((vlen (sv a) : Nat) : Int) then ((vlen (sv a) : Nat) : Int) else ((vlen (sv a) : Nat) : Int)))) = .bool false) ∧ ∀ _ : Unit, (True) → false = false ∧ false = false ∧ ((decide (x1.2.1 > (0 : Int))) = true → (CallT Try.prog 72 #[sv a, .int .i64 ((x1.1 : Nat) : Int)] [(ss 3 a)] Int (fun zx => .int .i64 zx) (fun _ => [(ss 3 a)]) (fun zx => zx = dgt (rdv (sv a) (ss 3 a)) ((x1.1 : Nat) : Int).toNat)) ∧ (∃ zx : Int, (fun zx => zx = dgt (rdv (sv a) (ss 3 a)) ((x1.1 : Nat) : Int).toNat) zx) ∧ ∀ x6 : Int, (x6 = dgt (rdv (sv a) (ss 3 a)) ((x1.1 : Nat) : Int).toNat) → (CallT Try.prog 72 #[sv a, .int .i64 ((x1.1 : Nat) : Int)] [(ss 3 a)] Int (fun zx => .int .i64 zx) (fun _ => [(ss 3 a)]) (fun zx => zx = dgt (rdv (sv a) (ss 3 a)) ((x1.1 : Nat) : Int).toNat)) ∧ (∃ zx : Int, (fun zx => zx = dgt (rdv (sv a) (ss 3 a)) ((x1.1 : Nat) : Int).toNat) zx) ∧ ∀ x7 : Int, (x7 = dgt (rdv (sv a) (ss 3 a)) ((x1.1 : Nat) : Int).toNat) → (∃ _ : Unit, True ∧ Value.int .i64 (IntKind.i64.wrap (x6 + x7)) = .int .i64 (x6 + x7)) ∧ ∀ _ : Unit, (True) → (∃ _ : Unit, True ∧ Value.int .i64 (IntKind.i64.wrap ((x6 + x7) + x1.2.1)) = .int .i64 ((x6 + x7) + x1.2.1)) ∧ ∀ _ : Unit, (True) → (∃ _ : Unit, True ∧ Value.int .i64 (Int.tmod ((x6 + x7) + x1.2.1) 65536) = .int .i64 (((x6 + x7) + x1.2.1) % 65536)) ∧ ∀ _ : Unit, (True) → ∀ b8 : Nat, (OpT Try.prog (do pure (.value (← Builtin.append_ #[41, 41] 41 #[sv x1.2.2, .slice (some ⟨b8, 0, none⟩) 1 1]))) [(ss 3 x1.2.2), .blk b8 (.cells #[.int .i64 (((x6 + x7) + x1.2.1) % 65536)] 3 (0, 0))] Row (fun zx => sv zx) (fun zx => [(ss 3 zx), .blk b8 (.cells #[.int .i64 (((x6 + x7) + x1.2.1) % 65536)] 3 (0, 0))]) (fun zx => vals zx = rvals (sv x1.2.2) (ss 3 x1.2.2) ++ [.int .i64 (((x6 + x7) + x1.2.1) % 65536)])) ∧ (∃ zx : Row, (fun zx => vals zx = rvals (sv x1.2.2) (ss 3 x1.2.2) ++ [.int .i64 (((x6 + x7) + x1.2.1) % 65536)]) zx) ∧ ∀ x9 : Row, (vals x9 = rvals (sv x1.2.2) (ss 3 x1.2.2) ++ [.int .i64 (((x6 + x7) + x1.2.1) % 65536)]) → (∃ _ : Unit, True ∧ Value.int .i64 (IntKind.i64.wrap (Int.tdiv ((x6 + x7) + x1.2.1) 65536)) = .int .i64 (((x6 + x7) + x1.2.1) / 65536)) ∧ ∀ _ : Unit, (True) → (∃ _ : Unit, True ∧ Value.int .i64 (IntKind.i64.wrap (((x1.1 : Nat) : Int) + 1)) = .int .i64 (((x1.1 : Nat) : Int) + 1)) ∧ ∀ _ : Unit, (True) → ∃ zy : Nat × Int × Row, (AddI (dg a) (dg a) zy.1 zy.2.1 (dg zy.2.2) ∧ RowOK zy.2.2) ∧ 2 * ((max (dg a).length (dg a).length) + 1 - zy.1) + zy.2.1.toNat < 2 * ((max (dg a).length (dg a).length) + 1 - x1.1) + x1.2.1.toNat ∧ sv a = sv a ∧ sv a = sv a ∧ sv x9 = sv zy.2.2 ∧ Value.int .i64 (((x6 + x7) + x1.2.1) / 65536) = .int .i64 zy.2.1 ∧ Value.int .i64 (((x1.1 : Nat) : Int) + 1) = .int .i64 ((zy.1 : Nat) : Int) ∧ (ss 3 a) = (ss 3 a) ∧ (ss 3 x9) = (ss 3 zy.2.2) ∧ True) ∧ ((decide (x1.2.1 > (0 : Int))) = false → (CallT Try.prog 68 #[sv x1.2.2] [(ss 3 x1.2.2)] Row (fun zx => sv zx) (fun zx => [(ss 3 zx)]) (fun zx => RowOK zx ∧ ss 3 zx = (ss 3 x1.2.2) ∧ TrimR (rdv (sv x1.2.2) (ss 3 x1.2.2)) (dg zx))) ∧ (∃ zx : Row, (fun zx => RowOK zx ∧ ss 3 zx = (ss 3 x1.2.2) ∧ TrimR (rdv (sv x1.2.2) (ss 3 x1.2.2)) (dg zx)) zx) ∧ ∀ x10 : Row, (RowOK x10 ∧ ss 3 x10 = (ss 3 x1.2.2) ∧ TrimR (rdv (sv x1.2.2) (ss 3 x1.2.2)) (dg x10)) → ∃ zx : Row, (RowOK zx ∧ nv (dg zx) = nv (rdv (sv a) (ss 3 a)) + nv (rdv (sv a) (ss 3 a)) ∧ Canon (dg zx)) ∧ sv x10 = sv zx ∧ (ss 3 a) = (ss 3 a) ∧ (ss 3 x10) = (ss 3 zx) ∧ True))) := by kernel_rfl
set_option maxRecDepth 100000 in
set_option maxHeartbeats 1000000 in
theorem ref1_Add2 (a : Row) (r_a : RowOK a) (la : (dg a).length ≤ 65536) : CallT Try.prog 22 #[sv a, sv a] [(ss 3 a)] Row (fun zx => sv zx) (fun zx => [(ss 3 a), (ss 3 zx)]) (fun zx => (RowOK zx ∧ nv (dg zx) = nv (rdv (sv a) (ss 3 a)) + nv (rdv (sv a) (ss 3 a)) ∧ Canon (dg zx))) := by
  refine call_of (c := bodyOf Try.f22) (n := 40) (fn := Try.f22) Try.mixed Try.func22 (by kernel_rfl) (by kernel_rfl) (by kernel_rfl) 2000 _ [] [0, 20] rfl rfl (Eq.mpr (ref1_Add2_vc a) ?_)
  have d_a := rdv_eq a 3
  have e_a := vlen_dg a
  have hm : (if (((vlen (sv a) : Nat) : Int)) > (((vlen (sv a) : Nat) : Int)) then (((vlen (sv a) : Nat) : Int)) else (((vlen (sv a) : Nat) : Int))) = (((max (dg a).length (dg a).length) : Nat) : Int) := by rw [e_a]; split <;> omega
  refine ⟨?_, fun x1 jx1 h1 => ?_⟩
  · exact ⟨(0, 0, Row.nil), ⟨add_start _ _, RowOK.nil⟩, rfl, rfl, rfl, rfl, rfl, rfl, rfl, trivial⟩
  · obtain ⟨L, ok⟩ := h1
    have l1 := L.le; have l2 := L.len; have l3 := L.c0; have l4 := L.c1; have l5 := L.ends
    have da := r_a.dig.dgt (Int.toNat ((x1.1 : Nat) : Int))
    have db := r_a.dig.dgt (Int.toNat ((x1.1 : Nat) : Int))
    refine ⟨fun h2 => ?_, fun h2 => ?_⟩
    · refine ⟨xlen Try.sl41 3 a, xlen Try.sl41 3 a, ⟨(), trivial, congrArg Value.bool h2⟩, ?_⟩
      intro _
      intro _
      refine ⟨rfl, rfl, ?_⟩
      refine ⟨rfl, ?_⟩
      try rw [hm] at *
      refine ⟨ref1_at a ((x1.1 : Nat) : Int) (by first | assumption | exact rowOK_lit _ _ (by decide)) (by omega), ⟨_, rfl⟩, ?_⟩
      intro x2
      intro h3
      simp only [rdv_eq] at h3
      refine ⟨ref1_at a ((x1.1 : Nat) : Int) (by first | assumption | exact rowOK_lit _ _ (by decide)) (by omega), ⟨_, rfl⟩, ?_⟩
      intro x3
      intro h4
      simp only [rdv_eq] at h4
      refine ⟨⟨(), trivial, congrArg (Value.int .i64) (wrap_i64 _ (by omega) (by omega))⟩, ?_⟩
      intro _
      intro _
      refine ⟨⟨(), trivial, congrArg (Value.int .i64) (wrap_i64 _ (by omega) (by omega))⟩, ?_⟩
      intro _
      intro _
      refine ⟨⟨(), trivial, congrArg (Value.int .i64) (tmod_nat (by omega))⟩, ?_⟩
      intro _
      intro _
      intro b4
      refine ⟨xappendR Try.sl41 41 x1.2.2 (by omega) b4 1 (.int .i64 (((x2 + x3) + x1.2.1) % 65536)) rfl, wit_app _, ?_⟩
      intro x5
      intro h5
      rw [rvals_eq] at h5
      refine ⟨⟨(), trivial, congrArg (Value.int .i64) (quo_i64 (by omega) (by omega))⟩, ?_⟩
      intro _
      intro _
      refine ⟨⟨(), trivial, congrArg (Value.int .i64) (wrap_i64 _ (by omega) (by omega))⟩, ?_⟩
      intro _
      intro _
      have hx : ((x2 + x3) + x1.2.1) = dgt (dg a) x1.1 + dgt (dg a) x1.1 + x1.2.1 := by
        simp only [Int.toNat_natCast] at *
        omega
      have hlt : (x1.1 < (max (dg a).length (dg a).length)) ∨ 0 < x1.2.1 := by
        simp only [decide_eq_true_eq, decide_eq_false_iff_not, gt_iff_lt, ge_iff_le, beq_iff_eq, beq_eq_false_iff_ne] at *
        omega
      obtain ⟨q1, q2, q3⟩ := add_step r_a.dig r_a.dig L hx hlt
      have q := RowOK.snoc ok q2 q3 (by assumption)
      have hmu := q1.c1
      exact ⟨(x1.1 + 1, ((x2 + x3) + x1.2.1) / 65536, x5), ⟨q.2 ▸ q1, q.1⟩, by dsimp only; omega, rfl, rfl, rfl, rfl, congrArg (Value.int .i64) (by dsimp only; omega), rfl, rfl, trivial⟩
    · refine ⟨xlen Try.sl41 3 a, xlen Try.sl41 3 a, ⟨(), trivial, congrArg Value.bool h2⟩, ?_⟩
      intro _
      intro _
      refine ⟨rfl, rfl, ?_⟩
      refine ⟨fun h6 => ?_, fun h6 => ?_⟩
      · try rw [hm] at *
        refine ⟨ref1_at a ((x1.1 : Nat) : Int) (by first | assumption | exact rowOK_lit _ _ (by decide)) (by omega), ⟨_, rfl⟩, ?_⟩
        intro x6
        intro h7
        simp only [rdv_eq] at h7
        refine ⟨ref1_at a ((x1.1 : Nat) : Int) (by first | assumption | exact rowOK_lit _ _ (by decide)) (by omega), ⟨_, rfl⟩, ?_⟩
        intro x7
        intro h8
        simp only [rdv_eq] at h8
        refine ⟨⟨(), trivial, congrArg (Value.int .i64) (wrap_i64 _ (by omega) (by omega))⟩, ?_⟩
        intro _
        intro _
        refine ⟨⟨(), trivial, congrArg (Value.int .i64) (wrap_i64 _ (by omega) (by omega))⟩, ?_⟩
        intro _
        intro _
        refine ⟨⟨(), trivial, congrArg (Value.int .i64) (tmod_nat (by omega))⟩, ?_⟩
        intro _
        intro _
        intro b8
        refine ⟨xappendR Try.sl41 41 x1.2.2 (by omega) b8 1 (.int .i64 (((x6 + x7) + x1.2.1) % 65536)) rfl, wit_app _, ?_⟩
        intro x9
        intro h9
        rw [rvals_eq] at h9
        refine ⟨⟨(), trivial, congrArg (Value.int .i64) (quo_i64 (by omega) (by omega))⟩, ?_⟩
        intro _
        intro _
        refine ⟨⟨(), trivial, congrArg (Value.int .i64) (wrap_i64 _ (by omega) (by omega))⟩, ?_⟩
        intro _
        intro _
        have hx : ((x6 + x7) + x1.2.1) = dgt (dg a) x1.1 + dgt (dg a) x1.1 + x1.2.1 := by
          simp only [Int.toNat_natCast] at *
          omega
        have hlt : (x1.1 < (max (dg a).length (dg a).length)) ∨ 0 < x1.2.1 := by
          simp only [decide_eq_true_eq, decide_eq_false_iff_not, gt_iff_lt, ge_iff_le, beq_iff_eq, beq_eq_false_iff_ne] at *
          omega
        obtain ⟨q1, q2, q3⟩ := add_step r_a.dig r_a.dig L hx hlt
        have q := RowOK.snoc ok q2 q3 (by assumption)
        have hmu := q1.c1
        exact ⟨(x1.1 + 1, ((x6 + x7) + x1.2.1) / 65536, x9), ⟨q.2 ▸ q1, q.1⟩, by dsimp only; omega, rfl, rfl, rfl, rfl, congrArg (Value.int .i64) (by dsimp only; omega), rfl, rfl, trivial⟩
      · refine ⟨ref1_Trim x1.2.2 (by first | assumption | exact rowOK_lit _ _ (by decide)) (by omega), wit_trim x1.2.2 (by first | assumption | exact rowOK_lit _ _ (by decide)), ?_⟩
        intro x10
        intro h10
        simp only [rdv_eq] at h10
        obtain ⟨rh10_, h10⟩ := h10
        have T : TrimR (dg x1.2.2) (dg x10) := by first | exact And.right (by assumption) | assumption
        have hi : (max (dg a).length (dg a).length) ≤ x1.1 := by
          simp only [decide_eq_true_eq, decide_eq_false_iff_not, gt_iff_lt, ge_iff_le, beq_iff_eq, beq_eq_false_iff_ne] at *
          omega
        have hc : x1.2.1 ≤ 0 := by
          simp only [decide_eq_true_eq, decide_eq_false_iff_not, gt_iff_lt, ge_iff_le, beq_iff_eq, beq_eq_false_iff_ne] at *
          omega
        exact ⟨_, ⟨by assumption, by rw [d_a]; exact T.eq.trans (add_end L hi hc), T.canon⟩, rfl, rfl, rfl, trivial⟩

def ref1_Sub_C : List Value → List Slot → Ctr := fun vs hs => ⟨Row, fun zx => sv zx, fun zx => [(sarg hs 0), (sarg hs 1), (ss 3 zx)], fun zx => RowOK zx ∧ nv (dg zx) = nv (rdv (varg vs 1) (sarg hs 0)) - nv (rdv (varg vs 2) (sarg hs 1)) ∧ Canon (dg zx)⟩
set_option maxRecDepth 100000 in
set_option maxHeartbeats 1000000 in
theorem ref1_Sub_vc (a : Row) (b : Row) : codeW Try.prog 35 none 2000 none (bodyOf Try.f80) (.reg [.sem []] (.reg [.sem []] (.reg [.sem []] (.reg [.sem []] (.inv (Nat × Int × Row) (fun zx => [(0, sv a), (1, sv b), (5, sv zx.2.2), (6, .int .i64 zx.2.1), (7, .int .i64 ((zx.1 : Nat) : Int))]) (fun zx => [(0, (ss 3 a)), (1, (ss 3 b)), (20, (ss 3 zx.2.2))]) (fun zx => SubI (dg a) (dg b) zx.1 zx.2.1 (dg zx.2.2) ∧ RowOK zx.2.2) (fun zx => (dg a).length - zx.1) (fun x1 => .reg [.sem [], .sem [], .eq (f_len), .sem []] (.cond (.reg [.sem [], .sem [], .eq (f_idx), .specr [0] F_get, .sem [], .sem [], .callr [1] ref1_at_C, .gen [] (fun vs => one (.int .i64 (ci (varg vs 0) - ci (varg vs 1))) vs), .sem [], .gen [] (fun vs => one (.int .i64 (ci (varg vs 0) - ci (varg vs 1))) vs), .sem []] (.reg [.sem []] (.reg [.sem [], .sem []] (.cond (.reg [.sem [], .gen [] (fun vs => one (.int .i64 (ci (varg vs 0) + ci (varg vs 1))) vs), .sem []] (.reg [.sem []] (.reg [.sem [], .sem [], .sem [.nw 2], .specw [20, 2] [20, 2] (F_app 3), .sem []] (.reg [.sem [], .gen [] (fun vs => one (.int .i64 (ci (varg vs 0) + ci (varg vs 1))) vs), .sem []] (.done))))) (.reg [.sem [], .sem [], .sem [.nw 2], .specw [20, 2] [20, 2] (F_app 3), .sem []] (.reg [.sem [], .gen [] (fun vs => one (.int .i64 (ci (varg vs 0) + ci (varg vs 1))) vs), .sem []] (.done))))))) (.reg [.sem [], .callw [20] [20] ref1_Trim_C, .sem []] (.done)))))))))
    (init #[sv a, sv b] [(ss 3 a), (ss 3 b)]) (finW Try.prog Try.f80 [] [0, 1, 20] (X := Row) (fun zx => sv zx) (fun zx => [(ss 3 a), (ss 3 b), (ss 3 zx)]) (fun zx => (RowOK zx ∧ nv (dg zx) = nv (rdv (sv a) (ss 3 a)) - nv (rdv (sv b) (ss 3 b)) ∧ Canon (dg zx)))) =
    ((∃ zx : Nat × Int × Row, (SubI (dg a) (dg b) zx.1 zx.2.1 (dg zx.2.2) ∧ RowOK zx.2.2) ∧ sv a = sv a ∧ sv b = sv b ∧ Value.slice none 0 0 = sv zx.2.2 ∧ Value.int .i64 0 = .int .i64 zx.2.1 ∧ Value.int .i64 0 = .int .i64 ((zx.1 : Nat) : Int) ∧ (ss 3 a) = (ss 3 a) ∧ (ss 3 b) = (ss 3 b) ∧ Slot.free = (ss 3 zx.2.2) ∧ True) ∧ ∀ x1 : Nat × Int × Row, ∀ jx1 : Nat → Value, (SubI (dg a) (dg b) x1.1 x1.2.1 (dg x1.2.2) ∧ RowOK x1.2.2) → (PureRun Try.prog (do pure (.value (← Builtin.len_ #[41] 3 #[sv a]))) (.int .i64 ((vlen (sv a) : Nat) : Int))) ∧ ((decide (((x1.1 : Nat) : Int) < ((vlen (sv a) : Nat) : Int))) = true → (PureRun Try.prog (do pure (.value (← Instr.indexAt 41 (sv a) (.int .i64 ((x1.1 : Nat) : Int))))) (.pointer (some ⟨(vblk (sv a)), (Int.toNat ((x1.1 : Nat) : Int)), none⟩))) ∧ (OpT Try.prog (do pure (.value (← Instr.loadAt 3 (.pointer (some ⟨(vblk (sv a)), (Int.toNat ((x1.1 : Nat) : Int)), none⟩))))) [(ss 3 a)] Int (fun zx => .int .i64 zx) (fun _ => [(ss 3 a)]) (fun zx => (scells (ss 3 a))[(Int.toNat ((x1.1 : Nat) : Int))]? = some (.int .i64 zx))) ∧ (∃ zx : Int, (fun zx => (scells (ss 3 a))[(Int.toNat ((x1.1 : Nat) : Int))]? = some (.int .i64 zx)) zx) ∧ ∀ x2 : Int, ((scells (ss 3 a))[(Int.toNat ((x1.1 : Nat) : Int))]? = some (.int .i64 x2)) → (CallT Try.prog 72 #[sv b, .int .i64 ((x1.1 : Nat) : Int)] [(ss 3 b)] Int (fun zx => .int .i64 zx) (fun _ => [(ss 3 b)]) (fun zx => zx = dgt (rdv (sv b) (ss 3 b)) ((x1.1 : Nat) : Int).toNat)) ∧ (∃ zx : Int, (fun zx => zx = dgt (rdv (sv b) (ss 3 b)) ((x1.1 : Nat) : Int).toNat) zx) ∧ ∀ x3 : Int, (x3 = dgt (rdv (sv b) (ss 3 b)) ((x1.1 : Nat) : Int).toNat) → (∃ _ : Unit, True ∧ Value.int .i64 (IntKind.i64.wrap (x2 - x3)) = .int .i64 (x2 - x3)) ∧ ∀ _ : Unit, (True) → (∃ _ : Unit, True ∧ Value.int .i64 (IntKind.i64.wrap ((x2 - x3) - x1.2.1)) = .int .i64 ((x2 - x3) - x1.2.1)) ∧ ∀ _ : Unit, (True) → ((decide (((x2 - x3) - x1.2.1) < (0 : Int))) = true → (∃ _ : Unit, True ∧ Value.int .i64 (IntKind.i64.wrap (((x2 - x3) - x1.2.1) + 65536)) = .int .i64 (((x2 - x3) - x1.2.1) + 65536)) ∧ ∀ _ : Unit, (True) → ∀ b4 : Nat, (OpT Try.prog (do pure (.value (← Builtin.append_ #[41, 41] 41 #[sv x1.2.2, .slice (some ⟨b4, 0, none⟩) 1 1]))) [(ss 3 x1.2.2), .blk b4 (.cells #[.int .i64 (((x2 - x3) - x1.2.1) + 65536)] 3 (0, 0))] Row (fun zx => sv zx) (fun zx => [(ss 3 zx), .blk b4 (.cells #[.int .i64 (((x2 - x3) - x1.2.1) + 65536)] 3 (0, 0))]) (fun zx => vals zx = rvals (sv x1.2.2) (ss 3 x1.2.2) ++ [.int .i64 (((x2 - x3) - x1.2.1) + 65536)])) ∧ (∃ zx : Row, (fun zx => vals zx = rvals (sv x1.2.2) (ss 3 x1.2.2) ++ [.int .i64 (((x2 - x3) - x1.2.1) + 65536)]) zx) ∧ ∀ x5 : Row, (vals x5 = rvals (sv x1.2.2) (ss 3 x1.2.2) ++ [.int .i64 (((x2 - x3) - x1.2.1) + 65536)]) → (∃ _ : Unit, True ∧ Value.int .i64 (IntKind.i64.wrap (((x1.1 : Nat) : Int) + 1)) = .int .i64 (((x1.1 : Nat) : Int) + 1)) ∧ ∀ _ : Unit, (True) → ∃ zy : Nat × Int × Row, (SubI (dg a) (dg b) zy.1 zy.2.1 (dg zy.2.2) ∧ RowOK zy.2.2) ∧ (dg a).length - zy.1 < (dg a).length - x1.1 ∧ sv a = sv a ∧ sv b = sv b ∧ sv x5 = sv zy.2.2 ∧ Value.int .i64 1 = .int .i64 zy.2.1 ∧ Value.int .i64 (((x1.1 : Nat) : Int) + 1) = .int .i64 ((zy.1 : Nat) : Int) ∧ (ss 3 a) = (ss 3 a) ∧ (ss 3 b) = (ss 3 b) ∧ (ss 3 x5) = (ss 3 zy.2.2) ∧ True) ∧ ((decide (((x2 - x3) - x1.2.1) < (0 : Int))) = false → ∀ b6 : Nat, (OpT Try.prog (do pure (.value (← Builtin.append_ #[41, 41] 41 #[sv x1.2.2, .slice (some ⟨b6, 0, none⟩) 1 1]))) [(ss 3 x1.2.2), .blk b6 (.cells #[.int .i64 ((x2 - x3) - x1.2.1)] 3 (0, 0))] Row (fun zx => sv zx) (fun zx => [(ss 3 zx), .blk b6 (.cells #[.int .i64 ((x2 - x3) - x1.2.1)] 3 (0, 0))]) (fun zx => vals zx = rvals (sv x1.2.2) (ss 3 x1.2.2) ++ [.int .i64 ((x2 - x3) - x1.2.1)])) ∧ (∃ zx : Row, (fun zx => vals zx = rvals (sv x1.2.2) (ss 3 x1.2.2) ++ [.int .i64 ((x2 - x3) - x1.2.1)]) zx) ∧ ∀ x7 : Row, (vals x7 = rvals (sv x1.2.2) (ss 3 x1.2.2) ++ [.int .i64 ((x2 - x3) - x1.2.1)]) → (∃ _ : Unit, True ∧ Value.int .i64 (IntKind.i64.wrap (((x1.1 : Nat) : Int) + 1)) = .int .i64 (((x1.1 : Nat) : Int) + 1)) ∧ ∀ _ : Unit, (True) → ∃ zy : Nat × Int × Row, (SubI (dg a) (dg b) zy.1 zy.2.1 (dg zy.2.2) ∧ RowOK zy.2.2) ∧ (dg a).length - zy.1 < (dg a).length - x1.1 ∧ sv a = sv a ∧ sv b = sv b ∧ sv x7 = sv zy.2.2 ∧ Value.int .i64 0 = .int .i64 zy.2.1 ∧ Value.int .i64 (((x1.1 : Nat) : Int) + 1) = .int .i64 ((zy.1 : Nat) : Int) ∧ (ss 3 a) = (ss 3 a) ∧ (ss 3 b) = (ss 3 b) ∧ (ss 3 x7) = (ss 3 zy.2.2) ∧ True)) ∧ ((decide (((x1.1 : Nat) : Int) < ((vlen (sv a) : Nat) : Int))) = false → (CallT Try.prog 68 #[sv x1.2.2] [(ss 3 x1.2.2)] Row (fun zx => sv zx) (fun zx => [(ss 3 zx)]) (fun zx => RowOK zx ∧ ss 3 zx = (ss 3 x1.2.2) ∧ TrimR (rdv (sv x1.2.2) (ss 3 x1.2.2)) (dg zx))) ∧ (∃ zx : Row, (fun zx => RowOK zx ∧ ss 3 zx = (ss 3 x1.2.2) ∧ TrimR (rdv (sv x1.2.2) (ss 3 x1.2.2)) (dg zx)) zx) ∧ ∀ x8 : Row, (RowOK x8 ∧ ss 3 x8 = (ss 3 x1.2.2) ∧ TrimR (rdv (sv x1.2.2) (ss 3 x1.2.2)) (dg x8)) → ∃ zx : Row, (RowOK zx ∧ nv (dg zx) = nv (rdv (sv a) (ss 3 a)) - nv (rdv (sv b) (ss 3 b)) ∧ Canon (dg zx)) ∧ sv x8 = sv zx ∧ (ss 3 a) = (ss 3 a) ∧ (ss 3 b) = (ss 3 b) ∧ (ss 3 x8) = (ss 3 zx) ∧ True)) := by kernel_rfl
set_option maxRecDepth 100000 in
set_option maxHeartbeats 1000000 in
theorem ref1_Sub (a : Row) (b : Row) (r_a : RowOK a) (r_b : RowOK b) (la : (dg a).length ≤ 65536) (lb : (dg b).length ≤ 65536) (hle : nv (dg b) ≤ nv (dg a)) : CallT Try.prog 80 #[sv a, sv b] [(ss 3 a), (ss 3 b)] Row (fun zx => sv zx) (fun zx => [(ss 3 a), (ss 3 b), (ss 3 zx)]) (fun zx => (RowOK zx ∧ nv (dg zx) = nv (rdv (sv a) (ss 3 a)) - nv (rdv (sv b) (ss 3 b)) ∧ Canon (dg zx))) := by
  refine call_of (c := bodyOf Try.f80) (n := 35) (fn := Try.f80) Try.mixed Try.func80 (by kernel_rfl) (by kernel_rfl) (by kernel_rfl) 2000 _ [] [0, 1, 20] rfl rfl (Eq.mpr (ref1_Sub_vc a b) ?_)
  have d_a := rdv_eq a 3
  have d_b := rdv_eq b 3
  have e_a := vlen_dg a
  have e_b := vlen_dg b
  refine ⟨?_, fun x1 jx1 h1 => ?_⟩
  · exact ⟨(0, 0, Row.nil), ⟨sub_start _ _, RowOK.nil⟩, rfl, rfl, rfl, rfl, rfl, rfl, rfl, rfl, trivial⟩
  · obtain ⟨L, ok⟩ := h1
    have l1 := L.le; have l2 := L.len; have l3 := L.c0; have l4 := L.c1
    have da := r_a.dig.dgt (Int.toNat ((x1.1 : Nat) : Int))
    have db := r_b.dig.dgt (Int.toNat ((x1.1 : Nat) : Int))
    refine ⟨xlen Try.sl41 3 a, ?_⟩
    refine ⟨fun h2 => ?_, fun h2 => ?_⟩
    · refine ⟨xidx Try.sl41 a .i64 ((x1.1 : Nat) : Int) (by omega) (by rw [← dg_len]; simp only [decide_eq_true_eq, decide_eq_false_iff_not, gt_iff_lt, ge_iff_le, beq_iff_eq, beq_eq_false_iff_ne] at *; omega), xgetR (e := 3) a 3 Try.agg3 (Int.toNat ((x1.1 : Nat) : Int)) r_a (by simp only [decide_eq_true_eq, decide_eq_false_iff_not, gt_iff_lt, ge_iff_le, beq_iff_eq, beq_eq_false_iff_ne] at *; omega), wit_get (e := 3) a (Int.toNat ((x1.1 : Nat) : Int)) r_a (by simp only [decide_eq_true_eq, decide_eq_false_iff_not, gt_iff_lt, ge_iff_le, beq_iff_eq, beq_eq_false_iff_ne] at *; omega), ?_⟩
      intro x2
      intro h3
      replace h3 := getR (e := 3) a (Int.toNat ((x1.1 : Nat) : Int)) r_a (by simp only [decide_eq_true_eq, decide_eq_false_iff_not, gt_iff_lt, ge_iff_le, beq_iff_eq, beq_eq_false_iff_ne] at *; omega) h3
      refine ⟨ref1_at b ((x1.1 : Nat) : Int) (by first | assumption | exact rowOK_lit _ _ (by decide)) (by omega), ⟨_, rfl⟩, ?_⟩
      intro x3
      intro h4
      simp only [rdv_eq] at h4
      refine ⟨⟨(), trivial, congrArg (Value.int .i64) (wrap_i64 _ (by omega) (by omega))⟩, ?_⟩
      intro _
      intro _
      refine ⟨⟨(), trivial, congrArg (Value.int .i64) (wrap_i64 _ (by omega) (by omega))⟩, ?_⟩
      intro _
      intro _
      refine ⟨fun h5 => ?_, fun h5 => ?_⟩
      · refine ⟨⟨(), trivial, congrArg (Value.int .i64) (wrap_i64 _ (by omega) (by omega))⟩, ?_⟩
        intro _
        intro _
        intro b4
        refine ⟨xappendR Try.sl41 41 x1.2.2 (by omega) b4 1 (.int .i64 (((x2 - x3) - x1.2.1) + 65536)) rfl, wit_app _, ?_⟩
        intro x5
        intro h6
        rw [rvals_eq] at h6
        refine ⟨⟨(), trivial, congrArg (Value.int .i64) (wrap_i64 _ (by omega) (by omega))⟩, ?_⟩
        intro _
        intro _
        have q1 := sub_go (x := (((x2 - x3) - x1.2.1) + 65536)) (c' := 1) r_a.dig r_b.dig L (by simp only [decide_eq_true_eq, decide_eq_false_iff_not, gt_iff_lt, ge_iff_le, beq_iff_eq, beq_eq_false_iff_ne] at *; omega) (by simp only [Int.toNat_natCast] at *; simp only [decide_eq_true_eq, decide_eq_false_iff_not, gt_iff_lt, ge_iff_le, beq_iff_eq, beq_eq_false_iff_ne] at *; omega) (by simp only [decide_eq_true_eq, decide_eq_false_iff_not, gt_iff_lt, ge_iff_le, beq_iff_eq, beq_eq_false_iff_ne] at *; omega) (by simp only [decide_eq_true_eq, decide_eq_false_iff_not, gt_iff_lt, ge_iff_le, beq_iff_eq, beq_eq_false_iff_ne] at *; omega) (by decide) (by decide)
        have q := RowOK.snoc ok (x := (((x2 - x3) - x1.2.1) + 65536)) (by simp only [decide_eq_true_eq, decide_eq_false_iff_not, gt_iff_lt, ge_iff_le, beq_iff_eq, beq_eq_false_iff_ne] at *; omega) (by simp only [decide_eq_true_eq, decide_eq_false_iff_not, gt_iff_lt, ge_iff_le, beq_iff_eq, beq_eq_false_iff_ne] at *; omega) (by assumption)
        exact ⟨(x1.1 + 1, 1, x5), ⟨q.2 ▸ q1, q.1⟩, by dsimp only; simp only [decide_eq_true_eq, decide_eq_false_iff_not, gt_iff_lt, ge_iff_le, beq_iff_eq, beq_eq_false_iff_ne] at *; omega, rfl, rfl, rfl, rfl, congrArg (Value.int .i64) (by dsimp only; omega), rfl, rfl, rfl, trivial⟩
      · intro b6
        refine ⟨xappendR Try.sl41 41 x1.2.2 (by omega) b6 1 (.int .i64 ((x2 - x3) - x1.2.1)) rfl, wit_app _, ?_⟩
        intro x7
        intro h7
        rw [rvals_eq] at h7
        refine ⟨⟨(), trivial, congrArg (Value.int .i64) (wrap_i64 _ (by omega) (by omega))⟩, ?_⟩
        intro _
        intro _
        have q1 := sub_go (x := ((x2 - x3) - x1.2.1)) (c' := 0) r_a.dig r_b.dig L (by simp only [decide_eq_true_eq, decide_eq_false_iff_not, gt_iff_lt, ge_iff_le, beq_iff_eq, beq_eq_false_iff_ne] at *; omega) (by simp only [Int.toNat_natCast] at *; simp only [decide_eq_true_eq, decide_eq_false_iff_not, gt_iff_lt, ge_iff_le, beq_iff_eq, beq_eq_false_iff_ne] at *; omega) (by simp only [decide_eq_true_eq, decide_eq_false_iff_not, gt_iff_lt, ge_iff_le, beq_iff_eq, beq_eq_false_iff_ne] at *; omega) (by simp only [decide_eq_true_eq, decide_eq_false_iff_not, gt_iff_lt, ge_iff_le, beq_iff_eq, beq_eq_false_iff_ne] at *; omega) (by decide) (by decide)
        have q := RowOK.snoc ok (x := ((x2 - x3) - x1.2.1)) (by simp only [decide_eq_true_eq, decide_eq_false_iff_not, gt_iff_lt, ge_iff_le, beq_iff_eq, beq_eq_false_iff_ne] at *; omega) (by simp only [decide_eq_true_eq, decide_eq_false_iff_not, gt_iff_lt, ge_iff_le, beq_iff_eq, beq_eq_false_iff_ne] at *; omega) (by assumption)
        exact ⟨(x1.1 + 1, 0, x7), ⟨q.2 ▸ q1, q.1⟩, by dsimp only; simp only [decide_eq_true_eq, decide_eq_false_iff_not, gt_iff_lt, ge_iff_le, beq_iff_eq, beq_eq_false_iff_ne] at *; omega, rfl, rfl, rfl, rfl, congrArg (Value.int .i64) (by dsimp only; omega), rfl, rfl, rfl, trivial⟩
    · refine ⟨ref1_Trim x1.2.2 (by first | assumption | exact rowOK_lit _ _ (by decide)) (by omega), wit_trim x1.2.2 (by first | assumption | exact rowOK_lit _ _ (by decide)), ?_⟩
      intro x8
      intro h8
      simp only [rdv_eq] at h8
      obtain ⟨rh8_, h8⟩ := h8
      have T : TrimR (dg x1.2.2) (dg x8) := by first | exact And.right (by assumption) | assumption
      have hi : x1.1 = (dg a).length := by
        simp only [decide_eq_true_eq, decide_eq_false_iff_not, gt_iff_lt, ge_iff_le, beq_iff_eq, beq_eq_false_iff_ne] at *
        omega
      rw [hi] at L
      exact ⟨_, ⟨by assumption, by rw [d_a, d_b]; exact T.eq.trans (sub_end r_a.dig r_b.dig ok.dig L hle), T.canon⟩, rfl, rfl, rfl, rfl, trivial⟩

def ref1_Mul_C : List Value → List Slot → Ctr := fun vs hs => ⟨Row, fun zx => sv zx, fun zx => [(sarg hs 0), (sarg hs 1), (ss 3 zx)], fun zx => RowOK zx ∧ nv (dg zx) = nv (rdv (varg vs 1) (sarg hs 0)) * nv (rdv (varg vs 2) (sarg hs 1)) ∧ Canon (dg zx)⟩
set_option maxRecDepth 100000 in
set_option maxHeartbeats 2000000 in
theorem ref1_Mul_vc (a : Row) (b : Row) : codeW Try.prog 72 none 2000 none (bodyOf Try.f31) (.reg [.sem []] (.reg [.sem [], .eq (f_len), .sem [], .eq (f_len), .gen [] (fun vs => one (.int .i64 (ci (varg vs 0) + ci (varg vs 1))) vs), .specw [] [20] (F_make 3 (.int .i64 0)), .sem []] (.reg [.sem [], .eq (f_len), .sem []] (.inv (Nat × Row) (fun zx => [(0, sv a), (1, sv b), (5, sv zx.2), (17, .int .i64 ((vlen (sv a) : Nat) : Int)), (18, .int .i64 ((zx.1 : Nat) : Int))]) (fun zx => [(0, (ss 3 a)), (1, (ss 3 b)), (20, (ss 3 zx.2))]) (fun zx => MulO (dg a) (dg b) zx.1 (dg zx.2) ∧ RowOK zx.2) (fun zx => (dg a).length - zx.1) (fun x2 => .reg [.sem []] (.cond (.reg [.sem [], .sem []] (.reg [.sem []] (.reg [.sem [], .eq (f_len), .sem []] (.inv (Nat × Int × Row) (fun zx => [(0, sv a), (1, sv b), (5, sv zx.2.2), (6, .int .i64 ((x2.1 : Nat) : Int)), (7, .int .i64 zx.2.1), (22, .int .i64 ((vlen (sv b) : Nat) : Int)), (23, .int .i64 ((zx.1 : Nat) : Int)), (17, .int .i64 ((vlen (sv a) : Nat) : Int)), (18, .int .i64 ((x2.1 : Nat) : Int))]) (fun zx => [(0, (ss 3 a)), (1, (ss 3 b)), (20, (ss 3 zx.2.2))]) (fun zx => MulN (dg a) (dg b) x2.1 zx.1 zx.2.1 (dg zx.2.2) ∧ RowOK zx.2.2) (fun zx => (dg b).length - zx.1) (fun x3 => .reg [.sem []] (.cond (.reg [.sem [], .sem []] (.reg [.sem [], .sem [], .sem [], .gen [] (fun vs => one (.int .i64 (ci (varg vs 0) + ci (varg vs 1))) vs), .eq (f_idx), .specr [20] F_get, .sem [], .sem [], .eq (f_idx), .specr [0] F_get, .sem [], .sem [], .eq (f_idx), .specr [1] F_get, .gen [] (fun vs => one (.int .i64 (ci (varg vs 0) * ci (varg vs 1))) vs), .gen [] (fun vs => one (.int .i64 (ci (varg vs 0) + ci (varg vs 1))) vs), .sem [], .gen [] (fun vs => one (.int .i64 (ci (varg vs 0) + ci (varg vs 1))) vs), .sem []] (.reg [.sem [], .sem [], .sem [], .gen [] (fun vs => one (.int .i64 (ci (varg vs 0) + ci (varg vs 1))) vs), .sem [], .gen [] (fun vs => one (.int .i64 (ci (varg vs 0) % 65536)) vs), .eq (f_idx), .specw [20] [20] F_put] (.reg [.sem [], .gen [] (fun vs => one (.int .i64 (ci (varg vs 0) / 65536)) vs), .sem []] (.reg [.gen [] (fun vs => one (.int .i64 (ci (varg vs 0) + ci (varg vs 1))) vs), .sem []] (.done)))))) (.reg [.sem [], .sem [], .sem [], .eq (f_len), .gen [] (fun vs => one (.int .i64 (ci (varg vs 0) + ci (varg vs 1))) vs), .sem [], .sem [], .sem [], .eq (f_len), .gen [] (fun vs => one (.int .i64 (ci (varg vs 0) + ci (varg vs 1))) vs), .eq (f_idx), .specr [20] F_get, .sem [], .gen [] (fun vs => one (.int .i64 (ci (varg vs 0) + ci (varg vs 1))) vs), .eq (f_idx), .specw [20] [20] F_put] (.reg [.gen [] (fun vs => one (.int .i64 (ci (varg vs 0) + ci (varg vs 1))) vs), .sem []] (.done))))))))) (.reg [.sem [], .callw [20] [20] ref1_Trim_C, .sem []] (.done))))))))
    (init #[sv a, sv b] [(ss 3 a), (ss 3 b)]) (finW Try.prog Try.f31 [] [0, 1, 20] (X := Row) (fun zx => sv zx) (fun zx => [(ss 3 a), (ss 3 b), (ss 3 zx)]) (fun zx => (RowOK zx ∧ nv (dg zx) = nv (rdv (sv a) (ss 3 a)) * nv (rdv (sv b) (ss 3 b)) ∧ Canon (dg zx)))) =
    ((PureRun Try.prog (do pure (.value (← Builtin.len_ #[41] 3 #[sv a]))) (.int .i64 ((vlen (sv a) : Nat) : Int))) ∧ (PureRun Try.prog (do pure (.value (← Builtin.len_ #[41] 3 #[sv b]))) (.int .i64 ((vlen (sv b) : Nat) : Int))) ∧ (∃ _ : Unit, True ∧ Value.int .i64 (IntKind.i64.wrap (((vlen (sv a) : Nat) : Int) + ((vlen (sv b) : Nat) : Int))) = .int .i64 (((vlen (sv a) : Nat) : Int) + ((vlen (sv b) : Nat) : Int))) ∧ ∀ _ : Unit, (True) → (OpT Try.prog (do pure (.value (← Instr.makeSlice 41 (.int .i64 (((vlen (sv a) : Nat) : Int) + ((vlen (sv b) : Nat) : Int))) (.int .i64 (((vlen (sv a) : Nat) : Int) + ((vlen (sv b) : Nat) : Int)))))) [] Row (fun zx => sv zx) (fun zx => [(ss 3 zx)]) (fun zx => vals zx = List.replicate (Int.toNat (((vlen (sv a) : Nat) : Int) + ((vlen (sv b) : Nat) : Int))) (.int .i64 0))) ∧ (∃ zx : Row, (fun zx => vals zx = List.replicate (Int.toNat (((vlen (sv a) : Nat) : Int) + ((vlen (sv b) : Nat) : Int))) (.int .i64 0)) zx) ∧ ∀ x1 : Row, (vals x1 = List.replicate (Int.toNat (((vlen (sv a) : Nat) : Int) + ((vlen (sv b) : Nat) : Int))) (.int .i64 0)) → (PureRun Try.prog (do pure (.value (← Builtin.len_ #[41] 3 #[sv a]))) (.int .i64 ((vlen (sv a) : Nat) : Int))) ∧ (∃ zx : Nat × Row, (MulO (dg a) (dg b) zx.1 (dg zx.2) ∧ RowOK zx.2) ∧ sv a = sv a ∧ sv b = sv b ∧ sv x1 = sv zx.2 ∧ Value.int .i64 ((vlen (sv a) : Nat) : Int) = .int .i64 ((vlen (sv a) : Nat) : Int) ∧ Value.int .i64 0 = .int .i64 ((zx.1 : Nat) : Int) ∧ (ss 3 a) = (ss 3 a) ∧ (ss 3 b) = (ss 3 b) ∧ (ss 3 x1) = (ss 3 zx.2) ∧ True) ∧ ∀ x2 : Nat × Row, ∀ jx2 : Nat → Value, (MulO (dg a) (dg b) x2.1 (dg x2.2) ∧ RowOK x2.2) → ((decide (((x2.1 : Nat) : Int) < ((vlen (sv a) : Nat) : Int))) = true → (PureRun Try.prog (do pure (.value (← Builtin.len_ #[41] 3 #[sv b]))) (.int .i64 ((vlen (sv b) : Nat) : Int))) ∧ (∃ zx : Nat × Int × Row, (MulN (dg a) (dg b) x2.1 zx.1 zx.2.1 (dg zx.2.2) ∧ RowOK zx.2.2) ∧ sv a = sv a ∧ sv b = sv b ∧ sv x2.2 = sv zx.2.2 ∧ Value.int .i64 ((x2.1 : Nat) : Int) = .int .i64 ((x2.1 : Nat) : Int) ∧ Value.int .i64 0 = .int .i64 zx.2.1 ∧ Value.int .i64 ((vlen (sv b) : Nat) : Int) = .int .i64 ((vlen (sv b) : Nat) : Int) ∧ Value.int .i64 0 = .int .i64 ((zx.1 : Nat) : Int) ∧ Value.int .i64 ((vlen (sv a) : Nat) : Int) = .int .i64 ((vlen (sv a) : Nat) : Int) ∧ Value.int .i64 ((x2.1 : Nat) : Int) = .int .i64 ((x2.1 : Nat) : Int) ∧ (ss 3 a) = (ss 3 a) ∧ (ss 3 b) = (ss 3 b) ∧ (ss 3 x2.2) = (ss 3 zx.2.2) ∧ True) ∧ ∀ x3 : Nat × Int × Row, ∀ jx3 : Nat → Value, (MulN (dg a) (dg b) x2.1 x3.1 x3.2.1 (dg x3.2.2) ∧ RowOK x3.2.2) → ((decide (((x3.1 : Nat) : Int) < ((vlen (sv b) : Nat) : Int))) = true → (∃ _ : Unit, True ∧ Value.int .i64 (IntKind.i64.wrap (((x2.1 : Nat) : Int) + ((x3.1 : Nat) : Int))) = .int .i64 (((x2.1 : Nat) : Int) + ((x3.1 : Nat) : Int))) ∧ ∀ _ : Unit, (True) → (PureRun Try.prog (do pure (.value (← Instr.indexAt 41 (sv x3.2.2) (.int .i64 (((x2.1 : Nat) : Int) + ((x3.1 : Nat) : Int)))))) (.pointer (some ⟨(vblk (sv x3.2.2)), (Int.toNat (((x2.1 : Nat) : Int) + ((x3.1 : Nat) : Int))), none⟩))) ∧ (OpT Try.prog (do pure (.value (← Instr.loadAt 3 (.pointer (some ⟨(vblk (sv x3.2.2)), (Int.toNat (((x2.1 : Nat) : Int) + ((x3.1 : Nat) : Int))), none⟩))))) [(ss 3 x3.2.2)] Int (fun zx => .int .i64 zx) (fun _ => [(ss 3 x3.2.2)]) (fun zx => (scells (ss 3 x3.2.2))[(Int.toNat (((x2.1 : Nat) : Int) + ((x3.1 : Nat) : Int)))]? = some (.int .i64 zx))) ∧ (∃ zx : Int, (fun zx => (scells (ss 3 x3.2.2))[(Int.toNat (((x2.1 : Nat) : Int) + ((x3.1 : Nat) : Int)))]? = some (.int .i64 zx)) zx) ∧ ∀ x4 : Int, ((scells (ss 3 x3.2.2))[(Int.toNat (((x2.1 : Nat) : Int) + ((x3.1 : Nat) : Int)))]? = some (.int .i64 x4)) → (PureRun Try.prog (do pure (.value (← Instr.indexAt 41 (sv a) (.int .i64 ((x2.1 : Nat) : Int))))) (.pointer (some ⟨(vblk (sv a)), (Int.toNat ((x2.1 : Nat) : Int)), none⟩))) ∧ (OpT Try.prog (do pure (.value (← Instr.loadAt 3 (.pointer (some ⟨(vblk (sv a)), (Int.toNat ((x2.1 : Nat) : Int)), none⟩))))) [(ss 3 a)] Int (fun zx => .int .i64 zx) (fun _ => [(ss 3 a)]) (fun zx => (scells (ss 3 a))[(Int.toNat ((x2.1 : Nat) : Int))]? = some (.int .i64 zx))) ∧ (∃ zx : Int, (fun zx => (scells (ss 3 a))[(Int.toNat ((x2.1 : Nat) : Int))]? = some (.int .i64 zx)) zx) ∧ ∀ x5 : Int, ((scells (ss 3 a))[(Int.toNat ((x2.1 : Nat) : Int))]? = some (.int .i64 x5)) → (PureRun Try.prog (do pure (.value (← Instr.indexAt 41 (sv b) (.int .i64 ((x3.1 : Nat) : Int))))) (.pointer (some ⟨(vblk (sv b)), (Int.toNat ((x3.1 : Nat) : Int)), none⟩))) ∧ (OpT Try.prog (do pure (.value (← Instr.loadAt 3 (.pointer (some ⟨(vblk (sv b)), (Int.toNat ((x3.1 : Nat) : Int)), none⟩))))) [(ss 3 b)] Int (fun zx => .int .i64 zx) (fun _ => [(ss 3 b)]) (fun zx => (scells (ss 3 b))[(Int.toNat ((x3.1 : Nat) : Int))]? = some (.int .i64 zx))) ∧ (∃ zx : Int, (fun zx => (scells (ss 3 b))[(Int.toNat ((x3.1 : Nat) : Int))]? = some (.int .i64 zx)) zx) ∧ ∀ x6 : Int, ((scells (ss 3 b))[(Int.toNat ((x3.1 : Nat) : Int))]? = some (.int .i64 x6)) → (∃ _ : Unit, True ∧ Value.int .i64 (IntKind.i64.wrap (x5 * x6)) = .int .i64 (x5 * x6)) ∧ ∀ _ : Unit, (True) → (∃ _ : Unit, True ∧ Value.int .i64 (IntKind.i64.wrap (x4 + (x5 * x6))) = .int .i64 (x4 + (x5 * x6))) ∧ ∀ _ : Unit, (True) → (∃ _ : Unit, True ∧ Value.int .i64 (IntKind.i64.wrap ((x4 + (x5 * x6)) + x3.2.1)) = .int .i64 ((x4 + (x5 * x6)) + x3.2.1)) ∧ ∀ _ : Unit, (True) → (∃ _ : Unit, True ∧ Value.int .i64 (IntKind.i64.wrap (((x2.1 : Nat) : Int) + ((x3.1 : Nat) : Int))) = .int .i64 (((x2.1 : Nat) : Int) + ((x3.1 : Nat) : Int))) ∧ ∀ _ : Unit, (True) → (∃ _ : Unit, True ∧ Value.int .i64 (Int.tmod ((x4 + (x5 * x6)) + x3.2.1) 65536) = .int .i64 (((x4 + (x5 * x6)) + x3.2.1) % 65536)) ∧ ∀ _ : Unit, (True) → (PureRun Try.prog (do pure (.value (← Instr.indexAt 41 (sv x3.2.2) (.int .i64 (((x2.1 : Nat) : Int) + ((x3.1 : Nat) : Int)))))) (.pointer (some ⟨(vblk (sv x3.2.2)), (Int.toNat (((x2.1 : Nat) : Int) + ((x3.1 : Nat) : Int))), none⟩))) ∧ (OpT Try.prog (do Instr.storeAt 3 (.pointer (some ⟨(vblk (sv x3.2.2)), (Int.toNat (((x2.1 : Nat) : Int) + ((x3.1 : Nat) : Int))), none⟩)) (.int .i64 (((x4 + (x5 * x6)) + x3.2.1) % 65536)); pure .skip) [(ss 3 x3.2.2)] Unit (fun _ => .tuple #[]) (fun _ => [(sset (ss 3 x3.2.2) (Int.toNat (((x2.1 : Nat) : Int) + ((x3.1 : Nat) : Int))) (.int .i64 (((x4 + (x5 * x6)) + x3.2.1) % 65536)))]) (fun _ => True)) ∧ (∃ zx : Unit, (fun _ => True) zx) ∧ ∀ _ : Unit, (True) → (∃ _ : Unit, True ∧ Value.int .i64 (IntKind.i64.wrap (Int.tdiv ((x4 + (x5 * x6)) + x3.2.1) 65536)) = .int .i64 (((x4 + (x5 * x6)) + x3.2.1) / 65536)) ∧ ∀ _ : Unit, (True) → (∃ _ : Unit, True ∧ Value.int .i64 (IntKind.i64.wrap (((x3.1 : Nat) : Int) + 1)) = .int .i64 (((x3.1 : Nat) : Int) + 1)) ∧ ∀ _ : Unit, (True) → ∃ zy : Nat × Int × Row, (MulN (dg a) (dg b) x2.1 zy.1 zy.2.1 (dg zy.2.2) ∧ RowOK zy.2.2) ∧ (dg b).length - zy.1 < (dg b).length - x3.1 ∧ sv a = sv a ∧ sv b = sv b ∧ sv x3.2.2 = sv zy.2.2 ∧ Value.int .i64 ((x2.1 : Nat) : Int) = .int .i64 ((x2.1 : Nat) : Int) ∧ Value.int .i64 (((x4 + (x5 * x6)) + x3.2.1) / 65536) = .int .i64 zy.2.1 ∧ Value.int .i64 ((vlen (sv b) : Nat) : Int) = .int .i64 ((vlen (sv b) : Nat) : Int) ∧ Value.int .i64 (((x3.1 : Nat) : Int) + 1) = .int .i64 ((zy.1 : Nat) : Int) ∧ Value.int .i64 ((vlen (sv a) : Nat) : Int) = .int .i64 ((vlen (sv a) : Nat) : Int) ∧ Value.int .i64 ((x2.1 : Nat) : Int) = .int .i64 ((x2.1 : Nat) : Int) ∧ (ss 3 a) = (ss 3 a) ∧ (ss 3 b) = (ss 3 b) ∧ (sset (ss 3 x3.2.2) (Int.toNat (((x2.1 : Nat) : Int) + ((x3.1 : Nat) : Int))) (.int .i64 (((x4 + (x5 * x6)) + x3.2.1) % 65536))) = (ss 3 zy.2.2) ∧ True) ∧ ((decide (((x3.1 : Nat) : Int) < ((vlen (sv b) : Nat) : Int))) = false → (PureRun Try.prog (do pure (.value (← Builtin.len_ #[41] 3 #[sv b]))) (.int .i64 ((vlen (sv b) : Nat) : Int))) ∧ (∃ _ : Unit, True ∧ Value.int .i64 (IntKind.i64.wrap (((x2.1 : Nat) : Int) + ((vlen (sv b) : Nat) : Int))) = .int .i64 (((x2.1 : Nat) : Int) + ((vlen (sv b) : Nat) : Int))) ∧ ∀ _ : Unit, (True) → (PureRun Try.prog (do pure (.value (← Builtin.len_ #[41] 3 #[sv b]))) (.int .i64 ((vlen (sv b) : Nat) : Int))) ∧ (∃ _ : Unit, True ∧ Value.int .i64 (IntKind.i64.wrap (((x2.1 : Nat) : Int) + ((vlen (sv b) : Nat) : Int))) = .int .i64 (((x2.1 : Nat) : Int) + ((vlen (sv b) : Nat) : Int))) ∧ ∀ _ : Unit, (True) → (PureRun Try.prog (do pure (.value (← Instr.indexAt 41 (sv x3.2.2) (.int .i64 (((x2.1 : Nat) : Int) + ((vlen (sv b) : Nat) : Int)))))) (.pointer (some ⟨(vblk (sv x3.2.2)), (Int.toNat (((x2.1 : Nat) : Int) + ((vlen (sv b) : Nat) : Int))), none⟩))) ∧ (OpT Try.prog (do pure (.value (← Instr.loadAt 3 (.pointer (some ⟨(vblk (sv x3.2.2)), (Int.toNat (((x2.1 : Nat) : Int) + ((vlen (sv b) : Nat) : Int))), none⟩))))) [(ss 3 x3.2.2)] Int (fun zx => .int .i64 zx) (fun _ => [(ss 3 x3.2.2)]) (fun zx => (scells (ss 3 x3.2.2))[(Int.toNat (((x2.1 : Nat) : Int) + ((vlen (sv b) : Nat) : Int)))]? = some (.int .i64 zx))) ∧ (∃ zx : Int, (fun zx => (scells (ss 3 x3.2.2))[(Int.toNat (((x2.1 : Nat) : Int) + ((vlen (sv b) : Nat) : Int)))]? = some (.int .i64 zx)) zx) ∧ ∀ x7 : Int, ((scells (ss 3 x3.2.2))[(Int.toNat (((x2.1 : Nat) : Int) + ((vlen (sv b) : Nat) : Int)))]? = some (.int .i64 x7)) → (∃ _ : Unit, True ∧ Value.int .i64 (IntKind.i64.wrap (x7 + x3.2.1)) = .int .i64 (x7 + x3.2.1)) ∧ ∀ _ : Unit, (True) → (PureRun Try.prog (do pure (.value (← Instr.indexAt 41 (sv x3.2.2) (.int .i64 (((x2.1 : Nat) : Int) + ((vlen (sv b) : Nat) : Int)))))) (.pointer (some ⟨(vblk (sv x3.2.2)), (Int.toNat (((x2.1 : Nat) : Int) + ((vlen (sv b) : Nat) : Int))), none⟩))) ∧ (OpT Try.prog (do Instr.storeAt 3 (.pointer (some ⟨(vblk (sv x3.2.2)), (Int.toNat (((x2.1 : Nat) : Int) + ((vlen (sv b) : Nat) : Int))), none⟩)) (.int .i64 (x7 + x3.2.1)); pure .skip) [(ss 3 x3.2.2)] Unit (fun _ => .tuple #[]) (fun _ => [(sset (ss 3 x3.2.2) (Int.toNat (((x2.1 : Nat) : Int) + ((vlen (sv b) : Nat) : Int))) (.int .i64 (x7 + x3.2.1)))]) (fun _ => True)) ∧ (∃ zx : Unit, (fun _ => True) zx) ∧ ∀ _ : Unit, (True) → (∃ _ : Unit, True ∧ Value.int .i64 (IntKind.i64.wrap (((x2.1 : Nat) : Int) + 1)) = .int .i64 (((x2.1 : Nat) : Int) + 1)) ∧ ∀ _ : Unit, (True) → ∃ zy : Nat × Row, (MulO (dg a) (dg b) zy.1 (dg zy.2) ∧ RowOK zy.2) ∧ (dg a).length - zy.1 < (dg a).length - x2.1 ∧ sv a = sv a ∧ sv b = sv b ∧ sv x3.2.2 = sv zy.2 ∧ Value.int .i64 ((vlen (sv a) : Nat) : Int) = .int .i64 ((vlen (sv a) : Nat) : Int) ∧ Value.int .i64 (((x2.1 : Nat) : Int) + 1) = .int .i64 ((zy.1 : Nat) : Int) ∧ (ss 3 a) = (ss 3 a) ∧ (ss 3 b) = (ss 3 b) ∧ (sset (ss 3 x3.2.2) (Int.toNat (((x2.1 : Nat) : Int) + ((vlen (sv b) : Nat) : Int))) (.int .i64 (x7 + x3.2.1))) = (ss 3 zy.2) ∧ True)) ∧ ((decide (((x2.1 : Nat) : Int) < ((vlen (sv a) : Nat) : Int))) = false → (CallT Try.prog 68 #[sv x2.2] [(ss 3 x2.2)] Row (fun zx => sv zx) (fun zx => [(ss 3 zx)]) (fun zx => RowOK zx ∧ ss 3 zx = (ss 3 x2.2) ∧ TrimR (rdv (sv x2.2) (ss 3 x2.2)) (dg zx))) ∧ (∃ zx : Row, (fun zx => RowOK zx ∧ ss 3 zx = (ss 3 x2.2) ∧ TrimR (rdv (sv x2.2) (ss 3 x2.2)) (dg zx)) zx) ∧ ∀ x8 : Row, (RowOK x8 ∧ ss 3 x8 = (ss 3 x2.2) ∧ TrimR (rdv (sv x2.2) (ss 3 x2.2)) (dg x8)) → ∃ zx : Row, (RowOK zx ∧ nv (dg zx) = nv (rdv (sv a) (ss 3 a)) * nv (rdv (sv b) (ss 3 b)) ∧ Canon (dg zx)) ∧ sv x8 = sv zx ∧ (ss 3 a) = (ss 3 a) ∧ (ss 3 b) = (ss 3 b) ∧ (ss 3 x8) = (ss 3 zx) ∧ True)) := by kernel_rfl
set_option maxRecDepth 100000 in
set_option maxHeartbeats 2000000 in
theorem ref1_Mul (a : Row) (b : Row) (r_a : RowOK a) (r_b : RowOK b) (la : (dg a).length ≤ 65536) (lb : (dg b).length ≤ 65536) : CallT Try.prog 31 #[sv a, sv b] [(ss 3 a), (ss 3 b)] Row (fun zx => sv zx) (fun zx => [(ss 3 a), (ss 3 b), (ss 3 zx)]) (fun zx => (RowOK zx ∧ nv (dg zx) = nv (rdv (sv a) (ss 3 a)) * nv (rdv (sv b) (ss 3 b)) ∧ Canon (dg zx))) := by
  refine call_of (c := bodyOf Try.f31) (n := 72) (fn := Try.f31) Try.mixed Try.func31 (by kernel_rfl) (by kernel_rfl) (by kernel_rfl) 2000 _ [] [0, 1, 20] rfl rfl (Eq.mpr (ref1_Mul_vc a b) ?_)
  have d_a := rdv_eq a 3
  have d_b := rdv_eq b 3
  have e_a := vlen_dg a
  have e_b := vlen_dg b
  refine ⟨xlen Try.sl41 3 a, xlen Try.sl41 3 b, ⟨(), trivial, congrArg (Value.int .i64) (wrap_i64 _ (by omega) (by omega))⟩, ?_⟩
  intro _
  intro _
  refine ⟨xmake Try.sl41 .i64 (((vlen (sv a) : Nat) : Int) + ((vlen (sv b) : Nat) : Int)) (by omega) (by omega), wit_make (e := 3) _ _, ?_⟩
  intro x1
  intro h1
  refine ⟨xlen Try.sl41 3 a, ?_⟩
  refine ⟨?_, fun x2 jx2 h2 => ?_⟩
  · have q := RowOK.zeros (y := x1) (by assumption)
    exact ⟨(0, x1), ⟨by rw [q.2]; exact mul_start _ _ _ (by omega), q.1⟩, rfl, rfl, rfl, rfl, rfl, rfl, rfl, rfl, trivial⟩
  · obtain ⟨L, ok⟩ := h2
    have l1 := L.le; have l2 := L.len
    have da := r_a.dig.dgt (Int.toNat ((x2.1 : Nat) : Int))
    refine ⟨fun h3 => ?_, fun h3 => ?_⟩
    · have hi : x2.1 < (dg a).length := by
        simp only [decide_eq_true_eq, decide_eq_false_iff_not, gt_iff_lt, ge_iff_le, beq_iff_eq, beq_eq_false_iff_ne] at *
        omega
      refine ⟨xlen Try.sl41 3 b, ?_⟩
      refine ⟨?_, fun x3 jx3 h4 => ?_⟩
      · exact ⟨(0, 0, x2.2), ⟨muln_start L, ok⟩, rfl, rfl, rfl, rfl, rfl, rfl, rfl, rfl, rfl, rfl, rfl, rfl, trivial⟩
      · obtain ⟨M, okn⟩ := h4
        have m1 := M.le; have m2 := M.len; have m3 := M.c0; have m4 := M.c1
        have db := r_b.dig.dgt (Int.toNat ((x3.1 : Nat) : Int))
        have dn := okn.dig.dgt (Int.toNat (((x2.1 : Nat) : Int) + ((x3.1 : Nat) : Int)))
        refine ⟨fun h5 => ?_, fun h5 => ?_⟩
        · have hk : x3.1 < (dg b).length := by
            simp only [decide_eq_true_eq, decide_eq_false_iff_not, gt_iff_lt, ge_iff_le, beq_iff_eq, beq_eq_false_iff_ne] at *
            omega
          refine ⟨⟨(), trivial, congrArg (Value.int .i64) (wrap_i64 _ (by omega) (by omega))⟩, ?_⟩
          intro _
          intro _
          refine ⟨xidx Try.sl41 x3.2.2 .i64 (((x2.1 : Nat) : Int) + ((x3.1 : Nat) : Int)) (by omega) (by rw [← dg_len]; omega), xgetR (e := 3) x3.2.2 3 Try.agg3 (Int.toNat (((x2.1 : Nat) : Int) + ((x3.1 : Nat) : Int))) okn (by omega), wit_get (e := 3) x3.2.2 (Int.toNat (((x2.1 : Nat) : Int) + ((x3.1 : Nat) : Int))) okn (by omega), ?_⟩
          intro x4
          intro h6
          replace h6 := getR (e := 3) x3.2.2 (Int.toNat (((x2.1 : Nat) : Int) + ((x3.1 : Nat) : Int))) okn (by omega) h6
          refine ⟨xidx Try.sl41 a .i64 ((x2.1 : Nat) : Int) (by omega) (by rw [← dg_len]; omega), xgetR (e := 3) a 3 Try.agg3 (Int.toNat ((x2.1 : Nat) : Int)) r_a (by omega), wit_get (e := 3) a (Int.toNat ((x2.1 : Nat) : Int)) r_a (by omega), ?_⟩
          intro x5
          intro h7
          replace h7 := getR (e := 3) a (Int.toNat ((x2.1 : Nat) : Int)) r_a (by omega) h7
          refine ⟨xidx Try.sl41 b .i64 ((x3.1 : Nat) : Int) (by omega) (by rw [← dg_len]; omega), xgetR (e := 3) b 3 Try.agg3 (Int.toNat ((x3.1 : Nat) : Int)) r_b (by omega), wit_get (e := 3) b (Int.toNat ((x3.1 : Nat) : Int)) r_b (by omega), ?_⟩
          intro x6
          intro h8
          replace h8 := getR (e := 3) b (Int.toNat ((x3.1 : Nat) : Int)) r_b (by omega) h8
          refine ⟨⟨(), trivial, congrArg (Value.int .i64) (wrap_i64 _ (by have hab := dmul (a := x5) (b := x6) (by omega) (by omega) (by omega) (by omega); omega) (by have hab := dmul (a := x5) (b := x6) (by omega) (by omega) (by omega) (by omega); omega))⟩, ?_⟩
          intro _
          intro _
          refine ⟨⟨(), trivial, congrArg (Value.int .i64) (wrap_i64 _ (by have hab := dmul (a := x5) (b := x6) (by omega) (by omega) (by omega) (by omega); omega) (by have hab := dmul (a := x5) (b := x6) (by omega) (by omega) (by omega) (by omega); omega))⟩, ?_⟩
          intro _
          intro _
          refine ⟨⟨(), trivial, congrArg (Value.int .i64) (wrap_i64 _ (by have hab := dmul (a := x5) (b := x6) (by omega) (by omega) (by omega) (by omega); omega) (by have hab := dmul (a := x5) (b := x6) (by omega) (by omega) (by omega) (by omega); omega))⟩, ?_⟩
          intro _
          intro _
          have hab := dmul (a := x5) (b := x6) (by omega) (by omega) (by omega) (by omega)
          refine ⟨⟨(), trivial, congrArg (Value.int .i64) (wrap_i64 _ (by omega) (by omega))⟩, ?_⟩
          intro _
          intro _
          refine ⟨⟨(), trivial, congrArg (Value.int .i64) (tmod_nat (by omega))⟩, ?_⟩
          intro _
          intro _
          refine ⟨xidx Try.sl41 x3.2.2 .i64 (((x2.1 : Nat) : Int) + ((x3.1 : Nat) : Int)) (by omega) (by rw [← dg_len]; omega), xput (e := 3) x3.2.2 3 Try.size3 (Int.toNat (((x2.1 : Nat) : Int) + ((x3.1 : Nat) : Int))) (.int .i64 (((x4 + (x5 * x6)) + x3.2.1) % 65536)) rfl rfl (by rw [← dg_len]; omega), ⟨(), trivial⟩, ?_⟩
          intro _
          intro _
          refine ⟨⟨(), trivial, congrArg (Value.int .i64) (quo_i64 (by omega) (by omega))⟩, ?_⟩
          intro _
          intro _
          refine ⟨⟨(), trivial, congrArg (Value.int .i64) (wrap_i64 _ (by omega) (by omega))⟩, ?_⟩
          intro _
          intro _
          have et : Int.toNat (((x2.1 : Nat) : Int) + ((x3.1 : Nat) : Int)) = x2.1 + x3.1 := by omega
          have q := muln_step (x := ((x4 + (x5 * x6)) + x3.2.1)) r_a.dig r_b.dig okn.dig M hi hk (by simp only [et, Int.toNat_natCast] at *; simp only [*])
          have p := okn.set (x2.1 + x3.1) q.2.1 q.2.2
          exact ⟨(x3.1 + 1, _, x3.2.2.set (x2.1 + x3.1) (.int .i64 (((x4 + (x5 * x6)) + x3.2.1) % 65536))), ⟨p.2.symm ▸ q.1, p.1⟩, by dsimp only; omega, rfl, rfl, (sv_set _ _ _).symm, rfl, rfl, rfl, congrArg (Value.int .i64) (by dsimp only; omega), rfl, rfl, rfl, rfl, by rw [et]; exact ss_set _ _ _ _ (by rw [← dg_len]; omega), trivial⟩
        · have hz := (dgt_zero_of okn.dig M.z).1
          have hk : x3.1 = (dg b).length := by
            simp only [decide_eq_true_eq, decide_eq_false_iff_not, gt_iff_lt, ge_iff_le, beq_iff_eq, beq_eq_false_iff_ne] at *
            omega
          have et' : Int.toNat (((x2.1 : Nat) : Int) + ((vlen (sv b) : Nat) : Int)) = x2.1 + (dg b).length := by omega
          have hz' : dgt (dg x3.2.2) (Int.toNat (((x2.1 : Nat) : Int) + ((vlen (sv b) : Nat) : Int))) = 0 := by rw [et']; exact hz
          refine ⟨xlen Try.sl41 3 b, ⟨(), trivial, congrArg (Value.int .i64) (wrap_i64 _ (by omega) (by omega))⟩, ?_⟩
          intro _
          intro _
          refine ⟨xlen Try.sl41 3 b, ⟨(), trivial, congrArg (Value.int .i64) (wrap_i64 _ (by omega) (by omega))⟩, ?_⟩
          intro _
          intro _
          refine ⟨xidx Try.sl41 x3.2.2 .i64 (((x2.1 : Nat) : Int) + ((vlen (sv b) : Nat) : Int)) (by omega) (by rw [← dg_len]; omega), xgetR (e := 3) x3.2.2 3 Try.agg3 (Int.toNat (((x2.1 : Nat) : Int) + ((vlen (sv b) : Nat) : Int))) okn (by omega), wit_get (e := 3) x3.2.2 (Int.toNat (((x2.1 : Nat) : Int) + ((vlen (sv b) : Nat) : Int))) okn (by omega), ?_⟩
          intro x7
          intro h9
          replace h9 := getR (e := 3) x3.2.2 (Int.toNat (((x2.1 : Nat) : Int) + ((vlen (sv b) : Nat) : Int))) okn (by omega) h9
          refine ⟨⟨(), trivial, congrArg (Value.int .i64) (wrap_i64 _ (by omega) (by omega))⟩, ?_⟩
          intro _
          intro _
          refine ⟨xidx Try.sl41 x3.2.2 .i64 (((x2.1 : Nat) : Int) + ((vlen (sv b) : Nat) : Int)) (by omega) (by rw [← dg_len]; omega), xput (e := 3) x3.2.2 3 Try.size3 (Int.toNat (((x2.1 : Nat) : Int) + ((vlen (sv b) : Nat) : Int))) (.int .i64 (x7 + x3.2.1)) rfl rfl (by rw [← dg_len]; omega), ⟨(), trivial⟩, ?_⟩
          intro _
          intro _
          refine ⟨⟨(), trivial, congrArg (Value.int .i64) (wrap_i64 _ (by omega) (by omega))⟩, ?_⟩
          intro _
          intro _
          have et : Int.toNat (((x2.1 : Nat) : Int) + ((vlen (sv b) : Nat) : Int)) = x2.1 + (dg b).length := by omega
          have hk : x3.1 = (dg b).length := by
            simp only [decide_eq_true_eq, decide_eq_false_iff_not, gt_iff_lt, ge_iff_le, beq_iff_eq, beq_eq_false_iff_ne] at *
            omega
          rw [hk] at M
          have q := muln_end okn.dig M hi
          have hv : x7 + x3.2.1 = dgt (dg x3.2.2) (x2.1 + (dg b).length) + x3.2.1 := by simp only [et] at *; simp only [*]
          have p := okn.set (x2.1 + (dg b).length) q.2.1 q.2.2
          exact ⟨(x2.1 + 1, x3.2.2.set (x2.1 + (dg b).length) (.int .i64 (dgt (dg x3.2.2) (x2.1 + (dg b).length) + x3.2.1))), ⟨p.2.symm ▸ q.1, p.1⟩, by dsimp only; omega, rfl, rfl, (sv_set _ _ _).symm, rfl, congrArg (Value.int .i64) (by dsimp only; omega), rfl, rfl, by rw [et, hv]; exact ss_set _ _ _ _ (by rw [← dg_len]; omega), trivial⟩
    · refine ⟨ref1_Trim x2.2 (by first | assumption | exact rowOK_lit _ _ (by decide)) (by omega), wit_trim x2.2 (by first | assumption | exact rowOK_lit _ _ (by decide)), ?_⟩
      intro x8
      intro h10
      simp only [rdv_eq] at h10
      obtain ⟨rh10_, h10⟩ := h10
      have T : TrimR (dg x2.2) (dg x8) := by first | exact And.right (by assumption) | assumption
      have hi : x2.1 = (dg a).length := by
        simp only [decide_eq_true_eq, decide_eq_false_iff_not, gt_iff_lt, ge_iff_le, beq_iff_eq, beq_eq_false_iff_ne] at *
        omega
      rw [hi] at L
      exact ⟨_, ⟨by assumption, by rw [d_a, d_b]; exact T.eq.trans (mul_end L), T.canon⟩, rfl, rfl, rfl, rfl, trivial⟩

end Go.Proofs
