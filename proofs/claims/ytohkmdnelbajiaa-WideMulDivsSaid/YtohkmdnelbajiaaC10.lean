/- Contracts of this program's functions, and their proofs, printed by a program of the prover's own (see the claim's other texts for what the words mean). -/
import Derived.Test.YtohkmdnelbajiaaSxB20
import Derived.Test.YtohkmdnelbajiaaC9
set_option linter.unusedVariables false
set_option linter.unusedSimpArgs false
namespace Go.Proofs
open Go.Sx
def ref1_Div_C : List Value → List Slot → Ctr := fun vs hs => ⟨Row × Row, fun zx => .tuple #[sv zx.1, sv zx.2], fun zx => [(sarg hs 0), (sarg hs 1), (ss 3 zx.1), (ss 3 zx.2)], fun zx => RowOK zx.1 ∧ RowOK zx.2 ∧ nv (dg zx.1) = nv (rdv (varg vs 1) (sarg hs 0)) / nv (rdv (varg vs 2) (sarg hs 1)) ∧ nv (dg zx.2) = nv (rdv (varg vs 1) (sarg hs 0)) % nv (rdv (varg vs 2) (sarg hs 1)) ∧ Canon (dg zx.1) ∧ Canon (dg zx.2)⟩
set_option maxRecDepth 100000 in
set_option maxHeartbeats 2000000 in
theorem ref1_Div_vc (a : Row) (b : Row) : codeW Try.prog 57 none 2000 none (bodyOf Try.f33) (.reg [.sem [], .sem []] (.reg [.sem [], .eq (f_len), .specw [] [20] (F_make 3 (.int .i64 0)), .sem []] (.reg [.sem []] (.reg [.sem [], .eq (f_len), .gen [] (fun vs => one (.int .i64 (ci (varg vs 0) - ci (varg vs 1))) vs), .sem []] (.inv (Nat × Row × Row) (fun zx => [(0, sv a), (1, sv b), (6, sv zx.2.1), (7, sv zx.2.2), (8, .int .i64 (((zx.1 : Nat) : Int) - 1))]) (fun zx => [(0, (ss 3 a)), (1, (ss 3 b)), (20, (ss 3 zx.2.1)), (22, (ss 3 zx.2.2))]) (fun zx => DivO (dg a) (dg b) zx.1 (dg zx.2.1) (dg zx.2.2) ∧ RowOK zx.2.1 ∧ RowOK zx.2.2) (fun zx => zx.1) (fun x2 => .reg [.sem [], .sem []] (.cond (.reg [.sem []] (.inv (Nat × Row × Row) (fun zx => [(0, sv a), (1, sv b), (6, sv zx.2.1), (7, sv zx.2.2), (8, .int .i64 (((x2.1 : Nat) : Int) - 1)), (9, .int .i64 (un zx.1))]) (fun zx => [(0, (ss 3 a)), (1, (ss 3 b)), (20, (ss 3 zx.2.1)), (22, (ss 3 zx.2.2))]) (fun zx => DivN (dg a) (dg b) (x2.1 - 1) zx.1 (dg zx.2.1) (dg zx.2.2) ∧ RowOK zx.2.1 ∧ RowOK zx.2.2) (fun zx => zx.1) (fun x3 => .reg [.sem [], .sem []] (.cond (.reg [.sem [], .sem [], .callw [22] [21, 22] ref1_Add2_C, .sem []] (.reg [.sem [], .sem [], .eq (f_idx), .specr [0] F_get, .sem [], .eq (fun vs => .int .i64 (ci (varg vs 0) / ci (varg vs 1))), .gen [] (fun vs => one (.int .i64 (ci (varg vs 0) % 2)) vs), .sem []] (.cond (.reg [.sem [], .sem [.nw 3], .callw [22, 3] [21, 3, 22] ref1_Add_C, .sem []] (.reg [.sem [], .sem [], .callr [22, 1] ref1_Cmp_C, .sem []] (.cond (.reg [.sem [], .sem [], .callw [22, 1] [21, 1, 22] ref1_Sub_C, .sem []] (.reg [.sem [], .sem [], .sem [], .sem [], .eq (f_idx), .specr [20] F_get, .sem [], .gen [] (fun vs => one (.int .i64 (ci (varg vs 0) + ci (varg vs 1))) vs), .eq (f_idx), .specw [20] [20] F_put] (.reg [.sem [], .gen [] (fun vs => one (.int .i64 (ci (varg vs 0) / 2)) vs), .sem []] (.done)))) (.reg [.sem [], .gen [] (fun vs => one (.int .i64 (ci (varg vs 0) / 2)) vs), .sem []] (.done))))) (.reg [.sem [], .sem [], .callr [22, 1] ref1_Cmp_C, .sem []] (.cond (.reg [.sem [], .sem [], .callw [22, 1] [21, 1, 22] ref1_Sub_C, .sem []] (.reg [.sem [], .sem [], .sem [], .sem [], .eq (f_idx), .specr [20] F_get, .sem [], .gen [] (fun vs => one (.int .i64 (ci (varg vs 0) + ci (varg vs 1))) vs), .eq (f_idx), .specw [20] [20] F_put] (.reg [.sem [], .gen [] (fun vs => one (.int .i64 (ci (varg vs 0) / 2)) vs), .sem []] (.done)))) (.reg [.sem [], .gen [] (fun vs => one (.int .i64 (ci (varg vs 0) / 2)) vs), .sem []] (.done))))))) (.reg [.sem [], .gen [] (fun vs => one (.int .i64 (ci (varg vs 0) - ci (varg vs 1))) vs), .sem []] (.done)))))) (.reg [.sem [], .callw [20] [20] ref1_Trim_C, .sem [], .sem [], .sem []] (.done)))))))))
    (init #[sv a, sv b] [(ss 3 a), (ss 3 b)]) (finW Try.prog Try.f33 [] [0, 1, 20, 22] (X := Row × Row) (fun zx => .tuple #[sv zx.1, sv zx.2]) (fun zx => [(ss 3 a), (ss 3 b), (ss 3 zx.1), (ss 3 zx.2)]) (fun zx => (RowOK zx.1 ∧ RowOK zx.2 ∧ nv (dg zx.1) = nv (rdv (sv a) (ss 3 a)) / nv (rdv (sv b) (ss 3 b)) ∧ nv (dg zx.2) = nv (rdv (sv a) (ss 3 a)) % nv (rdv (sv b) (ss 3 b)) ∧ Canon (dg zx.1) ∧ Canon (dg zx.2)))) =
    ((PureRun Try.prog (do pure (.value (← Builtin.len_ #[41] 3 #[sv a]))) (.int .i64 ((vlen (sv a) : Nat) : Int))) ∧ (OpT Try.prog (do pure (.value (← Instr.makeSlice 41 (.int .i64 ((vlen (sv a) : Nat) : Int)) (.int .i64 ((vlen (sv a) : Nat) : Int))))) [] Row (fun zx => sv zx) (fun zx => [(ss 3 zx)]) (fun zx => vals zx = List.replicate (Int.toNat ((vlen (sv a) : Nat) : Int)) (.int .i64 0))) ∧ (∃ zx : Row, (fun zx => vals zx = List.replicate (Int.toNat ((vlen (sv a) : Nat) : Int)) (.int .i64 0)) zx) ∧ ∀ x1 : Row, (vals x1 = List.replicate (Int.toNat ((vlen (sv a) : Nat) : Int)) (.int .i64 0)) → (PureRun Try.prog (do pure (.value (← Builtin.len_ #[41] 3 #[sv a]))) (.int .i64 ((vlen (sv a) : Nat) : Int))) ∧ (∃ _ : Unit, True ∧ Value.int .i64 (IntKind.i64.wrap (((vlen (sv a) : Nat) : Int) - 1)) = .int .i64 (((vlen (sv a) : Nat) : Int) - 1)) ∧ ∀ _ : Unit, (True) → (∃ zx : Nat × Row × Row, (DivO (dg a) (dg b) zx.1 (dg zx.2.1) (dg zx.2.2) ∧ RowOK zx.2.1 ∧ RowOK zx.2.2) ∧ sv a = sv a ∧ sv b = sv b ∧ sv x1 = sv zx.2.1 ∧ Value.slice none 0 0 = sv zx.2.2 ∧ Value.int .i64 (((vlen (sv a) : Nat) : Int) - 1) = .int .i64 (((zx.1 : Nat) : Int) - 1) ∧ (ss 3 a) = (ss 3 a) ∧ (ss 3 b) = (ss 3 b) ∧ (ss 3 x1) = (ss 3 zx.2.1) ∧ Slot.free = (ss 3 zx.2.2) ∧ True) ∧ ∀ x2 : Nat × Row × Row, ∀ jx2 : Nat → Value, (DivO (dg a) (dg b) x2.1 (dg x2.2.1) (dg x2.2.2) ∧ RowOK x2.2.1 ∧ RowOK x2.2.2) → ((decide ((((x2.1 : Nat) : Int) - 1) ≥ (0 : Int))) = true → (∃ zx : Nat × Row × Row, (DivN (dg a) (dg b) (x2.1 - 1) zx.1 (dg zx.2.1) (dg zx.2.2) ∧ RowOK zx.2.1 ∧ RowOK zx.2.2) ∧ sv a = sv a ∧ sv b = sv b ∧ sv x2.2.1 = sv zx.2.1 ∧ sv x2.2.2 = sv zx.2.2 ∧ Value.int .i64 (((x2.1 : Nat) : Int) - 1) = .int .i64 (((x2.1 : Nat) : Int) - 1) ∧ Value.int .i64 32768 = .int .i64 (un zx.1) ∧ (ss 3 a) = (ss 3 a) ∧ (ss 3 b) = (ss 3 b) ∧ (ss 3 x2.2.1) = (ss 3 zx.2.1) ∧ (ss 3 x2.2.2) = (ss 3 zx.2.2) ∧ True) ∧ ∀ x3 : Nat × Row × Row, ∀ jx3 : Nat → Value, (DivN (dg a) (dg b) (x2.1 - 1) x3.1 (dg x3.2.1) (dg x3.2.2) ∧ RowOK x3.2.1 ∧ RowOK x3.2.2) → ((decide ((un x3.1) > (0 : Int))) = true → (CallT Try.prog 22 #[sv x3.2.2, sv x3.2.2] [(ss 3 x3.2.2)] Row (fun zx => sv zx) (fun zx => [(ss 3 x3.2.2), (ss 3 zx)]) (fun zx => RowOK zx ∧ nv (dg zx) = nv (rdv (sv x3.2.2) (ss 3 x3.2.2)) + nv (rdv (sv x3.2.2) (ss 3 x3.2.2)) ∧ Canon (dg zx))) ∧ (∃ zx : Row, (fun zx => RowOK zx ∧ nv (dg zx) = nv (rdv (sv x3.2.2) (ss 3 x3.2.2)) + nv (rdv (sv x3.2.2) (ss 3 x3.2.2)) ∧ Canon (dg zx)) zx) ∧ ∀ x4 : Row, (RowOK x4 ∧ nv (dg x4) = nv (rdv (sv x3.2.2) (ss 3 x3.2.2)) + nv (rdv (sv x3.2.2) (ss 3 x3.2.2)) ∧ Canon (dg x4)) → (PureRun Try.prog (do pure (.value (← Instr.indexAt 41 (sv a) (.int .i64 (((x2.1 : Nat) : Int) - 1))))) (.pointer (some ⟨(vblk (sv a)), (Int.toNat (((x2.1 : Nat) : Int) - 1)), none⟩))) ∧ (OpT Try.prog (do pure (.value (← Instr.loadAt 3 (.pointer (some ⟨(vblk (sv a)), (Int.toNat (((x2.1 : Nat) : Int) - 1)), none⟩))))) [(ss 3 a)] Int (fun zx => .int .i64 zx) (fun _ => [(ss 3 a)]) (fun zx => (scells (ss 3 a))[(Int.toNat (((x2.1 : Nat) : Int) - 1))]? = some (.int .i64 zx))) ∧ (∃ zx : Int, (fun zx => (scells (ss 3 a))[(Int.toNat (((x2.1 : Nat) : Int) - 1))]? = some (.int .i64 zx)) zx) ∧ ∀ x5 : Int, ((scells (ss 3 a))[(Int.toNat (((x2.1 : Nat) : Int) - 1))]? = some (.int .i64 x5)) → (PureRun Try.prog (xBin .quo 3 (.int .i64 x5) (.int .i64 (un x3.1))) (.int .i64 (x5 / (un x3.1)))) ∧ (∃ _ : Unit, True ∧ Value.int .i64 (Int.tmod (x5 / (un x3.1)) 2) = .int .i64 ((x5 / (un x3.1)) % 2)) ∧ ∀ _ : Unit, (True) → ((((x5 / (un x3.1)) % 2) == (1 : Int)) = true → ∀ b6 : Nat, (CallT Try.prog 22 #[sv x4, .slice (some ⟨b6, 0, none⟩) 1 1] [(ss 3 x4), (ss 3 (Row.mk b6 [.int .i64 1] []))] Row (fun zx => sv zx) (fun zx => [(ss 3 x4), (ss 3 (Row.mk b6 [.int .i64 1] [])), (ss 3 zx)]) (fun zx => RowOK zx ∧ nv (dg zx) = nv (rdv (sv x4) (ss 3 x4)) + nv (rdv (sv (Row.mk b6 [.int .i64 1] [])) (ss 3 (Row.mk b6 [.int .i64 1] []))) ∧ Canon (dg zx))) ∧ (∃ zx : Row, (fun zx => RowOK zx ∧ nv (dg zx) = nv (rdv (sv x4) (ss 3 x4)) + nv (rdv (sv (Row.mk b6 [.int .i64 1] [])) (ss 3 (Row.mk b6 [.int .i64 1] []))) ∧ Canon (dg zx)) zx) ∧ ∀ x7 : Row, (RowOK x7 ∧ nv (dg x7) = nv (rdv (sv x4) (ss 3 x4)) + nv (rdv (sv (Row.mk b6 [.int .i64 1] [])) (ss 3 (Row.mk b6 [.int .i64 1] []))) ∧ Canon (dg x7)) → (CallT Try.prog 27 #[sv x7, sv b] [(ss 3 x7), (ss 3 b)] Int (fun zx => .int .i64 zx) (fun _ => [(ss 3 x7), (ss 3 b)]) (fun zx => zx = hCmp (nv (rdv (sv x7) (ss 3 x7))) (nv (rdv (sv b) (ss 3 b))))) ∧ (∃ zx : Int, (fun zx => zx = hCmp (nv (rdv (sv x7) (ss 3 x7))) (nv (rdv (sv b) (ss 3 b)))) zx) ∧ ∀ x8 : Int, (x8 = hCmp (nv (rdv (sv x7) (ss 3 x7))) (nv (rdv (sv b) (ss 3 b)))) → ((decide (x8 ≥ (0 : Int))) = true → (CallT Try.prog 80 #[sv x7, sv b] [(ss 3 x7), (ss 3 b)] Row (fun zx => sv zx) (fun zx => [(ss 3 x7), (ss 3 b), (ss 3 zx)]) (fun zx => RowOK zx ∧ nv (dg zx) = nv (rdv (sv x7) (ss 3 x7)) - nv (rdv (sv b) (ss 3 b)) ∧ Canon (dg zx))) ∧ (∃ zx : Row, (fun zx => RowOK zx ∧ nv (dg zx) = nv (rdv (sv x7) (ss 3 x7)) - nv (rdv (sv b) (ss 3 b)) ∧ Canon (dg zx)) zx) ∧ ∀ x9 : Row, (RowOK x9 ∧ nv (dg x9) = nv (rdv (sv x7) (ss 3 x7)) - nv (rdv (sv b) (ss 3 b)) ∧ Canon (dg x9)) → (PureRun Try.prog (do pure (.value (← Instr.indexAt 41 (sv x3.2.1) (.int .i64 (((x2.1 : Nat) : Int) - 1))))) (.pointer (some ⟨(vblk (sv x3.2.1)), (Int.toNat (((x2.1 : Nat) : Int) - 1)), none⟩))) ∧ (OpT Try.prog (do pure (.value (← Instr.loadAt 3 (.pointer (some ⟨(vblk (sv x3.2.1)), (Int.toNat (((x2.1 : Nat) : Int) - 1)), none⟩))))) [(ss 3 x3.2.1)] Int (fun zx => .int .i64 zx) (fun _ => [(ss 3 x3.2.1)]) (fun zx => (scells (ss 3 x3.2.1))[(Int.toNat (((x2.1 : Nat) : Int) - 1))]? = some (.int .i64 zx))) ∧ (∃ zx : Int, (fun zx => (scells (ss 3 x3.2.1))[(Int.toNat (((x2.1 : Nat) : Int) - 1))]? = some (.int .i64 zx)) zx) ∧ ∀ x10 : Int, ((scells (ss 3 x3.2.1))[(Int.toNat (((x2.1 : Nat) : Int) - 1))]? = some (.int .i64 x10)) → (∃ _ : Unit, True ∧ Value.int .i64 (IntKind.i64.wrap (x10 + (un x3.1))) = .int .i64 (x10 + (un x3.1))) ∧ ∀ _ : Unit, (True) → (PureRun Try.prog (do pure (.value (← Instr.indexAt 41 (sv x3.2.1) (.int .i64 (((x2.1 : Nat) : Int) - 1))))) (.pointer (some ⟨(vblk (sv x3.2.1)), (Int.toNat (((x2.1 : Nat) : Int) - 1)), none⟩))) ∧ (OpT Try.prog (do Instr.storeAt 3 (.pointer (some ⟨(vblk (sv x3.2.1)), (Int.toNat (((x2.1 : Nat) : Int) - 1)), none⟩)) (.int .i64 (x10 + (un x3.1))); pure .skip) [(ss 3 x3.2.1)] Unit (fun _ => .tuple #[]) (fun _ => [(sset (ss 3 x3.2.1) (Int.toNat (((x2.1 : Nat) : Int) - 1)) (.int .i64 (x10 + (un x3.1))))]) (fun _ => True)) ∧ (∃ zx : Unit, (fun _ => True) zx) ∧ ∀ _ : Unit, (True) → (∃ _ : Unit, True ∧ Value.int .i64 (IntKind.i64.wrap (Int.tdiv (un x3.1) 2)) = .int .i64 ((un x3.1) / 2)) ∧ ∀ _ : Unit, (True) → ∃ zy : Nat × Row × Row, (DivN (dg a) (dg b) (x2.1 - 1) zy.1 (dg zy.2.1) (dg zy.2.2) ∧ RowOK zy.2.1 ∧ RowOK zy.2.2) ∧ zy.1 < x3.1 ∧ sv a = sv a ∧ sv b = sv b ∧ sv x3.2.1 = sv zy.2.1 ∧ sv x9 = sv zy.2.2 ∧ Value.int .i64 (((x2.1 : Nat) : Int) - 1) = .int .i64 (((x2.1 : Nat) : Int) - 1) ∧ Value.int .i64 ((un x3.1) / 2) = .int .i64 (un zy.1) ∧ (ss 3 a) = (ss 3 a) ∧ (ss 3 b) = (ss 3 b) ∧ (sset (ss 3 x3.2.1) (Int.toNat (((x2.1 : Nat) : Int) - 1)) (.int .i64 (x10 + (un x3.1)))) = (ss 3 zy.2.1) ∧ (ss 3 x9) = (ss 3 zy.2.2) ∧ True) ∧ ((decide (x8 ≥ (0 : Int))) = false → (∃ _ : Unit, True ∧ Value.int .i64 (IntKind.i64.wrap (Int.tdiv (un x3.1) 2)) = .int .i64 ((un x3.1) / 2)) ∧ ∀ _ : Unit, (True) → ∃ zy : Nat × Row × Row, (DivN (dg a) (dg b) (x2.1 - 1) zy.1 (dg zy.2.1) (dg zy.2.2) ∧ RowOK zy.2.1 ∧ RowOK zy.2.2) ∧ zy.1 < x3.1 ∧ sv a = sv a ∧ sv b = sv b ∧ sv x3.2.1 = sv zy.2.1 ∧ sv x7 = sv zy.2.2 ∧ Value.int .i64 (((x2.1 : Nat) : Int) - 1) = .int .i64 (((x2.1 : Nat) : Int) - 1) ∧ Value.int .i64 ((un x3.1) / 2) = .int .i64 (un zy.1) ∧ (ss 3 a) = (ss 3 a) ∧ (ss 3 b) = (ss 3 b) ∧ (ss 3 x3.2.1) = (ss 3 zy.2.1) ∧ (ss 3 x7) = (ss 3 zy.2.2) ∧ True)) ∧ ((((x5 / (un x3.1)) % 2) == (1 : Int)) = false → (CallT Try.prog 27 #[sv x4, sv b] [(ss 3 x4), (ss 3 b)] Int (fun zx => .int .i64 zx) (fun _ => [(ss 3 x4), (ss 3 b)]) (fun zx => zx = hCmp (nv (rdv (sv x4) (ss 3 x4))) (nv (rdv (sv b) (ss 3 b))))) ∧ (∃ zx : Int, (fun zx => zx = hCmp (nv (rdv (sv x4) (ss 3 x4))) (nv (rdv (sv b) (ss 3 b)))) zx) ∧ ∀ x11 : Int, (x11 = hCmp (nv (rdv (sv x4) (ss 3 x4))) (nv (rdv (sv b) (ss 3 b)))) → ((decide (x11 ≥ (0 : Int))) = true → (CallT Try.prog 80 #[sv x4, sv b] [(ss 3 x4), (ss 3 b)] Row (fun zx => sv zx) (fun zx => [(ss 3 x4), (ss 3 b), (ss 3 zx)]) (fun zx => RowOK zx ∧ nv (dg zx) = nv (rdv (sv x4) (ss 3 x4)) - nv (rdv (sv b) (ss 3 b)) ∧ Canon (dg zx))) ∧ (∃ zx : Row, (fun zx => RowOK zx ∧ nv (dg zx) = nv (rdv (sv x4) (ss 3 x4)) - nv (rdv (sv b) (ss 3 b)) ∧ Canon (dg zx)) zx) ∧ ∀ x12 : Row, (RowOK x12 ∧ nv (dg x12) = nv (rdv (sv x4) (ss 3 x4)) - nv (rdv (sv b) (ss 3 b)) ∧ Canon (dg x12)) → (PureRun Try.prog (do pure (.value (← Instr.indexAt 41 (sv x3.2.1) (.int .i64 (((x2.1 : Nat) : Int) - 1))))) (.pointer (some ⟨(vblk (sv x3.2.1)), (Int.toNat (((x2.1 : Nat) : Int) - 1)), none⟩))) ∧ (OpT Try.prog (do pure (.value (← Instr.loadAt 3 (.pointer (some ⟨(vblk (sv x3.2.1)), (Int.toNat (((x2.1 : Nat) : Int) - 1)), none⟩))))) [(ss 3 x3.2.1)] Int (fun zx => .int .i64 zx) (fun _ => [(ss 3 x3.2.1)]) (fun zx => (scells (ss 3 x3.2.1))[(Int.toNat (((x2.1 : Nat) : Int) - 1))]? = some (.int .i64 zx))) ∧ (∃ zx : Int, (fun zx => (scells (ss 3 x3.2.1))[(Int.toNat (((x2.1 : Nat) : Int) - 1))]? = some (.int .i64 zx)) zx) ∧ ∀ x13 : Int, ((scells (ss 3 x3.2.1))[(Int.toNat (((x2.1 : Nat) : Int) - 1))]? = some (.int .i64 x13)) → (∃ _ : Unit, True ∧ Value.int .i64 (IntKind.i64.wrap (x13 + (un x3.1))) = .int .i64 (x13 + (un x3.1))) ∧ ∀ _ : Unit, (True) → (PureRun Try.prog (do pure (.value (← Instr.indexAt 41 (sv x3.2.1) (.int .i64 (((x2.1 : Nat) : Int) - 1))))) (.pointer (some ⟨(vblk (sv x3.2.1)), (Int.toNat (((x2.1 : Nat) : Int) - 1)), none⟩))) ∧ (OpT Try.prog (do Instr.storeAt 3 (.pointer (some ⟨(vblk (sv x3.2.1)), (Int.toNat (((x2.1 : Nat) : Int) - 1)), none⟩)) (.int .i64 (x13 + (un x3.1))); pure .skip) [(ss 3 x3.2.1)] Unit (fun _ => .tuple #[]) (fun _ => [(sset (ss 3 x3.2.1) (Int.toNat (((x2.1 : Nat) : Int) - 1)) (.int .i64 (x13 + (un x3.1))))]) (fun _ => True)) ∧ (∃ zx : Unit, (fun _ => True) zx) ∧ ∀ _ : Unit, (True) → (∃ _ : Unit, True ∧ Value.int .i64 (IntKind.i64.wrap (Int.tdiv (un x3.1) 2)) = .int .i64 ((un x3.1) / 2)) ∧ ∀ _ : Unit, (True) → ∃ zy : Nat × Row × Row, (DivN (dg a) (dg b) (x2.1 - 1) zy.1 (dg zy.2.1) (dg zy.2.2) ∧ RowOK zy.2.1 ∧ RowOK zy.2.2) ∧ zy.1 < x3.1 ∧ sv a = sv a ∧ sv b = sv b ∧ sv x3.2.1 = sv zy.2.1 ∧ sv x12 = sv zy.2.2 ∧ Value.int .i64 (((x2.1 : Nat) : Int) - 1) = .int .i64 (((x2.1 : Nat) : Int) - 1) ∧ Value.int .i64 ((un x3.1) / 2) = .int .i64 (un zy.1) ∧ (ss 3 a) = (ss 3 a) ∧ (ss 3 b) = (ss 3 b) ∧ (sset (ss 3 x3.2.1) (Int.toNat (((x2.1 : Nat) : Int) - 1)) (.int .i64 (x13 + (un x3.1)))) = (ss 3 zy.2.1) ∧ (ss 3 x12) = (ss 3 zy.2.2) ∧ True) ∧ ((decide (x11 ≥ (0 : Int))) = false → (∃ _ : Unit, True ∧ Value.int .i64 (IntKind.i64.wrap (Int.tdiv (un x3.1) 2)) = .int .i64 ((un x3.1) / 2)) ∧ ∀ _ : Unit, (True) → ∃ zy : Nat × Row × Row, (DivN (dg a) (dg b) (x2.1 - 1) zy.1 (dg zy.2.1) (dg zy.2.2) ∧ RowOK zy.2.1 ∧ RowOK zy.2.2) ∧ zy.1 < x3.1 ∧ sv a = sv a ∧ sv b = sv b ∧ sv x3.2.1 = sv zy.2.1 ∧ sv x4 = sv zy.2.2 ∧ Value.int .i64 (((x2.1 : Nat) : Int) - 1) = .int .i64 (((x2.1 : Nat) : Int) - 1) ∧ Value.int .i64 ((un x3.1) / 2) = .int .i64 (un zy.1) ∧ (ss 3 a) = (ss 3 a) ∧ (ss 3 b) = (ss 3 b) ∧ (ss 3 x3.2.1) = (ss 3 zy.2.1) ∧ (ss 3 x4) = (ss 3 zy.2.2) ∧ True))) ∧ ((decide ((un x3.1) > (0 : Int))) = false → (∃ _ : Unit, True ∧ Value.int .i64 (IntKind.i64.wrap ((((x2.1 : Nat) : Int) - 1) - 1)) = .int .i64 ((((x2.1 : Nat) : Int) - 1) - 1)) ∧ ∀ _ : Unit, (True) → ∃ zy : Nat × Row × Row, (DivO (dg a) (dg b) zy.1 (dg zy.2.1) (dg zy.2.2) ∧ RowOK zy.2.1 ∧ RowOK zy.2.2) ∧ zy.1 < x2.1 ∧ sv a = sv a ∧ sv b = sv b ∧ sv x3.2.1 = sv zy.2.1 ∧ sv x3.2.2 = sv zy.2.2 ∧ Value.int .i64 ((((x2.1 : Nat) : Int) - 1) - 1) = .int .i64 (((zy.1 : Nat) : Int) - 1) ∧ (ss 3 a) = (ss 3 a) ∧ (ss 3 b) = (ss 3 b) ∧ (ss 3 x3.2.1) = (ss 3 zy.2.1) ∧ (ss 3 x3.2.2) = (ss 3 zy.2.2) ∧ True)) ∧ ((decide ((((x2.1 : Nat) : Int) - 1) ≥ (0 : Int))) = false → (CallT Try.prog 68 #[sv x2.2.1] [(ss 3 x2.2.1)] Row (fun zx => sv zx) (fun zx => [(ss 3 zx)]) (fun zx => RowOK zx ∧ ss 3 zx = (ss 3 x2.2.1) ∧ TrimR (rdv (sv x2.2.1) (ss 3 x2.2.1)) (dg zx))) ∧ (∃ zx : Row, (fun zx => RowOK zx ∧ ss 3 zx = (ss 3 x2.2.1) ∧ TrimR (rdv (sv x2.2.1) (ss 3 x2.2.1)) (dg zx)) zx) ∧ ∀ x14 : Row, (RowOK x14 ∧ ss 3 x14 = (ss 3 x2.2.1) ∧ TrimR (rdv (sv x2.2.1) (ss 3 x2.2.1)) (dg x14)) → ∃ zx : Row × Row, (RowOK zx.1 ∧ RowOK zx.2 ∧ nv (dg zx.1) = nv (rdv (sv a) (ss 3 a)) / nv (rdv (sv b) (ss 3 b)) ∧ nv (dg zx.2) = nv (rdv (sv a) (ss 3 a)) % nv (rdv (sv b) (ss 3 b)) ∧ Canon (dg zx.1) ∧ Canon (dg zx.2)) ∧ Value.tuple #[sv x14, sv x2.2.2] = .tuple #[sv zx.1, sv zx.2] ∧ (ss 3 a) = (ss 3 a) ∧ (ss 3 b) = (ss 3 b) ∧ (ss 3 x14) = (ss 3 zx.1) ∧ (ss 3 x2.2.2) = (ss 3 zx.2) ∧ True)) := by kernel_rfl
set_option maxRecDepth 100000 in
set_option maxHeartbeats 2000000 in
theorem ref1_Div (a : Row) (b : Row) (r_a : RowOK a) (r_b : RowOK b) (la : (dg a).length ≤ 65000) (lb : (dg b).length ≤ 65000) (hb : 0 < nv (dg b)) : CallT Try.prog 33 #[sv a, sv b] [(ss 3 a), (ss 3 b)] (Row × Row) (fun zx => .tuple #[sv zx.1, sv zx.2]) (fun zx => [(ss 3 a), (ss 3 b), (ss 3 zx.1), (ss 3 zx.2)]) (fun zx => (RowOK zx.1 ∧ RowOK zx.2 ∧ nv (dg zx.1) = nv (rdv (sv a) (ss 3 a)) / nv (rdv (sv b) (ss 3 b)) ∧ nv (dg zx.2) = nv (rdv (sv a) (ss 3 a)) % nv (rdv (sv b) (ss 3 b)) ∧ Canon (dg zx.1) ∧ Canon (dg zx.2))) := by
  refine call_of (c := bodyOf Try.f33) (n := 57) (fn := Try.f33) Try.mixed Try.func33 (by kernel_rfl) (by kernel_rfl) (by kernel_rfl) 2000 _ [] [0, 1, 20, 22] rfl rfl (Eq.mpr (ref1_Div_vc a b) ?_)
  have d_a := rdv_eq a 3
  have d_b := rdv_eq b 3
  have e_a := vlen_dg a
  have e_b := vlen_dg b
  refine ⟨xlen Try.sl41 3 a, xmake Try.sl41 .i64 ((vlen (sv a) : Nat) : Int) (by omega) (by omega), wit_make (e := 3) _ _, ?_⟩
  intro x1
  intro h1
  refine ⟨xlen Try.sl41 3 a, ⟨(), trivial, congrArg (Value.int .i64) (wrap_i64 _ (by omega) (by omega))⟩, ?_⟩
  intro _
  intro _
  refine ⟨?_, fun x2 jx2 h2 => ?_⟩
  · have q := RowOK.zeros (y := x1) (by assumption)
    have eq : Int.toNat ((vlen (sv a) : Nat) : Int) = (dg a).length := by omega
    rw [eq] at q
    exact ⟨((dg a).length, x1, Row.nil), ⟨by rw [q.2]; exact div_start _ _ hb, q.1, RowOK.nil⟩, rfl, rfl, rfl, rfl, congrArg (Value.int .i64) (by dsimp only; omega), rfl, rfl, rfl, rfl, trivial⟩
  · obtain ⟨D, okq, okl⟩ := h2
    have l1 := D.le; have l2 := D.len
    have da := r_a.dig.dgt (Int.toNat (((x2.1 : Nat) : Int) - 1))
    refine ⟨fun h3 => ?_, fun h3 => ?_⟩
    · refine ⟨?_, fun x3 jx3 h4 => ?_⟩
      · have D' : DivO (dg a) (dg b) (x2.1 - 1 + 1) (dg x2.2.1) (dg x2.2.2) := by
          rw [show x2.1 - 1 + 1 = x2.1 from by simp only [decide_eq_true_eq, decide_eq_false_iff_not, gt_iff_lt, ge_iff_le, beq_iff_eq, beq_eq_false_iff_ne] at *; omega]; exact D
        exact ⟨(16, x2.2), ⟨divn_start r_a.dig okq.dig D', okq, okl⟩, rfl, rfl, rfl, rfl, rfl, rfl, rfl, rfl, rfl, rfl, trivial⟩
      · obtain ⟨N, okq', okl'⟩ := h4
        have k16 := N.k16; have n2 := N.len; have n3 := N.lt; have n4 := N.li
        obtain ⟨u0, u1, u2⟩ := un_range k16
        have et : Int.toNat (((x2.1 : Nat) : Int) - 1) = x2.1 - 1 := by omega
        have ll := canon_lt okl'.dig N.canon r_b.dig n3
        have da := r_a.dig.dgt (x2.1 - 1)
        have dq := okq'.dig.dgt (x2.1 - 1)
        refine ⟨fun h5 => ?_, fun h5 => ?_⟩
        · have hi : 0 < x2.1 := by
            simp only [decide_eq_true_eq, decide_eq_false_iff_not, gt_iff_lt, ge_iff_le, beq_iff_eq, beq_eq_false_iff_ne] at *
            omega
          have hk : 0 < x3.1 := by
            simp only [decide_eq_true_eq, decide_eq_false_iff_not, gt_iff_lt, ge_iff_le, beq_iff_eq, beq_eq_false_iff_ne] at *
            omega
          have hnz : un x3.1 ≠ 0 := by omega
          refine ⟨ref1_Add2 x3.2.2 (by first | assumption | exact rowOK_lit _ _ (by decide)) (by omega), wit_row (by rw [rdv_eq x3.2.2]; exact Int.add_nonneg (nv_nonneg (RowOK.dig (by first | assumption | exact rowOK_lit _ _ (by decide)))) (nv_nonneg (RowOK.dig (by first | assumption | exact rowOK_lit _ _ (by decide))))), ?_⟩
          intro x4
          intro h6
          simp only [rdv_eq] at h6
          obtain ⟨rh6_, h6⟩ := h6
          have A1 := h6
          have lA1 : (dg x4).length ≤ (dg b).length + 3 := canon_len2 (RowOK.dig (by assumption)) A1.2 r_b.dig (by rw [A1.1]; omega)
          have da' := r_a.dig.dgt (Int.toNat (((x2.1 : Nat) : Int) - 1))
          refine ⟨xidx Try.sl41 a .i64 (((x2.1 : Nat) : Int) - 1) (by omega) (by rw [← dg_len]; omega), xgetR (e := 3) a 3 Try.agg3 (Int.toNat (((x2.1 : Nat) : Int) - 1)) r_a (by omega), wit_get (e := 3) a (Int.toNat (((x2.1 : Nat) : Int) - 1)) r_a (by omega), ?_⟩
          intro x5
          intro h7
          replace h7 := getR (e := 3) a (Int.toNat (((x2.1 : Nat) : Int) - 1)) r_a (by omega) h7
          refine ⟨PureRun.to (xquo (hnz)) (congrArg (Value.int .i64) (quo_un k16 hk (by omega) (by omega))), ⟨(), trivial, congrArg (Value.int .i64) (tmod_nat (Int.ediv_nonneg (by omega) u0))⟩, ?_⟩
          intro _
          intro _
          refine ⟨fun h8 => ?_, fun h8 => ?_⟩
          · intro b6
            refine ⟨ref1_Add x4 (Row.mk b6 [.int .i64 1] []) (by first | assumption | exact rowOK_lit _ _ (by decide)) (rowOK_lit b6 [1] (by decide)) (by omega) (Nat.le_of_ble_eq_true rfl), wit_row (by rw [rdv_eq x4, rdv_eq (Row.mk b6 [.int .i64 1] [])]; exact Int.add_nonneg (nv_nonneg (RowOK.dig (by first | assumption | exact rowOK_lit _ _ (by decide)))) (nv_nonneg (RowOK.dig (rowOK_lit b6 [1] (by decide))))), ?_⟩
            intro x7
            intro h9
            simp only [rdv_eq] at h9
            obtain ⟨rh9_, h9⟩ := h9
            have A2 := h9
            have lA2 : (dg x7).length ≤ (dg b).length + 3 := canon_len2 (RowOK.dig (by assumption)) A2.2 r_b.dig (by rw [A2.1, A1.1, show nv (dg (Row.mk _ [Value.int .i64 1] [])) = 1 from rfl]; omega)
            refine ⟨ref1_Cmp x7 b (by first | assumption | exact rowOK_lit _ _ (by decide)) (by first | assumption | exact rowOK_lit _ _ (by decide)) (by omega) (by omega), ⟨_, rfl⟩, ?_⟩
            intro x8
            intro h10
            simp only [rdv_eq] at h10
            have hC := h10
            refine ⟨fun h11 => ?_, fun h11 => ?_⟩
            · have hge := hCmp_ge hC (of_decide_eq_true (by assumption))
              refine ⟨ref1_Sub x7 b (by first | assumption | exact rowOK_lit _ _ (by decide)) (by first | assumption | exact rowOK_lit _ _ (by decide)) (by omega) (by omega) (hCmp_ge hC (of_decide_eq_true (by assumption))), wit_row (by rw [rdv_eq x7, rdv_eq b]; omega), ?_⟩
              intro x9
              intro h12
              simp only [rdv_eq] at h12
              obtain ⟨rh12_, h12⟩ := h12
              have S1 := h12
              have dq' := okq'.dig.dgt (Int.toNat (((x2.1 : Nat) : Int) - 1))
              refine ⟨xidx Try.sl41 x3.2.1 .i64 (((x2.1 : Nat) : Int) - 1) (by omega) (by rw [← dg_len]; omega), xgetR (e := 3) x3.2.1 3 Try.agg3 (Int.toNat (((x2.1 : Nat) : Int) - 1)) okq' (by omega), wit_get (e := 3) x3.2.1 (Int.toNat (((x2.1 : Nat) : Int) - 1)) okq' (by omega), ?_⟩
              intro x10
              intro h13
              replace h13 := getR (e := 3) x3.2.1 (Int.toNat (((x2.1 : Nat) : Int) - 1)) okq' (by omega) h13
              refine ⟨⟨(), trivial, congrArg (Value.int .i64) (wrap_i64 _ (by omega) (by omega))⟩, ?_⟩
              intro _
              intro _
              refine ⟨xidx Try.sl41 x3.2.1 .i64 (((x2.1 : Nat) : Int) - 1) (by omega) (by rw [← dg_len]; omega), xput (e := 3) x3.2.1 3 Try.size3 (Int.toNat (((x2.1 : Nat) : Int) - 1)) (.int .i64 (x10 + (un x3.1))) rfl rfl (by rw [← dg_len]; omega), ⟨(), trivial⟩, ?_⟩
              intro _
              intro _
              refine ⟨⟨(), trivial, congrArg (Value.int .i64) (quo2_i64 u0 (by omega))⟩, ?_⟩
              intro _
              intro _
              have hx0 : 0 < x3.1 := by
                simp only [decide_eq_true_eq, decide_eq_false_iff_not, gt_iff_lt, ge_iff_le, beq_iff_eq, beq_eq_false_iff_ne] at *
                omega
              obtain ⟨m, hm⟩ : ∃ m, x3.1 = m + 1 := ⟨x3.1 - 1, by omega⟩
              have hu : un x3.1 = 2 ^ m := by rw [hm]; exact un_succ (by omega)
              have hh : un x3.1 / 2 = un m := by rw [hm]; exact un_half (by omega)
              have N' : DivN (dg a) (dg b) (x2.1 - 1) (m + 1) (dg x3.2.1) (dg x3.2.2) := hm ▸ N
              have hbit : dgt (dg a) (x2.1 - 1) / 2 ^ m % 2 = 1 := by
                have hb2 := Int.emod_two_eq (dgt (dg a) (x2.1 - 1) / 2 ^ m)
                rw [← hu] at hb2 ⊢
                have hz := eq_of_beq h8
                rw [h7, et] at hz
                omega
              have hM : nv (dg x7) = 2 * nv (dg x3.2.2) + dgt (dg a) (x2.1 - 1) / 2 ^ m % 2 := by
                rw [hbit]
                rw [A2.1, A1.1, show nv (dg (Row.mk _ [Value.int .i64 1] [])) = 1 from rfl]; omega
              have hge : nv (dg b) ≤ nv (dg x7) := hCmp_ge hC (of_decide_eq_true h11)
              have q1 := divn_yes hb N' hM S1.1 S1.2
              have hr := divn_room okq'.dig N'
              have p := okq'.set (x2.1 - 1) hr.1 hr.2
              rw [← p.2] at q1
              exact ⟨(m, x3.2.1.set (x2.1 - 1) (.int .i64 (dgt (dg x3.2.1) (x2.1 - 1) + 2 ^ m)), x9), ⟨q1, p.1, by assumption⟩, by dsimp only; omega, rfl, rfl, (sv_set _ _ _).symm, rfl, rfl, congrArg (Value.int .i64) hh, rfl, rfl, by rw [et, hu, h13, et]; exact ss_set _ _ _ _ (by rw [← dg_len]; omega), rfl, trivial⟩
            · refine ⟨⟨(), trivial, congrArg (Value.int .i64) (quo2_i64 u0 (by omega))⟩, ?_⟩
              intro _
              intro _
              have hx0 : 0 < x3.1 := by
                simp only [decide_eq_true_eq, decide_eq_false_iff_not, gt_iff_lt, ge_iff_le, beq_iff_eq, beq_eq_false_iff_ne] at *
                omega
              obtain ⟨m, hm⟩ : ∃ m, x3.1 = m + 1 := ⟨x3.1 - 1, by omega⟩
              have hu : un x3.1 = 2 ^ m := by rw [hm]; exact un_succ (by omega)
              have hh : un x3.1 / 2 = un m := by rw [hm]; exact un_half (by omega)
              have N' : DivN (dg a) (dg b) (x2.1 - 1) (m + 1) (dg x3.2.1) (dg x3.2.2) := hm ▸ N
              have hbit : dgt (dg a) (x2.1 - 1) / 2 ^ m % 2 = 1 := by
                have hb2 := Int.emod_two_eq (dgt (dg a) (x2.1 - 1) / 2 ^ m)
                rw [← hu] at hb2 ⊢
                have hz := eq_of_beq h8
                rw [h7, et] at hz
                omega
              have hM : nv (dg x7) = 2 * nv (dg x3.2.2) + dgt (dg a) (x2.1 - 1) / 2 ^ m % 2 := by
                rw [hbit]
                rw [A2.1, A1.1, show nv (dg (Row.mk _ [Value.int .i64 1] [])) = 1 from rfl]; omega
              have hlt : nv (dg x7) < nv (dg b) := hCmp_nge hC (of_decide_eq_false h11)
              have q1 := divn_no N' hM A2.2 hlt
              exact ⟨(m, x3.2.1, x7), ⟨q1, by assumption, by assumption⟩, by dsimp only; omega, rfl, rfl, rfl, rfl, rfl, congrArg (Value.int .i64) hh, rfl, rfl, rfl, rfl, trivial⟩
          · refine ⟨ref1_Cmp x4 b (by first | assumption | exact rowOK_lit _ _ (by decide)) (by first | assumption | exact rowOK_lit _ _ (by decide)) (by omega) (by omega), ⟨_, rfl⟩, ?_⟩
            intro x11
            intro h14
            simp only [rdv_eq] at h14
            have hC := h14
            refine ⟨fun h15 => ?_, fun h15 => ?_⟩
            · have hge := hCmp_ge hC (of_decide_eq_true (by assumption))
              refine ⟨ref1_Sub x4 b (by first | assumption | exact rowOK_lit _ _ (by decide)) (by first | assumption | exact rowOK_lit _ _ (by decide)) (by omega) (by omega) (hCmp_ge hC (of_decide_eq_true (by assumption))), wit_row (by rw [rdv_eq x4, rdv_eq b]; omega), ?_⟩
              intro x12
              intro h16
              simp only [rdv_eq] at h16
              obtain ⟨rh16_, h16⟩ := h16
              have S1 := h16
              have dq' := okq'.dig.dgt (Int.toNat (((x2.1 : Nat) : Int) - 1))
              refine ⟨xidx Try.sl41 x3.2.1 .i64 (((x2.1 : Nat) : Int) - 1) (by omega) (by rw [← dg_len]; omega), xgetR (e := 3) x3.2.1 3 Try.agg3 (Int.toNat (((x2.1 : Nat) : Int) - 1)) okq' (by omega), wit_get (e := 3) x3.2.1 (Int.toNat (((x2.1 : Nat) : Int) - 1)) okq' (by omega), ?_⟩
              intro x13
              intro h17
              replace h17 := getR (e := 3) x3.2.1 (Int.toNat (((x2.1 : Nat) : Int) - 1)) okq' (by omega) h17
              refine ⟨⟨(), trivial, congrArg (Value.int .i64) (wrap_i64 _ (by omega) (by omega))⟩, ?_⟩
              intro _
              intro _
              refine ⟨xidx Try.sl41 x3.2.1 .i64 (((x2.1 : Nat) : Int) - 1) (by omega) (by rw [← dg_len]; omega), xput (e := 3) x3.2.1 3 Try.size3 (Int.toNat (((x2.1 : Nat) : Int) - 1)) (.int .i64 (x13 + (un x3.1))) rfl rfl (by rw [← dg_len]; omega), ⟨(), trivial⟩, ?_⟩
              intro _
              intro _
              refine ⟨⟨(), trivial, congrArg (Value.int .i64) (quo2_i64 u0 (by omega))⟩, ?_⟩
              intro _
              intro _
              have hx0 : 0 < x3.1 := by
                simp only [decide_eq_true_eq, decide_eq_false_iff_not, gt_iff_lt, ge_iff_le, beq_iff_eq, beq_eq_false_iff_ne] at *
                omega
              obtain ⟨m, hm⟩ : ∃ m, x3.1 = m + 1 := ⟨x3.1 - 1, by omega⟩
              have hu : un x3.1 = 2 ^ m := by rw [hm]; exact un_succ (by omega)
              have hh : un x3.1 / 2 = un m := by rw [hm]; exact un_half (by omega)
              have N' : DivN (dg a) (dg b) (x2.1 - 1) (m + 1) (dg x3.2.1) (dg x3.2.2) := hm ▸ N
              have hbit : dgt (dg a) (x2.1 - 1) / 2 ^ m % 2 = 0 := by
                have hb2 := Int.emod_two_eq (dgt (dg a) (x2.1 - 1) / 2 ^ m)
                rw [← hu] at hb2 ⊢
                have hz := ne_of_beq_false h8
                rw [h7, et] at hz
                omega
              have hM : nv (dg x4) = 2 * nv (dg x3.2.2) + dgt (dg a) (x2.1 - 1) / 2 ^ m % 2 := by
                rw [hbit]
                rw [A1.1]; omega
              have hge : nv (dg b) ≤ nv (dg x4) := hCmp_ge hC (of_decide_eq_true h15)
              have q1 := divn_yes hb N' hM S1.1 S1.2
              have hr := divn_room okq'.dig N'
              have p := okq'.set (x2.1 - 1) hr.1 hr.2
              rw [← p.2] at q1
              exact ⟨(m, x3.2.1.set (x2.1 - 1) (.int .i64 (dgt (dg x3.2.1) (x2.1 - 1) + 2 ^ m)), x12), ⟨q1, p.1, by assumption⟩, by dsimp only; omega, rfl, rfl, (sv_set _ _ _).symm, rfl, rfl, congrArg (Value.int .i64) hh, rfl, rfl, by rw [et, hu, h17, et]; exact ss_set _ _ _ _ (by rw [← dg_len]; omega), rfl, trivial⟩
            · refine ⟨⟨(), trivial, congrArg (Value.int .i64) (quo2_i64 u0 (by omega))⟩, ?_⟩
              intro _
              intro _
              have hx0 : 0 < x3.1 := by
                simp only [decide_eq_true_eq, decide_eq_false_iff_not, gt_iff_lt, ge_iff_le, beq_iff_eq, beq_eq_false_iff_ne] at *
                omega
              obtain ⟨m, hm⟩ : ∃ m, x3.1 = m + 1 := ⟨x3.1 - 1, by omega⟩
              have hu : un x3.1 = 2 ^ m := by rw [hm]; exact un_succ (by omega)
              have hh : un x3.1 / 2 = un m := by rw [hm]; exact un_half (by omega)
              have N' : DivN (dg a) (dg b) (x2.1 - 1) (m + 1) (dg x3.2.1) (dg x3.2.2) := hm ▸ N
              have hbit : dgt (dg a) (x2.1 - 1) / 2 ^ m % 2 = 0 := by
                have hb2 := Int.emod_two_eq (dgt (dg a) (x2.1 - 1) / 2 ^ m)
                rw [← hu] at hb2 ⊢
                have hz := ne_of_beq_false h8
                rw [h7, et] at hz
                omega
              have hM : nv (dg x4) = 2 * nv (dg x3.2.2) + dgt (dg a) (x2.1 - 1) / 2 ^ m % 2 := by
                rw [hbit]
                rw [A1.1]; omega
              have hlt : nv (dg x4) < nv (dg b) := hCmp_nge hC (of_decide_eq_false h15)
              have q1 := divn_no N' hM A1.2 hlt
              exact ⟨(m, x3.2.1, x4), ⟨q1, by assumption, by assumption⟩, by dsimp only; omega, rfl, rfl, rfl, rfl, rfl, congrArg (Value.int .i64) hh, rfl, rfl, rfl, rfl, trivial⟩
        · refine ⟨⟨(), trivial, congrArg (Value.int .i64) (wrap_i64 _ (by omega) (by omega))⟩, ?_⟩
          intro _
          intro _
          have k0 : x3.1 = 0 := by
            simp only [decide_eq_true_eq, decide_eq_false_iff_not, gt_iff_lt, ge_iff_le, beq_iff_eq, beq_eq_false_iff_ne] at *
            omega
          have hpos : 0 < x2.1 := by
            simp only [decide_eq_true_eq, decide_eq_false_iff_not, gt_iff_lt, ge_iff_le, beq_iff_eq, beq_eq_false_iff_ne] at *
            omega
          rw [k0] at N
          exact ⟨(x2.1 - 1, x3.2), ⟨divn_end N, okq', okl'⟩, by dsimp only; omega, rfl, rfl, rfl, rfl, congrArg (Value.int .i64) (by dsimp only; omega), rfl, rfl, rfl, rfl, trivial⟩
    · refine ⟨ref1_Trim x2.2.1 (by first | assumption | exact rowOK_lit _ _ (by decide)) (by omega), wit_trim x2.2.1 (by first | assumption | exact rowOK_lit _ _ (by decide)), ?_⟩
      intro x14
      intro h18
      simp only [rdv_eq] at h18
      obtain ⟨rh18_, h18⟩ := h18
      have T : TrimR (dg x2.2.1) (dg x14) := by first | exact And.right (by assumption) | assumption
      have hn : x2.1 = 0 := by
        simp only [decide_eq_true_eq, decide_eq_false_iff_not, gt_iff_lt, ge_iff_le, beq_iff_eq, beq_eq_false_iff_ne] at *
        omega
      rw [hn] at D
      have E := divo_end okl.dig D
      exact ⟨(x14, x2.2.2), ⟨by assumption, okl, by rw [d_a, d_b]; exact T.eq.trans E.1, by rw [d_a, d_b]; exact E.2, T.canon, D.canon⟩, rfl, rfl, rfl, rfl, rfl, trivial⟩

def ref2_Int_C : List Value → List Slot → Ctr := fun vs hs => ⟨Int × Bool, fun zx => .tuple #[vI zx.1, .bool zx.2], fun zx => [(sarg hs 0)], fun zx => R4 zx.1 ∧ zx = rInt (nv (rdv (varg vs 1) (sarg hs 0)))⟩
set_option maxRecDepth 100000 in
set_option maxHeartbeats 2000000 in
theorem ref2_Int_vc (a : Row) : codeW Try.prog 34 none 2000 none (bodyOf Try.f82) (.reg [.sem [.nw 1], .sem []] (.reg [.sem [], .callw [0] [0] ref1_Trim_C, .sem []] (.reg [.sem [], .eq (f_len), .sem []] (.cond (.reg [.sem [], .sem [.wr 1, .wr 1, .wr 1, .wr 1], .sem []] (.done)) (.reg [.sem [.nw 2]] (.reg [.sem [], .eq (f_len), .gen [] (fun vs => one (.int .i64 (ci (varg vs 0) - ci (varg vs 1))) vs), .sem []] (.inv (Nat × Row × Nat × Nat) (fun zx => [(0, sv zx.2.1), (4, .pointer (some ⟨zx.2.2.1, 0, none⟩)), (5, .int .i64 (((zx.1 : Nat) : Int) - 1)), (2, .pointer (some ⟨zx.2.2.2, 0, none⟩))]) (fun zx => [(0, (ss 3 zx.2.1)), (2, .blk zx.2.2.1 (.cells #[.int .u64 (lb (dg zx.2.1) zx.1 0), .int .u64 (lb (dg zx.2.1) zx.1 1), .int .u64 (lb (dg zx.2.1) zx.1 2), .int .u64 (lb (dg zx.2.1) zx.1 3)] 44 (0, 0))), (1, .blk zx.2.2.2 (.cells #[.int .u64 0, .int .u64 0, .int .u64 0, .int .u64 0] 44 (0, 0)))]) (fun zx => zx.1 ≤ (dg zx.2.1).length ∧ RowOK zx.2.1 ∧ TrimR (dg a) (dg zx.2.1) ∧ ss 3 zx.2.1 = ss 3 a ∧ (dg zx.2.1).length ≤ 16) (fun zx => zx.1) (fun x4 => .reg [.sem [], .sem []] (.cond (.caseP (fun s => decide (((ci (s.fr 5))) / 4 = 0)) (.reg [.sem [], .gen [] (fun vs => one (.int .i64 0) vs), .sem [], .gen [] (fun vs => one (.int .i64 0) vs), .sem [], .sem [.rd 2], .gen [] (fun vs => one (.int .u64 (ci (varg vs 0) * ci (varg vs 1))) vs), .sem [], .sem [], .eq (f_idx), .specr [0] F_get, .gen [] (fun vs => one (.int .u64 (ci (varg vs 0))) vs), .gen [] (fun vs => one (.int .u64 (ci (varg vs 0) + ci (varg vs 1))) vs), .sem [], .sem [.wr 2]] (.reg [.sem [], .gen [] (fun vs => one (.int .i64 (ci (varg vs 0) - ci (varg vs 1))) vs), .sem []] (.done))) (.caseP (fun s => decide (((ci (s.fr 5))) / 4 = 1)) (.reg [.sem [], .gen [] (fun vs => one (.int .i64 1) vs), .sem [], .gen [] (fun vs => one (.int .i64 1) vs), .sem [], .sem [.rd 2], .gen [] (fun vs => one (.int .u64 (ci (varg vs 0) * ci (varg vs 1))) vs), .sem [], .sem [], .eq (f_idx), .specr [0] F_get, .gen [] (fun vs => one (.int .u64 (ci (varg vs 0))) vs), .gen [] (fun vs => one (.int .u64 (ci (varg vs 0) + ci (varg vs 1))) vs), .sem [], .sem [.wr 2]] (.reg [.sem [], .gen [] (fun vs => one (.int .i64 (ci (varg vs 0) - ci (varg vs 1))) vs), .sem []] (.done))) (.caseP (fun s => decide (((ci (s.fr 5))) / 4 = 2)) (.reg [.sem [], .gen [] (fun vs => one (.int .i64 2) vs), .sem [], .gen [] (fun vs => one (.int .i64 2) vs), .sem [], .sem [.rd 2], .gen [] (fun vs => one (.int .u64 (ci (varg vs 0) * ci (varg vs 1))) vs), .sem [], .sem [], .eq (f_idx), .specr [0] F_get, .gen [] (fun vs => one (.int .u64 (ci (varg vs 0))) vs), .gen [] (fun vs => one (.int .u64 (ci (varg vs 0) + ci (varg vs 1))) vs), .sem [], .sem [.wr 2]] (.reg [.sem [], .gen [] (fun vs => one (.int .i64 (ci (varg vs 0) - ci (varg vs 1))) vs), .sem []] (.done))) (.reg [.sem [], .gen [] (fun vs => one (.int .i64 3) vs), .sem [], .gen [] (fun vs => one (.int .i64 3) vs), .sem [], .sem [.rd 2], .gen [] (fun vs => one (.int .u64 (ci (varg vs 0) * ci (varg vs 1))) vs), .sem [], .sem [], .eq (f_idx), .specr [0] F_get, .gen [] (fun vs => one (.int .u64 (ci (varg vs 0))) vs), .gen [] (fun vs => one (.int .u64 (ci (varg vs 0) + ci (varg vs 1))) vs), .sem [], .sem [.wr 2]] (.reg [.sem [], .gen [] (fun vs => one (.int .i64 (ci (varg vs 0) - ci (varg vs 1))) vs), .sem []] (.done)))))) (.reg [.sem [.rd 2, .rd 2, .rd 2, .rd 2], .sem [.wr 1, .wr 1, .wr 1, .wr 1], .sem []] (.done)))))))))))
    (init #[sv a] [(ss 3 a)]) (finW Try.prog Try.f82 [.rd 1, .rd 1, .rd 1, .rd 1] [0] (X := Int × Bool) (fun zx => .tuple #[vI zx.1, .bool zx.2]) (fun zx => [(ss 3 a)]) (fun zx => (R4 zx.1 ∧ zx = rInt (nv (rdv (sv a) (ss 3 a)))))) =
    (∀ b1 : Nat, (CallT Try.prog 68 #[sv a] [(ss 3 a)] Row (fun zx => sv zx) (fun zx => [(ss 3 zx)]) (fun zx => RowOK zx ∧ ss 3 zx = (ss 3 a) ∧ TrimR (rdv (sv a) (ss 3 a)) (dg zx))) ∧ (∃ zx : Row, (fun zx => RowOK zx ∧ ss 3 zx = (ss 3 a) ∧ TrimR (rdv (sv a) (ss 3 a)) (dg zx)) zx) ∧ ∀ x2 : Row, (RowOK x2 ∧ ss 3 x2 = (ss 3 a) ∧ TrimR (rdv (sv a) (ss 3 a)) (dg x2)) → (PureRun Try.prog (do pure (.value (← Builtin.len_ #[41] 3 #[sv x2]))) (.int .i64 ((vlen (sv x2) : Nat) : Int))) ∧ ((decide (((vlen (sv x2) : Nat) : Int) > (16 : Int))) = true → b1 = b1 ∧ (none : Option Nat) = none ∧ b1 = b1 ∧ (none : Option Nat) = none ∧ b1 = b1 ∧ (none : Option Nat) = none ∧ b1 = b1 ∧ (none : Option Nat) = none ∧ b1 = b1 ∧ (none : Option Nat) = none ∧ b1 = b1 ∧ (none : Option Nat) = none ∧ b1 = b1 ∧ (none : Option Nat) = none ∧ b1 = b1 ∧ (none : Option Nat) = none ∧ ∃ zx : Int × Bool, (R4 zx.1 ∧ zx = rInt (nv (rdv (sv a) (ss 3 a)))) ∧ Value.tuple #[.agg #[.int .u64 0, .int .u64 0, .int .u64 0, .int .u64 0], .bool false] = .tuple #[vI zx.1, .bool zx.2] ∧ (ss 3 x2) = (ss 3 a) ∧ True) ∧ ((decide (((vlen (sv x2) : Nat) : Int) > (16 : Int))) = false → ∀ b3 : Nat, (PureRun Try.prog (do pure (.value (← Builtin.len_ #[41] 3 #[sv x2]))) (.int .i64 ((vlen (sv x2) : Nat) : Int))) ∧ (∃ _ : Unit, True ∧ Value.int .i64 (IntKind.i64.wrap (((vlen (sv x2) : Nat) : Int) - 1)) = .int .i64 (((vlen (sv x2) : Nat) : Int) - 1)) ∧ ∀ _ : Unit, (True) → (∃ zx : Nat × Row × Nat × Nat, (zx.1 ≤ (dg zx.2.1).length ∧ RowOK zx.2.1 ∧ TrimR (dg a) (dg zx.2.1) ∧ ss 3 zx.2.1 = ss 3 a ∧ (dg zx.2.1).length ≤ 16) ∧ sv x2 = sv zx.2.1 ∧ Value.pointer (some ⟨b3, 0, none⟩) = .pointer (some ⟨zx.2.2.1, 0, none⟩) ∧ Value.int .i64 (((vlen (sv x2) : Nat) : Int) - 1) = .int .i64 (((zx.1 : Nat) : Int) - 1) ∧ Value.pointer (some ⟨b1, 0, none⟩) = .pointer (some ⟨zx.2.2.2, 0, none⟩) ∧ (ss 3 x2) = (ss 3 zx.2.1) ∧ Slot.blk b3 (.cells #[.int .u64 0, .int .u64 0, .int .u64 0, .int .u64 0] 44 (0, 0)) = .blk zx.2.2.1 (.cells #[.int .u64 (lb (dg zx.2.1) zx.1 0), .int .u64 (lb (dg zx.2.1) zx.1 1), .int .u64 (lb (dg zx.2.1) zx.1 2), .int .u64 (lb (dg zx.2.1) zx.1 3)] 44 (0, 0)) ∧ Slot.blk b1 (.cells #[.int .u64 0, .int .u64 0, .int .u64 0, .int .u64 0] 44 (0, 0)) = .blk zx.2.2.2 (.cells #[.int .u64 0, .int .u64 0, .int .u64 0, .int .u64 0] 44 (0, 0)) ∧ True) ∧ ∀ x4 : Nat × Row × Nat × Nat, ∀ jx4 : Nat → Value, (x4.1 ≤ (dg x4.2.1).length ∧ RowOK x4.2.1 ∧ TrimR (dg a) (dg x4.2.1) ∧ ss 3 x4.2.1 = ss 3 a ∧ (dg x4.2.1).length ≤ 16) → ((decide ((((x4.1 : Nat) : Int) - 1) ≥ (0 : Int))) = true → ((decide ((((x4.1 : Nat) : Int) - 1) / 4 = 0)) = true → (∃ _ : Unit, True ∧ Value.int .i64 (IntKind.i64.wrap (Int.tdiv (((x4.1 : Nat) : Int) - 1) 4)) = .int .i64 0) ∧ ∀ _ : Unit, (True) → (∃ _ : Unit, True ∧ Value.int .i64 (IntKind.i64.wrap (Int.tdiv (((x4.1 : Nat) : Int) - 1) 4)) = .int .i64 0) ∧ ∀ _ : Unit, (True) → x4.2.2.1 = x4.2.2.1 ∧ (none : Option Nat) = none ∧ (∃ _ : Unit, True ∧ Value.int .u64 (IntKind.u64.wrap ((lb (dg x4.2.1) x4.1 0) * 65536)) = .int .u64 ((lb (dg x4.2.1) x4.1 0) * 65536)) ∧ ∀ _ : Unit, (True) → (PureRun Try.prog (do pure (.value (← Instr.indexAt 41 (sv x4.2.1) (.int .i64 (((x4.1 : Nat) : Int) - 1))))) (.pointer (some ⟨(vblk (sv x4.2.1)), (Int.toNat (((x4.1 : Nat) : Int) - 1)), none⟩))) ∧ (OpT Try.prog (do pure (.value (← Instr.loadAt 3 (.pointer (some ⟨(vblk (sv x4.2.1)), (Int.toNat (((x4.1 : Nat) : Int) - 1)), none⟩))))) [(ss 3 x4.2.1)] Int (fun zx => .int .i64 zx) (fun _ => [(ss 3 x4.2.1)]) (fun zx => (scells (ss 3 x4.2.1))[(Int.toNat (((x4.1 : Nat) : Int) - 1))]? = some (.int .i64 zx))) ∧ (∃ zx : Int, (fun zx => (scells (ss 3 x4.2.1))[(Int.toNat (((x4.1 : Nat) : Int) - 1))]? = some (.int .i64 zx)) zx) ∧ ∀ x5 : Int, ((scells (ss 3 x4.2.1))[(Int.toNat (((x4.1 : Nat) : Int) - 1))]? = some (.int .i64 x5)) → (∃ _ : Unit, True ∧ Value.int .u64 (IntKind.u64.wrap x5) = .int .u64 x5) ∧ ∀ _ : Unit, (True) → (∃ _ : Unit, True ∧ Value.int .u64 (IntKind.u64.wrap (((lb (dg x4.2.1) x4.1 0) * 65536) + x5)) = .int .u64 (((lb (dg x4.2.1) x4.1 0) * 65536) + x5)) ∧ ∀ _ : Unit, (True) → x4.2.2.1 = x4.2.2.1 ∧ (none : Option Nat) = none ∧ (∃ _ : Unit, True ∧ Value.int .i64 (IntKind.i64.wrap ((((x4.1 : Nat) : Int) - 1) - 1)) = .int .i64 ((((x4.1 : Nat) : Int) - 1) - 1)) ∧ ∀ _ : Unit, (True) → ∃ zy : Nat × Row × Nat × Nat, (zy.1 ≤ (dg zy.2.1).length ∧ RowOK zy.2.1 ∧ TrimR (dg a) (dg zy.2.1) ∧ ss 3 zy.2.1 = ss 3 a ∧ (dg zy.2.1).length ≤ 16) ∧ zy.1 < x4.1 ∧ sv x4.2.1 = sv zy.2.1 ∧ Value.pointer (some ⟨x4.2.2.1, 0, none⟩) = .pointer (some ⟨zy.2.2.1, 0, none⟩) ∧ Value.int .i64 ((((x4.1 : Nat) : Int) - 1) - 1) = .int .i64 (((zy.1 : Nat) : Int) - 1) ∧ Value.pointer (some ⟨x4.2.2.2, 0, none⟩) = .pointer (some ⟨zy.2.2.2, 0, none⟩) ∧ (ss 3 x4.2.1) = (ss 3 zy.2.1) ∧ Slot.blk x4.2.2.1 (.cells #[.int .u64 (((lb (dg x4.2.1) x4.1 0) * 65536) + x5), .int .u64 (lb (dg x4.2.1) x4.1 1), .int .u64 (lb (dg x4.2.1) x4.1 2), .int .u64 (lb (dg x4.2.1) x4.1 3)] 44 (0, 0)) = .blk zy.2.2.1 (.cells #[.int .u64 (lb (dg zy.2.1) zy.1 0), .int .u64 (lb (dg zy.2.1) zy.1 1), .int .u64 (lb (dg zy.2.1) zy.1 2), .int .u64 (lb (dg zy.2.1) zy.1 3)] 44 (0, 0)) ∧ Slot.blk x4.2.2.2 (.cells #[.int .u64 0, .int .u64 0, .int .u64 0, .int .u64 0] 44 (0, 0)) = .blk zy.2.2.2 (.cells #[.int .u64 0, .int .u64 0, .int .u64 0, .int .u64 0] 44 (0, 0)) ∧ True) ∧ ((decide ((((x4.1 : Nat) : Int) - 1) / 4 = 0)) = false → ((decide ((((x4.1 : Nat) : Int) - 1) / 4 = 1)) = true → (∃ _ : Unit, True ∧ Value.int .i64 (IntKind.i64.wrap (Int.tdiv (((x4.1 : Nat) : Int) - 1) 4)) = .int .i64 1) ∧ ∀ _ : Unit, (True) → (∃ _ : Unit, True ∧ Value.int .i64 (IntKind.i64.wrap (Int.tdiv (((x4.1 : Nat) : Int) - 1) 4)) = .int .i64 1) ∧ ∀ _ : Unit, (True) → x4.2.2.1 = x4.2.2.1 ∧ (none : Option Nat) = none ∧ (∃ _ : Unit, True ∧ Value.int .u64 (IntKind.u64.wrap ((lb (dg x4.2.1) x4.1 1) * 65536)) = .int .u64 ((lb (dg x4.2.1) x4.1 1) * 65536)) ∧ ∀ _ : Unit, (True) → (PureRun Try.prog (do pure (.value (← Instr.indexAt 41 (sv x4.2.1) (.int .i64 (((x4.1 : Nat) : Int) - 1))))) (.pointer (some ⟨(vblk (sv x4.2.1)), (Int.toNat (((x4.1 : Nat) : Int) - 1)), none⟩))) ∧ (OpT Try.prog (do pure (.value (← Instr.loadAt 3 (.pointer (some ⟨(vblk (sv x4.2.1)), (Int.toNat (((x4.1 : Nat) : Int) - 1)), none⟩))))) [(ss 3 x4.2.1)] Int (fun zx => .int .i64 zx) (fun _ => [(ss 3 x4.2.1)]) (fun zx => (scells (ss 3 x4.2.1))[(Int.toNat (((x4.1 : Nat) : Int) - 1))]? = some (.int .i64 zx))) ∧ (∃ zx : Int, (fun zx => (scells (ss 3 x4.2.1))[(Int.toNat (((x4.1 : Nat) : Int) - 1))]? = some (.int .i64 zx)) zx) ∧ ∀ x6 : Int, ((scells (ss 3 x4.2.1))[(Int.toNat (((x4.1 : Nat) : Int) - 1))]? = some (.int .i64 x6)) → (∃ _ : Unit, True ∧ Value.int .u64 (IntKind.u64.wrap x6) = .int .u64 x6) ∧ ∀ _ : Unit, (True) → (∃ _ : Unit, True ∧ Value.int .u64 (IntKind.u64.wrap (((lb (dg x4.2.1) x4.1 1) * 65536) + x6)) = .int .u64 (((lb (dg x4.2.1) x4.1 1) * 65536) + x6)) ∧ ∀ _ : Unit, (True) → x4.2.2.1 = x4.2.2.1 ∧ (none : Option Nat) = none ∧ (∃ _ : Unit, True ∧ Value.int .i64 (IntKind.i64.wrap ((((x4.1 : Nat) : Int) - 1) - 1)) = .int .i64 ((((x4.1 : Nat) : Int) - 1) - 1)) ∧ ∀ _ : Unit, (True) → ∃ zy : Nat × Row × Nat × Nat, (zy.1 ≤ (dg zy.2.1).length ∧ RowOK zy.2.1 ∧ TrimR (dg a) (dg zy.2.1) ∧ ss 3 zy.2.1 = ss 3 a ∧ (dg zy.2.1).length ≤ 16) ∧ zy.1 < x4.1 ∧ sv x4.2.1 = sv zy.2.1 ∧ Value.pointer (some ⟨x4.2.2.1, 0, none⟩) = .pointer (some ⟨zy.2.2.1, 0, none⟩) ∧ Value.int .i64 ((((x4.1 : Nat) : Int) - 1) - 1) = .int .i64 (((zy.1 : Nat) : Int) - 1) ∧ Value.pointer (some ⟨x4.2.2.2, 0, none⟩) = .pointer (some ⟨zy.2.2.2, 0, none⟩) ∧ (ss 3 x4.2.1) = (ss 3 zy.2.1) ∧ Slot.blk x4.2.2.1 (.cells #[.int .u64 (lb (dg x4.2.1) x4.1 0), .int .u64 (((lb (dg x4.2.1) x4.1 1) * 65536) + x6), .int .u64 (lb (dg x4.2.1) x4.1 2), .int .u64 (lb (dg x4.2.1) x4.1 3)] 44 (0, 0)) = .blk zy.2.2.1 (.cells #[.int .u64 (lb (dg zy.2.1) zy.1 0), .int .u64 (lb (dg zy.2.1) zy.1 1), .int .u64 (lb (dg zy.2.1) zy.1 2), .int .u64 (lb (dg zy.2.1) zy.1 3)] 44 (0, 0)) ∧ Slot.blk x4.2.2.2 (.cells #[.int .u64 0, .int .u64 0, .int .u64 0, .int .u64 0] 44 (0, 0)) = .blk zy.2.2.2 (.cells #[.int .u64 0, .int .u64 0, .int .u64 0, .int .u64 0] 44 (0, 0)) ∧ True) ∧ ((decide ((((x4.1 : Nat) : Int) - 1) / 4 = 1)) = false → ((decide ((((x4.1 : Nat) : Int) - 1) / 4 = 2)) = true → (∃ _ : Unit, True ∧ Value.int .i64 (IntKind.i64.wrap (Int.tdiv (((x4.1 : Nat) : Int) - 1) 4)) = .int .i64 2) ∧ ∀ _ : Unit, (True) → (∃ _ : Unit, True ∧ Value.int .i64 (IntKind.i64.wrap (Int.tdiv (((x4.1 : Nat) : Int) - 1) 4)) = .int .i64 2) ∧ ∀ _ : Unit, (True) → x4.2.2.1 = x4.2.2.1 ∧ (none : Option Nat) = none ∧ (∃ _ : Unit, True ∧ Value.int .u64 (IntKind.u64.wrap ((lb (dg x4.2.1) x4.1 2) * 65536)) = .int .u64 ((lb (dg x4.2.1) x4.1 2) * 65536)) ∧ ∀ _ : Unit, (True) → (PureRun Try.prog (do pure (.value (← Instr.indexAt 41 (sv x4.2.1) (.int .i64 (((x4.1 : Nat) : Int) - 1))))) (.pointer (some ⟨(vblk (sv x4.2.1)), (Int.toNat (((x4.1 : Nat) : Int) - 1)), none⟩))) ∧ (OpT Try.prog (do pure (.value (← Instr.loadAt 3 (.pointer (some ⟨(vblk (sv x4.2.1)), (Int.toNat (((x4.1 : Nat) : Int) - 1)), none⟩))))) [(ss 3 x4.2.1)] Int (fun zx => .int .i64 zx) (fun _ => [(ss 3 x4.2.1)]) (fun zx => (scells (ss 3 x4.2.1))[(Int.toNat (((x4.1 : Nat) : Int) - 1))]? = some (.int .i64 zx))) ∧ (∃ zx : Int, (fun zx => (scells (ss 3 x4.2.1))[(Int.toNat (((x4.1 : Nat) : Int) - 1))]? = some (.int .i64 zx)) zx) ∧ ∀ x7 : Int, ((scells (ss 3 x4.2.1))[(Int.toNat (((x4.1 : Nat) : Int) - 1))]? = some (.int .i64 x7)) → (∃ _ : Unit, True ∧ Value.int .u64 (IntKind.u64.wrap x7) = .int .u64 x7) ∧ ∀ _ : Unit, (True) → (∃ _ : Unit, True ∧ Value.int .u64 (IntKind.u64.wrap (((lb (dg x4.2.1) x4.1 2) * 65536) + x7)) = .int .u64 (((lb (dg x4.2.1) x4.1 2) * 65536) + x7)) ∧ ∀ _ : Unit, (True) → x4.2.2.1 = x4.2.2.1 ∧ (none : Option Nat) = none ∧ (∃ _ : Unit, True ∧ Value.int .i64 (IntKind.i64.wrap ((((x4.1 : Nat) : Int) - 1) - 1)) = .int .i64 ((((x4.1 : Nat) : Int) - 1) - 1)) ∧ ∀ _ : Unit, (True) → ∃ zy : Nat × Row × Nat × Nat, (zy.1 ≤ (dg zy.2.1).length ∧ RowOK zy.2.1 ∧ TrimR (dg a) (dg zy.2.1) ∧ ss 3 zy.2.1 = ss 3 a ∧ (dg zy.2.1).length ≤ 16) ∧ zy.1 < x4.1 ∧ sv x4.2.1 = sv zy.2.1 ∧ Value.pointer (some ⟨x4.2.2.1, 0, none⟩) = .pointer (some ⟨zy.2.2.1, 0, none⟩) ∧ Value.int .i64 ((((x4.1 : Nat) : Int) - 1) - 1) = .int .i64 (((zy.1 : Nat) : Int) - 1) ∧ Value.pointer (some ⟨x4.2.2.2, 0, none⟩) = .pointer (some ⟨zy.2.2.2, 0, none⟩) ∧ (ss 3 x4.2.1) = (ss 3 zy.2.1) ∧ Slot.blk x4.2.2.1 (.cells #[.int .u64 (lb (dg x4.2.1) x4.1 0), .int .u64 (lb (dg x4.2.1) x4.1 1), .int .u64 (((lb (dg x4.2.1) x4.1 2) * 65536) + x7), .int .u64 (lb (dg x4.2.1) x4.1 3)] 44 (0, 0)) = .blk zy.2.2.1 (.cells #[.int .u64 (lb (dg zy.2.1) zy.1 0), .int .u64 (lb (dg zy.2.1) zy.1 1), .int .u64 (lb (dg zy.2.1) zy.1 2), .int .u64 (lb (dg zy.2.1) zy.1 3)] 44 (0, 0)) ∧ Slot.blk x4.2.2.2 (.cells #[.int .u64 0, .int .u64 0, .int .u64 0, .int .u64 0] 44 (0, 0)) = .blk zy.2.2.2 (.cells #[.int .u64 0, .int .u64 0, .int .u64 0, .int .u64 0] 44 (0, 0)) ∧ True) ∧ ((decide ((((x4.1 : Nat) : Int) - 1) / 4 = 2)) = false → (∃ _ : Unit, True ∧ Value.int .i64 (IntKind.i64.wrap (Int.tdiv (((x4.1 : Nat) : Int) - 1) 4)) = .int .i64 3) ∧ ∀ _ : Unit, (True) → (∃ _ : Unit, True ∧ Value.int .i64 (IntKind.i64.wrap (Int.tdiv (((x4.1 : Nat) : Int) - 1) 4)) = .int .i64 3) ∧ ∀ _ : Unit, (True) → x4.2.2.1 = x4.2.2.1 ∧ (none : Option Nat) = none ∧ (∃ _ : Unit, True ∧ Value.int .u64 (IntKind.u64.wrap ((lb (dg x4.2.1) x4.1 3) * 65536)) = .int .u64 ((lb (dg x4.2.1) x4.1 3) * 65536)) ∧ ∀ _ : Unit, (True) → (PureRun Try.prog (do pure (.value (← Instr.indexAt 41 (sv x4.2.1) (.int .i64 (((x4.1 : Nat) : Int) - 1))))) (.pointer (some ⟨(vblk (sv x4.2.1)), (Int.toNat (((x4.1 : Nat) : Int) - 1)), none⟩))) ∧ (OpT Try.prog (do pure (.value (← Instr.loadAt 3 (.pointer (some ⟨(vblk (sv x4.2.1)), (Int.toNat (((x4.1 : Nat) : Int) - 1)), none⟩))))) [(ss 3 x4.2.1)] Int (fun zx => .int .i64 zx) (fun _ => [(ss 3 x4.2.1)]) (fun zx => (scells (ss 3 x4.2.1))[(Int.toNat (((x4.1 : Nat) : Int) - 1))]? = some (.int .i64 zx))) ∧ (∃ zx : Int, (fun zx => (scells (ss 3 x4.2.1))[(Int.toNat (((x4.1 : Nat) : Int) - 1))]? = some (.int .i64 zx)) zx) ∧ ∀ x8 : Int, ((scells (ss 3 x4.2.1))[(Int.toNat (((x4.1 : Nat) : Int) - 1))]? = some (.int .i64 x8)) → (∃ _ : Unit, True ∧ Value.int .u64 (IntKind.u64.wrap x8) = .int .u64 x8) ∧ ∀ _ : Unit, (True) → (∃ _ : Unit, True ∧ Value.int .u64 (IntKind.u64.wrap (((lb (dg x4.2.1) x4.1 3) * 65536) + x8)) = .int .u64 (((lb (dg x4.2.1) x4.1 3) * 65536) + x8)) ∧ ∀ _ : Unit, (True) → x4.2.2.1 = x4.2.2.1 ∧ (none : Option Nat) = none ∧ (∃ _ : Unit, True ∧ Value.int .i64 (IntKind.i64.wrap ((((x4.1 : Nat) : Int) - 1) - 1)) = .int .i64 ((((x4.1 : Nat) : Int) - 1) - 1)) ∧ ∀ _ : Unit, (True) → ∃ zy : Nat × Row × Nat × Nat, (zy.1 ≤ (dg zy.2.1).length ∧ RowOK zy.2.1 ∧ TrimR (dg a) (dg zy.2.1) ∧ ss 3 zy.2.1 = ss 3 a ∧ (dg zy.2.1).length ≤ 16) ∧ zy.1 < x4.1 ∧ sv x4.2.1 = sv zy.2.1 ∧ Value.pointer (some ⟨x4.2.2.1, 0, none⟩) = .pointer (some ⟨zy.2.2.1, 0, none⟩) ∧ Value.int .i64 ((((x4.1 : Nat) : Int) - 1) - 1) = .int .i64 (((zy.1 : Nat) : Int) - 1) ∧ Value.pointer (some ⟨x4.2.2.2, 0, none⟩) = .pointer (some ⟨zy.2.2.2, 0, none⟩) ∧ (ss 3 x4.2.1) = (ss 3 zy.2.1) ∧ Slot.blk x4.2.2.1 (.cells #[.int .u64 (lb (dg x4.2.1) x4.1 0), .int .u64 (lb (dg x4.2.1) x4.1 1), .int .u64 (lb (dg x4.2.1) x4.1 2), .int .u64 (((lb (dg x4.2.1) x4.1 3) * 65536) + x8)] 44 (0, 0)) = .blk zy.2.2.1 (.cells #[.int .u64 (lb (dg zy.2.1) zy.1 0), .int .u64 (lb (dg zy.2.1) zy.1 1), .int .u64 (lb (dg zy.2.1) zy.1 2), .int .u64 (lb (dg zy.2.1) zy.1 3)] 44 (0, 0)) ∧ Slot.blk x4.2.2.2 (.cells #[.int .u64 0, .int .u64 0, .int .u64 0, .int .u64 0] 44 (0, 0)) = .blk zy.2.2.2 (.cells #[.int .u64 0, .int .u64 0, .int .u64 0, .int .u64 0] 44 (0, 0)) ∧ True)))) ∧ ((decide ((((x4.1 : Nat) : Int) - 1) ≥ (0 : Int))) = false → x4.2.2.1 = x4.2.2.1 ∧ (none : Option Nat) = none ∧ x4.2.2.1 = x4.2.2.1 ∧ (none : Option Nat) = none ∧ x4.2.2.1 = x4.2.2.1 ∧ (none : Option Nat) = none ∧ x4.2.2.1 = x4.2.2.1 ∧ (none : Option Nat) = none ∧ x4.2.2.2 = x4.2.2.2 ∧ (none : Option Nat) = none ∧ x4.2.2.2 = x4.2.2.2 ∧ (none : Option Nat) = none ∧ x4.2.2.2 = x4.2.2.2 ∧ (none : Option Nat) = none ∧ x4.2.2.2 = x4.2.2.2 ∧ (none : Option Nat) = none ∧ x4.2.2.2 = x4.2.2.2 ∧ (none : Option Nat) = none ∧ x4.2.2.2 = x4.2.2.2 ∧ (none : Option Nat) = none ∧ x4.2.2.2 = x4.2.2.2 ∧ (none : Option Nat) = none ∧ x4.2.2.2 = x4.2.2.2 ∧ (none : Option Nat) = none ∧ ∃ zx : Int × Bool, (R4 zx.1 ∧ zx = rInt (nv (rdv (sv a) (ss 3 a)))) ∧ Value.tuple #[.agg #[.int .u64 (lb (dg x4.2.1) x4.1 0), .int .u64 (lb (dg x4.2.1) x4.1 1), .int .u64 (lb (dg x4.2.1) x4.1 2), .int .u64 (lb (dg x4.2.1) x4.1 3)], .bool true] = .tuple #[vI zx.1, .bool zx.2] ∧ (ss 3 x4.2.1) = (ss 3 a) ∧ True))) := by kernel_rfl
set_option maxRecDepth 100000 in
set_option maxHeartbeats 2000000 in
theorem ref2_Int (a : Row) (r_a : RowOK a) (la : (dg a).length ≤ 65000) : CallT Try.prog 82 #[sv a] [(ss 3 a)] (Int × Bool) (fun zx => .tuple #[vI zx.1, .bool zx.2]) (fun zx => [(ss 3 a)]) (fun zx => (R4 zx.1 ∧ zx = rInt (nv (rdv (sv a) (ss 3 a))))) := by
  refine call_of (c := bodyOf Try.f82) (n := 34) (fn := Try.f82) Try.mixed Try.func82 (by kernel_rfl) (by kernel_rfl) (by kernel_rfl) 2000 _ [.rd 1, .rd 1, .rd 1, .rd 1] [0] rfl rfl (Eq.mpr (ref2_Int_vc a) ?_)
  have d_a := rdv_eq a 3
  have e_a := vlen_dg a
  intro b1
  refine ⟨ref1_Trim a (by first | assumption | exact rowOK_lit _ _ (by decide)) (by omega), wit_trim a (by first | assumption | exact rowOK_lit _ _ (by decide)), ?_⟩
  intro x2
  intro h1
  simp only [rdv_eq] at h1
  obtain ⟨rh1_, h1⟩ := h1
  obtain ⟨hs, TR⟩ := h1
  have ok : RowOK x2 := by assumption
  have lz := TR.len
  have ez := vlen_dg x2
  refine ⟨xlen Try.sl41 3 x2, ?_⟩
  refine ⟨fun h2 => ?_, fun h2 => ?_⟩
  · refine ⟨rfl, rfl, rfl, rfl, rfl, rfl, rfl, rfl, ?_⟩
    refine ⟨rfl, rfl, rfl, rfl, rfl, rfl, rfl, rfl, ?_⟩
    exact ⟨(0, false), ⟨R4_zero, by rw [d_a, ← TR.eq]; exact (rInt_long ok.dig TR.canon (by simp only [decide_eq_true_eq, decide_eq_false_iff_not, gt_iff_lt, ge_iff_le, beq_iff_eq, beq_eq_false_iff_ne] at *; omega)).symm⟩, by rw [vI_zero], hs, trivial⟩
  · intro b3
    refine ⟨xlen Try.sl41 3 x2, ⟨(), trivial, congrArg (Value.int .i64) (wrap_i64 _ (by omega) (by omega))⟩, ?_⟩
    intro _
    intro _
    refine ⟨?_, fun x4 jx4 h3 => ?_⟩
    · have h16 : (dg x2).length ≤ 16 := by
        simp only [decide_eq_true_eq, decide_eq_false_iff_not, gt_iff_lt, ge_iff_le, beq_iff_eq, beq_eq_false_iff_ne] at *
        omega
      exact ⟨((dg x2).length, x2, b3, b1), ⟨Nat.le_refl _, ok, TR, hs, h16⟩, rfl, rfl, congrArg (Value.int .i64) (by dsimp only; omega), rfl, rfl, by simp only [lb_top], rfl, trivial⟩
    · obtain ⟨hl, ok, TR, hs, h16⟩ := h3
      have lz := TR.len; have ez := vlen_dg x4.2.1
      refine ⟨fun h4 => ?_, fun h4 => ?_⟩
      · refine ⟨fun h5 => ?_, fun h5 => ?_⟩
        · have hx : 0 < x4.1 := by
            simp only [decide_eq_true_eq, decide_eq_false_iff_not, gt_iff_lt, ge_iff_le, beq_iff_eq, beq_eq_false_iff_ne] at *
            omega
          have hq : (((x4.1 : Nat) : Int) - 1) / 4 = 0 := by
            simp only [decide_eq_true_eq, decide_eq_false_iff_not, gt_iff_lt, ge_iff_le, beq_iff_eq, beq_eq_false_iff_ne] at *
            omega
          have LS := lb_step ok.dig hx hl (c := 0) (by omega)
          have LW := LS.2.1; have LX := LS.2.2.1
          have dz := ok.dig.dgt (Int.toNat (((x4.1 : Nat) : Int) - 1))
          have et' : Int.toNat (((x4.1 : Nat) : Int) - 1) = x4.1 - 1 := by omega
          refine ⟨⟨(), trivial, congrArg (Value.int .i64) (quo4_i64 (by omega) (by omega) hq)⟩, ?_⟩
          intro _
          intro _
          refine ⟨⟨(), trivial, congrArg (Value.int .i64) (quo4_i64 (by omega) (by omega) hq)⟩, ?_⟩
          intro _
          intro _
          refine ⟨rfl, rfl, ⟨(), trivial, congrArg (Value.int .u64) (wrap_W LW)⟩, ?_⟩
          intro _
          intro _
          refine ⟨xidx Try.sl41 x4.2.1 .i64 (((x4.1 : Nat) : Int) - 1) (by omega) (by rw [← dg_len]; omega), xgetR (e := 3) x4.2.1 3 Try.agg3 (Int.toNat (((x4.1 : Nat) : Int) - 1)) ok (by omega), wit_get (e := 3) x4.2.1 (Int.toNat (((x4.1 : Nat) : Int) - 1)) ok (by omega), ?_⟩
          intro x5
          intro h6
          replace h6 := getR (e := 3) x4.2.1 (Int.toNat (((x4.1 : Nat) : Int) - 1)) ok (by omega) h6
          refine ⟨⟨(), trivial, congrArg (Value.int .u64) (wrap_W ⟨by omega, by omega⟩)⟩, ?_⟩
          intro _
          intro _
          refine ⟨⟨(), trivial, congrArg (Value.int .u64) (wrap_W (by rw [h6, et']; exact LX))⟩, ?_⟩
          intro _
          intro _
          refine ⟨rfl, rfl, ?_⟩
          refine ⟨⟨(), trivial, congrArg (Value.int .i64) (wrap_i64 _ (by omega) (by omega))⟩, ?_⟩
          intro _
          intro _
          have et : Int.toNat (((x4.1 : Nat) : Int) - 1) = x4.1 - 1 := by omega
          have e0 := LS.1
          have e1 := LS.2.2.2 1 (by decide)
          have e2 := LS.2.2.2 2 (by decide)
          have e3 := LS.2.2.2 3 (by decide)
          exact ⟨(x4.1 - 1, x4.2), ⟨by dsimp only; omega, ok, TR, hs, h16⟩, by dsimp only; omega, rfl, rfl, congrArg (Value.int .i64) (by dsimp only; omega), rfl, rfl, by dsimp only; rw [e0, e1, e2, e3, h6, et], rfl, trivial⟩
        · refine ⟨fun h7 => ?_, fun h7 => ?_⟩
          · have hx : 0 < x4.1 := by
              simp only [decide_eq_true_eq, decide_eq_false_iff_not, gt_iff_lt, ge_iff_le, beq_iff_eq, beq_eq_false_iff_ne] at *
              omega
            have hq : (((x4.1 : Nat) : Int) - 1) / 4 = 1 := by
              simp only [decide_eq_true_eq, decide_eq_false_iff_not, gt_iff_lt, ge_iff_le, beq_iff_eq, beq_eq_false_iff_ne] at *
              omega
            have LS := lb_step ok.dig hx hl (c := 1) (by omega)
            have LW := LS.2.1; have LX := LS.2.2.1
            have dz := ok.dig.dgt (Int.toNat (((x4.1 : Nat) : Int) - 1))
            have et' : Int.toNat (((x4.1 : Nat) : Int) - 1) = x4.1 - 1 := by omega
            refine ⟨⟨(), trivial, congrArg (Value.int .i64) (quo4_i64 (by omega) (by omega) hq)⟩, ?_⟩
            intro _
            intro _
            refine ⟨⟨(), trivial, congrArg (Value.int .i64) (quo4_i64 (by omega) (by omega) hq)⟩, ?_⟩
            intro _
            intro _
            refine ⟨rfl, rfl, ⟨(), trivial, congrArg (Value.int .u64) (wrap_W LW)⟩, ?_⟩
            intro _
            intro _
            refine ⟨xidx Try.sl41 x4.2.1 .i64 (((x4.1 : Nat) : Int) - 1) (by omega) (by rw [← dg_len]; omega), xgetR (e := 3) x4.2.1 3 Try.agg3 (Int.toNat (((x4.1 : Nat) : Int) - 1)) ok (by omega), wit_get (e := 3) x4.2.1 (Int.toNat (((x4.1 : Nat) : Int) - 1)) ok (by omega), ?_⟩
            intro x6
            intro h8
            replace h8 := getR (e := 3) x4.2.1 (Int.toNat (((x4.1 : Nat) : Int) - 1)) ok (by omega) h8
            refine ⟨⟨(), trivial, congrArg (Value.int .u64) (wrap_W ⟨by omega, by omega⟩)⟩, ?_⟩
            intro _
            intro _
            refine ⟨⟨(), trivial, congrArg (Value.int .u64) (wrap_W (by rw [h8, et']; exact LX))⟩, ?_⟩
            intro _
            intro _
            refine ⟨rfl, rfl, ?_⟩
            refine ⟨⟨(), trivial, congrArg (Value.int .i64) (wrap_i64 _ (by omega) (by omega))⟩, ?_⟩
            intro _
            intro _
            have et : Int.toNat (((x4.1 : Nat) : Int) - 1) = x4.1 - 1 := by omega
            have e1 := LS.1
            have e0 := LS.2.2.2 0 (by decide)
            have e2 := LS.2.2.2 2 (by decide)
            have e3 := LS.2.2.2 3 (by decide)
            exact ⟨(x4.1 - 1, x4.2), ⟨by dsimp only; omega, ok, TR, hs, h16⟩, by dsimp only; omega, rfl, rfl, congrArg (Value.int .i64) (by dsimp only; omega), rfl, rfl, by dsimp only; rw [e0, e1, e2, e3, h8, et], rfl, trivial⟩
          · refine ⟨fun h9 => ?_, fun h9 => ?_⟩
            · have hx : 0 < x4.1 := by
                simp only [decide_eq_true_eq, decide_eq_false_iff_not, gt_iff_lt, ge_iff_le, beq_iff_eq, beq_eq_false_iff_ne] at *
                omega
              have hq : (((x4.1 : Nat) : Int) - 1) / 4 = 2 := by
                simp only [decide_eq_true_eq, decide_eq_false_iff_not, gt_iff_lt, ge_iff_le, beq_iff_eq, beq_eq_false_iff_ne] at *
                omega
              have LS := lb_step ok.dig hx hl (c := 2) (by omega)
              have LW := LS.2.1; have LX := LS.2.2.1
              have dz := ok.dig.dgt (Int.toNat (((x4.1 : Nat) : Int) - 1))
              have et' : Int.toNat (((x4.1 : Nat) : Int) - 1) = x4.1 - 1 := by omega
              refine ⟨⟨(), trivial, congrArg (Value.int .i64) (quo4_i64 (by omega) (by omega) hq)⟩, ?_⟩
              intro _
              intro _
              refine ⟨⟨(), trivial, congrArg (Value.int .i64) (quo4_i64 (by omega) (by omega) hq)⟩, ?_⟩
              intro _
              intro _
              refine ⟨rfl, rfl, ⟨(), trivial, congrArg (Value.int .u64) (wrap_W LW)⟩, ?_⟩
              intro _
              intro _
              refine ⟨xidx Try.sl41 x4.2.1 .i64 (((x4.1 : Nat) : Int) - 1) (by omega) (by rw [← dg_len]; omega), xgetR (e := 3) x4.2.1 3 Try.agg3 (Int.toNat (((x4.1 : Nat) : Int) - 1)) ok (by omega), wit_get (e := 3) x4.2.1 (Int.toNat (((x4.1 : Nat) : Int) - 1)) ok (by omega), ?_⟩
              intro x7
              intro h10
              replace h10 := getR (e := 3) x4.2.1 (Int.toNat (((x4.1 : Nat) : Int) - 1)) ok (by omega) h10
              refine ⟨⟨(), trivial, congrArg (Value.int .u64) (wrap_W ⟨by omega, by omega⟩)⟩, ?_⟩
              intro _
              intro _
              refine ⟨⟨(), trivial, congrArg (Value.int .u64) (wrap_W (by rw [h10, et']; exact LX))⟩, ?_⟩
              intro _
              intro _
              refine ⟨rfl, rfl, ?_⟩
              refine ⟨⟨(), trivial, congrArg (Value.int .i64) (wrap_i64 _ (by omega) (by omega))⟩, ?_⟩
              intro _
              intro _
              have et : Int.toNat (((x4.1 : Nat) : Int) - 1) = x4.1 - 1 := by omega
              have e2 := LS.1
              have e0 := LS.2.2.2 0 (by decide)
              have e1 := LS.2.2.2 1 (by decide)
              have e3 := LS.2.2.2 3 (by decide)
              exact ⟨(x4.1 - 1, x4.2), ⟨by dsimp only; omega, ok, TR, hs, h16⟩, by dsimp only; omega, rfl, rfl, congrArg (Value.int .i64) (by dsimp only; omega), rfl, rfl, by dsimp only; rw [e0, e1, e2, e3, h10, et], rfl, trivial⟩
            · have hx : 0 < x4.1 := by
                simp only [decide_eq_true_eq, decide_eq_false_iff_not, gt_iff_lt, ge_iff_le, beq_iff_eq, beq_eq_false_iff_ne] at *
                omega
              have hq : (((x4.1 : Nat) : Int) - 1) / 4 = 3 := by
                simp only [decide_eq_true_eq, decide_eq_false_iff_not, gt_iff_lt, ge_iff_le, beq_iff_eq, beq_eq_false_iff_ne] at *
                omega
              have LS := lb_step ok.dig hx hl (c := 3) (by omega)
              have LW := LS.2.1; have LX := LS.2.2.1
              have dz := ok.dig.dgt (Int.toNat (((x4.1 : Nat) : Int) - 1))
              have et' : Int.toNat (((x4.1 : Nat) : Int) - 1) = x4.1 - 1 := by omega
              refine ⟨⟨(), trivial, congrArg (Value.int .i64) (quo4_i64 (by omega) (by omega) hq)⟩, ?_⟩
              intro _
              intro _
              refine ⟨⟨(), trivial, congrArg (Value.int .i64) (quo4_i64 (by omega) (by omega) hq)⟩, ?_⟩
              intro _
              intro _
              refine ⟨rfl, rfl, ⟨(), trivial, congrArg (Value.int .u64) (wrap_W LW)⟩, ?_⟩
              intro _
              intro _
              refine ⟨xidx Try.sl41 x4.2.1 .i64 (((x4.1 : Nat) : Int) - 1) (by omega) (by rw [← dg_len]; omega), xgetR (e := 3) x4.2.1 3 Try.agg3 (Int.toNat (((x4.1 : Nat) : Int) - 1)) ok (by omega), wit_get (e := 3) x4.2.1 (Int.toNat (((x4.1 : Nat) : Int) - 1)) ok (by omega), ?_⟩
              intro x8
              intro h11
              replace h11 := getR (e := 3) x4.2.1 (Int.toNat (((x4.1 : Nat) : Int) - 1)) ok (by omega) h11
              refine ⟨⟨(), trivial, congrArg (Value.int .u64) (wrap_W ⟨by omega, by omega⟩)⟩, ?_⟩
              intro _
              intro _
              refine ⟨⟨(), trivial, congrArg (Value.int .u64) (wrap_W (by rw [h11, et']; exact LX))⟩, ?_⟩
              intro _
              intro _
              refine ⟨rfl, rfl, ?_⟩
              refine ⟨⟨(), trivial, congrArg (Value.int .i64) (wrap_i64 _ (by omega) (by omega))⟩, ?_⟩
              intro _
              intro _
              have et : Int.toNat (((x4.1 : Nat) : Int) - 1) = x4.1 - 1 := by omega
              have e3 := LS.1
              have e0 := LS.2.2.2 0 (by decide)
              have e1 := LS.2.2.2 1 (by decide)
              have e2 := LS.2.2.2 2 (by decide)
              exact ⟨(x4.1 - 1, x4.2), ⟨by dsimp only; omega, ok, TR, hs, h16⟩, by dsimp only; omega, rfl, rfl, congrArg (Value.int .i64) (by dsimp only; omega), rfl, rfl, by dsimp only; rw [e0, e1, e2, e3, h11, et], rfl, trivial⟩
      · refine ⟨rfl, rfl, rfl, rfl, rfl, rfl, rfl, rfl, rfl, rfl, rfl, rfl, rfl, rfl, rfl, rfl, ?_⟩
        refine ⟨rfl, rfl, rfl, rfl, rfl, rfl, rfl, rfl, ?_⟩
        have hn : x4.1 = 0 := by
          simp only [decide_eq_true_eq, decide_eq_false_iff_not, gt_iff_lt, ge_iff_le, beq_iff_eq, beq_eq_false_iff_ne] at *
          omega
        have hle := h16
        have e := rInt_short ok.dig hle
        exact ⟨rInt (nv (dg a)), ⟨rInt_R (nv_nonneg r_a.dig), by rw [d_a]⟩, by rw [← TR.eq, e, hn, lb_vI ok.dig hle], hs, trivial⟩

def ref3_MulDiv_C : List Value → List Slot → Ctr := fun vs hs => ⟨Int × Int, fun zx => .tuple #[vI zx.1, .int .i64 zx.2], fun _ => hs, fun zx => R4 zx.1 ∧ zx = rMulDiv (num (varg vs 1)) (num (varg vs 2)) (num (varg vs 3)) (cb (varg vs 4))⟩
set_option maxRecDepth 100000 in
set_option maxHeartbeats 2000000 in
theorem ref3_MulDiv_vc (a : Int) (b : Int) (d : Int) (up : Bool) : codeW Try.prog 49 none 2000 none (bodyOf Try.f36) (.reg [.sem [.nw 0], .sem [.nw 1], .sem [.nw 2], .sem [.nw 3], .sem []] (.reg [.sem [.rd 2, .rd 2, .rd 2, .rd 2], .callw [] [4] ref2_Row_C, .sem []] (.reg [.sem [], .eq (f_len), .sem []] (.cond (.reg [.sem [], .sem [.wr 3, .wr 3, .wr 3, .wr 3], .sem []] (.done)) (.reg [.sem [.rd 0, .rd 0, .rd 0, .rd 0], .callw [] [5] ref2_Row_C, .sem [.rd 1, .rd 1, .rd 1, .rd 1], .callw [] [6] ref2_Row_C, .callw [5, 6] [5, 6, 7] ref1_Mul_C, .sem [], .callw [7, 4] [7, 4, 8, 9] ref1_Div_C, .sem [], .sem [], .sem [], .sem [], .sem []] (.caseP (fun s => (cb (s.fr 3))) (.reg [.gen [] (one (.bool true)), .sem [], .sem [], .eq (f_len), .sem [], .sem []] (.cond (.reg [.sem [], .sem [.nw 10], .callw [8, 10] [8, 10, 11] ref1_Add_C, .sem []] (.reg [.sem [], .callw [11] [11] ref2_Int_C, .sem [], .sem [], .sem [], .sem [.nw 12], .sem [.wr 12, .wr 12, .wr 12, .wr 12], .sem []] (.reg [.sem [], .sem []] (.cond (.reg [.sem [], .sem [.wr 3, .wr 3, .wr 3, .wr 3], .sem []] (.done)) (.reg [.sem [.rd 12, .rd 12, .rd 12, .rd 12], .sem [.wr 3, .wr 3, .wr 3, .wr 3], .sem []] (.done)))))) (.reg [.sem [], .callw [8] [8] ref2_Int_C, .sem [], .sem [], .sem [], .sem [.nw 12], .sem [.wr 12, .wr 12, .wr 12, .wr 12], .sem []] (.reg [.sem [], .sem []] (.cond (.reg [.sem [], .sem [.wr 3, .wr 3, .wr 3, .wr 3], .sem []] (.done)) (.reg [.sem [.rd 12, .rd 12, .rd 12, .rd 12], .sem [.wr 3, .wr 3, .wr 3, .wr 3], .sem []] (.done))))))) (.reg [.gen [] (one (.bool false)), .sem [], .no, .no, .no, .sem []] (.condF (.reg [.sem [], .callw [8] [8] ref2_Int_C, .sem [], .sem [], .sem [], .sem [.nw 12], .sem [.wr 12, .wr 12, .wr 12, .wr 12], .sem []] (.reg [.sem [], .sem []] (.cond (.reg [.sem [], .sem [.wr 3, .wr 3, .wr 3, .wr 3], .sem []] (.done)) (.reg [.sem [.rd 12, .rd 12, .rd 12, .rd 12], .sem [.wr 3, .wr 3, .wr 3, .wr 3], .sem []] (.done)))))))))))))
    (init #[vI a, vI b, vI d, .bool up] []) (finW Try.prog Try.f36 [.rd 3, .rd 3, .rd 3, .rd 3] [] (X := Int × Int) (fun zx => .tuple #[vI zx.1, .int .i64 zx.2]) (fun zx => []) (fun zx => (R4 zx.1 ∧ zx = rMulDiv (num (vI a)) (num (vI b)) (num (vI d)) up))) =
    (∀ b1 : Nat, ∀ b2 : Nat, ∀ b3 : Nat, ∀ b4 : Nat, b3 = b3 ∧ (none : Option Nat) = none ∧ b3 = b3 ∧ (none : Option Nat) = none ∧ b3 = b3 ∧ (none : Option Nat) = none ∧ b3 = b3 ∧ (none : Option Nat) = none ∧ (CallT Try.prog 20 #[vI d] [] Row (fun zx => sv zx) (fun zx => [(ss 3 zx)]) (fun zx => RowOK zx ∧ nv (dg zx) = (num (vI d)) ∧ Canon (dg zx) ∧ (dg zx).length ≤ 16)) ∧ (∃ zx : Row, (fun zx => RowOK zx ∧ nv (dg zx) = (num (vI d)) ∧ Canon (dg zx) ∧ (dg zx).length ≤ 16) zx) ∧ ∀ x5 : Row, (RowOK x5 ∧ nv (dg x5) = (num (vI d)) ∧ Canon (dg x5) ∧ (dg x5).length ≤ 16) → (PureRun Try.prog (do pure (.value (← Builtin.len_ #[41] 3 #[sv x5]))) (.int .i64 ((vlen (sv x5) : Nat) : Int))) ∧ ((((vlen (sv x5) : Nat) : Int) == (0 : Int)) = true → b4 = b4 ∧ (none : Option Nat) = none ∧ b4 = b4 ∧ (none : Option Nat) = none ∧ b4 = b4 ∧ (none : Option Nat) = none ∧ b4 = b4 ∧ (none : Option Nat) = none ∧ b4 = b4 ∧ (none : Option Nat) = none ∧ b4 = b4 ∧ (none : Option Nat) = none ∧ b4 = b4 ∧ (none : Option Nat) = none ∧ b4 = b4 ∧ (none : Option Nat) = none ∧ ∃ zx : Int × Int, (R4 zx.1 ∧ zx = rMulDiv (num (vI a)) (num (vI b)) (num (vI d)) up) ∧ Value.tuple #[.agg #[.int .u64 0, .int .u64 0, .int .u64 0, .int .u64 0], .int .i64 3] = .tuple #[vI zx.1, .int .i64 zx.2] ∧ True) ∧ ((((vlen (sv x5) : Nat) : Int) == (0 : Int)) = false → b1 = b1 ∧ (none : Option Nat) = none ∧ b1 = b1 ∧ (none : Option Nat) = none ∧ b1 = b1 ∧ (none : Option Nat) = none ∧ b1 = b1 ∧ (none : Option Nat) = none ∧ (CallT Try.prog 20 #[vI a] [] Row (fun zx => sv zx) (fun zx => [(ss 3 zx)]) (fun zx => RowOK zx ∧ nv (dg zx) = (num (vI a)) ∧ Canon (dg zx) ∧ (dg zx).length ≤ 16)) ∧ (∃ zx : Row, (fun zx => RowOK zx ∧ nv (dg zx) = (num (vI a)) ∧ Canon (dg zx) ∧ (dg zx).length ≤ 16) zx) ∧ ∀ x6 : Row, (RowOK x6 ∧ nv (dg x6) = (num (vI a)) ∧ Canon (dg x6) ∧ (dg x6).length ≤ 16) → b2 = b2 ∧ (none : Option Nat) = none ∧ b2 = b2 ∧ (none : Option Nat) = none ∧ b2 = b2 ∧ (none : Option Nat) = none ∧ b2 = b2 ∧ (none : Option Nat) = none ∧ (CallT Try.prog 20 #[vI b] [] Row (fun zx => sv zx) (fun zx => [(ss 3 zx)]) (fun zx => RowOK zx ∧ nv (dg zx) = (num (vI b)) ∧ Canon (dg zx) ∧ (dg zx).length ≤ 16)) ∧ (∃ zx : Row, (fun zx => RowOK zx ∧ nv (dg zx) = (num (vI b)) ∧ Canon (dg zx) ∧ (dg zx).length ≤ 16) zx) ∧ ∀ x7 : Row, (RowOK x7 ∧ nv (dg x7) = (num (vI b)) ∧ Canon (dg x7) ∧ (dg x7).length ≤ 16) → (CallT Try.prog 31 #[sv x6, sv x7] [(ss 3 x6), (ss 3 x7)] Row (fun zx => sv zx) (fun zx => [(ss 3 x6), (ss 3 x7), (ss 3 zx)]) (fun zx => RowOK zx ∧ nv (dg zx) = nv (rdv (sv x6) (ss 3 x6)) * nv (rdv (sv x7) (ss 3 x7)) ∧ Canon (dg zx))) ∧ (∃ zx : Row, (fun zx => RowOK zx ∧ nv (dg zx) = nv (rdv (sv x6) (ss 3 x6)) * nv (rdv (sv x7) (ss 3 x7)) ∧ Canon (dg zx)) zx) ∧ ∀ x8 : Row, (RowOK x8 ∧ nv (dg x8) = nv (rdv (sv x6) (ss 3 x6)) * nv (rdv (sv x7) (ss 3 x7)) ∧ Canon (dg x8)) → (CallT Try.prog 33 #[sv x8, sv x5] [(ss 3 x8), (ss 3 x5)] (Row × Row) (fun zx => .tuple #[sv zx.1, sv zx.2]) (fun zx => [(ss 3 x8), (ss 3 x5), (ss 3 zx.1), (ss 3 zx.2)]) (fun zx => RowOK zx.1 ∧ RowOK zx.2 ∧ nv (dg zx.1) = nv (rdv (sv x8) (ss 3 x8)) / nv (rdv (sv x5) (ss 3 x5)) ∧ nv (dg zx.2) = nv (rdv (sv x8) (ss 3 x8)) % nv (rdv (sv x5) (ss 3 x5)) ∧ Canon (dg zx.1) ∧ Canon (dg zx.2))) ∧ (∃ zx : Row × Row, (fun zx => RowOK zx.1 ∧ RowOK zx.2 ∧ nv (dg zx.1) = nv (rdv (sv x8) (ss 3 x8)) / nv (rdv (sv x5) (ss 3 x5)) ∧ nv (dg zx.2) = nv (rdv (sv x8) (ss 3 x8)) % nv (rdv (sv x5) (ss 3 x5)) ∧ Canon (dg zx.1) ∧ Canon (dg zx.2)) zx) ∧ ∀ x9 : Row × Row, (RowOK x9.1 ∧ RowOK x9.2 ∧ nv (dg x9.1) = nv (rdv (sv x8) (ss 3 x8)) / nv (rdv (sv x5) (ss 3 x5)) ∧ nv (dg x9.2) = nv (rdv (sv x8) (ss 3 x8)) % nv (rdv (sv x5) (ss 3 x5)) ∧ Canon (dg x9.1) ∧ Canon (dg x9.2)) → (up = true → (∃ _ : Unit, True ∧ Value.bool up = .bool true) ∧ ∀ _ : Unit, (True) → true = true ∧ true = true ∧ (PureRun Try.prog (do pure (.value (← Builtin.len_ #[41] 3 #[sv x9.2]))) (.int .i64 ((vlen (sv x9.2) : Nat) : Int))) ∧ true = true ∧ ((decide (((vlen (sv x9.2) : Nat) : Int) > (0 : Int))) = true → ∀ b10 : Nat, (CallT Try.prog 22 #[sv x9.1, .slice (some ⟨b10, 0, none⟩) 1 1] [(ss 3 x9.1), (ss 3 (Row.mk b10 [.int .i64 1] []))] Row (fun zx => sv zx) (fun zx => [(ss 3 x9.1), (ss 3 (Row.mk b10 [.int .i64 1] [])), (ss 3 zx)]) (fun zx => RowOK zx ∧ nv (dg zx) = nv (rdv (sv x9.1) (ss 3 x9.1)) + nv (rdv (sv (Row.mk b10 [.int .i64 1] [])) (ss 3 (Row.mk b10 [.int .i64 1] []))) ∧ Canon (dg zx))) ∧ (∃ zx : Row, (fun zx => RowOK zx ∧ nv (dg zx) = nv (rdv (sv x9.1) (ss 3 x9.1)) + nv (rdv (sv (Row.mk b10 [.int .i64 1] [])) (ss 3 (Row.mk b10 [.int .i64 1] []))) ∧ Canon (dg zx)) zx) ∧ ∀ x11 : Row, (RowOK x11 ∧ nv (dg x11) = nv (rdv (sv x9.1) (ss 3 x9.1)) + nv (rdv (sv (Row.mk b10 [.int .i64 1] [])) (ss 3 (Row.mk b10 [.int .i64 1] []))) ∧ Canon (dg x11)) → (CallT Try.prog 82 #[sv x11] [(ss 3 x11)] (Int × Bool) (fun zx => .tuple #[vI zx.1, .bool zx.2]) (fun zx => [(ss 3 x11)]) (fun zx => R4 zx.1 ∧ zx = rInt (nv (rdv (sv x11) (ss 3 x11))))) ∧ (∃ zx : Int × Bool, (fun zx => R4 zx.1 ∧ zx = rInt (nv (rdv (sv x11) (ss 3 x11)))) zx) ∧ ∀ x12 : Int × Bool, (R4 x12.1 ∧ x12 = rInt (nv (rdv (sv x11) (ss 3 x11)))) → ∀ b13 : Nat, b13 = b13 ∧ (none : Option Nat) = none ∧ b13 = b13 ∧ (none : Option Nat) = none ∧ b13 = b13 ∧ (none : Option Nat) = none ∧ b13 = b13 ∧ (none : Option Nat) = none ∧ ((!x12.2) = true → b4 = b4 ∧ (none : Option Nat) = none ∧ b4 = b4 ∧ (none : Option Nat) = none ∧ b4 = b4 ∧ (none : Option Nat) = none ∧ b4 = b4 ∧ (none : Option Nat) = none ∧ b4 = b4 ∧ (none : Option Nat) = none ∧ b4 = b4 ∧ (none : Option Nat) = none ∧ b4 = b4 ∧ (none : Option Nat) = none ∧ b4 = b4 ∧ (none : Option Nat) = none ∧ ∃ zx : Int × Int, (R4 zx.1 ∧ zx = rMulDiv (num (vI a)) (num (vI b)) (num (vI d)) up) ∧ Value.tuple #[.agg #[.int .u64 0, .int .u64 0, .int .u64 0, .int .u64 0], .int .i64 2] = .tuple #[vI zx.1, .int .i64 zx.2] ∧ True) ∧ ((!x12.2) = false → b13 = b13 ∧ (none : Option Nat) = none ∧ b13 = b13 ∧ (none : Option Nat) = none ∧ b13 = b13 ∧ (none : Option Nat) = none ∧ b13 = b13 ∧ (none : Option Nat) = none ∧ b4 = b4 ∧ (none : Option Nat) = none ∧ b4 = b4 ∧ (none : Option Nat) = none ∧ b4 = b4 ∧ (none : Option Nat) = none ∧ b4 = b4 ∧ (none : Option Nat) = none ∧ b4 = b4 ∧ (none : Option Nat) = none ∧ b4 = b4 ∧ (none : Option Nat) = none ∧ b4 = b4 ∧ (none : Option Nat) = none ∧ b4 = b4 ∧ (none : Option Nat) = none ∧ ∃ zx : Int × Int, (R4 zx.1 ∧ zx = rMulDiv (num (vI a)) (num (vI b)) (num (vI d)) up) ∧ Value.tuple #[vI x12.1, .int .i64 0] = .tuple #[vI zx.1, .int .i64 zx.2] ∧ True)) ∧ ((decide (((vlen (sv x9.2) : Nat) : Int) > (0 : Int))) = false → (CallT Try.prog 82 #[sv x9.1] [(ss 3 x9.1)] (Int × Bool) (fun zx => .tuple #[vI zx.1, .bool zx.2]) (fun zx => [(ss 3 x9.1)]) (fun zx => R4 zx.1 ∧ zx = rInt (nv (rdv (sv x9.1) (ss 3 x9.1))))) ∧ (∃ zx : Int × Bool, (fun zx => R4 zx.1 ∧ zx = rInt (nv (rdv (sv x9.1) (ss 3 x9.1)))) zx) ∧ ∀ x14 : Int × Bool, (R4 x14.1 ∧ x14 = rInt (nv (rdv (sv x9.1) (ss 3 x9.1)))) → ∀ b15 : Nat, b15 = b15 ∧ (none : Option Nat) = none ∧ b15 = b15 ∧ (none : Option Nat) = none ∧ b15 = b15 ∧ (none : Option Nat) = none ∧ b15 = b15 ∧ (none : Option Nat) = none ∧ ((!x14.2) = true → b4 = b4 ∧ (none : Option Nat) = none ∧ b4 = b4 ∧ (none : Option Nat) = none ∧ b4 = b4 ∧ (none : Option Nat) = none ∧ b4 = b4 ∧ (none : Option Nat) = none ∧ b4 = b4 ∧ (none : Option Nat) = none ∧ b4 = b4 ∧ (none : Option Nat) = none ∧ b4 = b4 ∧ (none : Option Nat) = none ∧ b4 = b4 ∧ (none : Option Nat) = none ∧ ∃ zx : Int × Int, (R4 zx.1 ∧ zx = rMulDiv (num (vI a)) (num (vI b)) (num (vI d)) up) ∧ Value.tuple #[.agg #[.int .u64 0, .int .u64 0, .int .u64 0, .int .u64 0], .int .i64 2] = .tuple #[vI zx.1, .int .i64 zx.2] ∧ True) ∧ ((!x14.2) = false → b15 = b15 ∧ (none : Option Nat) = none ∧ b15 = b15 ∧ (none : Option Nat) = none ∧ b15 = b15 ∧ (none : Option Nat) = none ∧ b15 = b15 ∧ (none : Option Nat) = none ∧ b4 = b4 ∧ (none : Option Nat) = none ∧ b4 = b4 ∧ (none : Option Nat) = none ∧ b4 = b4 ∧ (none : Option Nat) = none ∧ b4 = b4 ∧ (none : Option Nat) = none ∧ b4 = b4 ∧ (none : Option Nat) = none ∧ b4 = b4 ∧ (none : Option Nat) = none ∧ b4 = b4 ∧ (none : Option Nat) = none ∧ b4 = b4 ∧ (none : Option Nat) = none ∧ ∃ zx : Int × Int, (R4 zx.1 ∧ zx = rMulDiv (num (vI a)) (num (vI b)) (num (vI d)) up) ∧ Value.tuple #[vI x14.1, .int .i64 0] = .tuple #[vI zx.1, .int .i64 zx.2] ∧ True))) ∧ (up = false → (∃ _ : Unit, True ∧ Value.bool up = .bool false) ∧ ∀ _ : Unit, (True) → false = !true ∧ false = !true ∧ false = !true ∧ (false = false) ∧ (CallT Try.prog 82 #[sv x9.1] [(ss 3 x9.1)] (Int × Bool) (fun zx => .tuple #[vI zx.1, .bool zx.2]) (fun zx => [(ss 3 x9.1)]) (fun zx => R4 zx.1 ∧ zx = rInt (nv (rdv (sv x9.1) (ss 3 x9.1))))) ∧ (∃ zx : Int × Bool, (fun zx => R4 zx.1 ∧ zx = rInt (nv (rdv (sv x9.1) (ss 3 x9.1)))) zx) ∧ ∀ x16 : Int × Bool, (R4 x16.1 ∧ x16 = rInt (nv (rdv (sv x9.1) (ss 3 x9.1)))) → ∀ b17 : Nat, b17 = b17 ∧ (none : Option Nat) = none ∧ b17 = b17 ∧ (none : Option Nat) = none ∧ b17 = b17 ∧ (none : Option Nat) = none ∧ b17 = b17 ∧ (none : Option Nat) = none ∧ ((!x16.2) = true → b4 = b4 ∧ (none : Option Nat) = none ∧ b4 = b4 ∧ (none : Option Nat) = none ∧ b4 = b4 ∧ (none : Option Nat) = none ∧ b4 = b4 ∧ (none : Option Nat) = none ∧ b4 = b4 ∧ (none : Option Nat) = none ∧ b4 = b4 ∧ (none : Option Nat) = none ∧ b4 = b4 ∧ (none : Option Nat) = none ∧ b4 = b4 ∧ (none : Option Nat) = none ∧ ∃ zx : Int × Int, (R4 zx.1 ∧ zx = rMulDiv (num (vI a)) (num (vI b)) (num (vI d)) up) ∧ Value.tuple #[.agg #[.int .u64 0, .int .u64 0, .int .u64 0, .int .u64 0], .int .i64 2] = .tuple #[vI zx.1, .int .i64 zx.2] ∧ True) ∧ ((!x16.2) = false → b17 = b17 ∧ (none : Option Nat) = none ∧ b17 = b17 ∧ (none : Option Nat) = none ∧ b17 = b17 ∧ (none : Option Nat) = none ∧ b17 = b17 ∧ (none : Option Nat) = none ∧ b4 = b4 ∧ (none : Option Nat) = none ∧ b4 = b4 ∧ (none : Option Nat) = none ∧ b4 = b4 ∧ (none : Option Nat) = none ∧ b4 = b4 ∧ (none : Option Nat) = none ∧ b4 = b4 ∧ (none : Option Nat) = none ∧ b4 = b4 ∧ (none : Option Nat) = none ∧ b4 = b4 ∧ (none : Option Nat) = none ∧ b4 = b4 ∧ (none : Option Nat) = none ∧ ∃ zx : Int × Int, (R4 zx.1 ∧ zx = rMulDiv (num (vI a)) (num (vI b)) (num (vI d)) up) ∧ Value.tuple #[vI x16.1, .int .i64 0] = .tuple #[vI zx.1, .int .i64 zx.2] ∧ True)))) := by kernel_rfl
set_option maxRecDepth 100000 in
set_option maxHeartbeats 2000000 in
theorem ref3_MulDiv (a : Int) (b : Int) (d : Int) (up : Bool) (r_a : R4 a) (r_b : R4 b) (r_d : R4 d) : CallT Try.prog 36 #[vI a, vI b, vI d, .bool up] [] (Int × Int) (fun zx => .tuple #[vI zx.1, .int .i64 zx.2]) (fun zx => []) (fun zx => (R4 zx.1 ∧ zx = rMulDiv (num (vI a)) (num (vI b)) (num (vI d)) up)) := by
  refine call_of (c := bodyOf Try.f36) (n := 49) (fn := Try.f36) Try.mixed Try.func36 (by kernel_rfl) (by kernel_rfl) (by kernel_rfl) 2000 _ [.rd 3, .rd 3, .rd 3, .rd 3] [] rfl rfl (Eq.mpr (ref3_MulDiv_vc a b d up) ?_)
  intro b1
  intro b2
  intro b3
  intro b4
  refine ⟨rfl, rfl, rfl, rfl, rfl, rfl, rfl, rfl, ref2_Row d (by assumption), wit_num (by first | exact R4_num _ | exact by assumption), ?_⟩
  intro x5
  intro h1
  obtain ⟨rh1_, h1⟩ := h1
  try simp only [num_vI (n := d) (by assumption)] at h1
  have hd := h1
  have okd : RowOK x5 := by assumption
  have ed := vlen_dg x5
  have cd := canon_pos okd.dig hd.2.1
  have ld := hd.2.2
  refine ⟨xlen Try.sl41 3 x5, ?_⟩
  refine ⟨fun h2 => ?_, fun h2 => ?_⟩
  · refine ⟨rfl, rfl, rfl, rfl, rfl, rfl, rfl, rfl, ?_⟩
    refine ⟨rfl, rfl, rfl, rfl, rfl, rfl, rfl, rfl, ?_⟩
    have hz : d = 0 := by
      have := cd.1 (by simp only [decide_eq_true_eq, decide_eq_false_iff_not, gt_iff_lt, ge_iff_le, beq_iff_eq, beq_eq_false_iff_ne] at *; omega)
      rw [hd.1] at this; exact this
    exact ⟨(0, 3), ⟨R4_zero, by rw [num_vI r_a, num_vI r_b, num_vI r_d, hz, rmd_zero]⟩, by rw [vI_zero], trivial⟩
  · have dpos : 0 < d := by
      have h0 : ¬ d = 0 := fun h0 => by
        have := cd.2 (by rw [hd.1]; exact h0)
        simp only [decide_eq_true_eq, decide_eq_false_iff_not, gt_iff_lt, ge_iff_le, beq_iff_eq, beq_eq_false_iff_ne] at *
        omega
      have := r_d.1
      omega
    refine ⟨rfl, rfl, rfl, rfl, rfl, rfl, rfl, rfl, ref2_Row a (by assumption), wit_num (by first | exact R4_num _ | exact by assumption), ?_⟩
    intro x6
    intro h3
    obtain ⟨rh3_, h3⟩ := h3
    try simp only [num_vI (n := a) (by assumption)] at h3
    have hA := h3
    refine ⟨rfl, rfl, rfl, rfl, rfl, rfl, rfl, rfl, ref2_Row b (by assumption), wit_num (by first | exact R4_num _ | exact by assumption), ?_⟩
    intro x7
    intro h4
    obtain ⟨rh4_, h4⟩ := h4
    try simp only [num_vI (n := b) (by assumption)] at h4
    have hB := h4
    refine ⟨ref1_Mul x6 x7 (by first | assumption | exact rowOK_lit _ _ (by decide)) (by first | assumption | exact rowOK_lit _ _ (by decide)) (by omega) (by omega), wit_row (by rw [rdv_eq x6, rdv_eq x7]; exact Int.mul_nonneg (nv_nonneg (RowOK.dig (by first | assumption | exact rowOK_lit _ _ (by decide)))) (nv_nonneg (RowOK.dig (by first | assumption | exact rowOK_lit _ _ (by decide))))), ?_⟩
    intro x8
    intro h5
    simp only [rdv_eq] at h5
    obtain ⟨rh5_, h5⟩ := h5
    have hM := h5
    have lq : (dg x8).length ≤ 64 := len40 (RowOK.dig (by assumption)) hM.2 (by rw [hM.1, hA.1, hB.1]) (wide_num (prod_R r_a r_b))
    refine ⟨ref1_Div x8 x5 (by first | assumption | exact rowOK_lit _ _ (by decide)) (by first | assumption | exact rowOK_lit _ _ (by decide)) (by omega) (by omega) (by rw [hd.1]; have := r_d.1; have := cd.2; have h0 : ¬ d = 0 := (fun h0 => by have := cd.2 (by rw [hd.1]; exact h0); simp only [decide_eq_true_eq, decide_eq_false_iff_not, gt_iff_lt, ge_iff_le, beq_iff_eq, beq_eq_false_iff_ne] at *; omega); omega), wit_rdiv (by rw [rdv_eq x8]; exact nv_nonneg (RowOK.dig (by first | assumption | exact rowOK_lit _ _ (by decide)))) (by rw [rdv_eq x5]; omega), ?_⟩
    intro x9
    intro h6
    simp only [rdv_eq] at h6
    obtain ⟨rh6_1, h6⟩ := h6
    obtain ⟨rh6_2, h6⟩ := h6
    have hD := h6
    rw [hM.1, hA.1, hB.1, hd.1] at hD
    have okr : RowOK x9.2 := by assumption
    have er := vlen_dg x9.2
    have cr := canon_pos okr.dig hD.2.2.2
    have okq : RowOK x9.1 := by assumption
    have l40 : (dg x9.1).length ≤ 64 := len40 okq.dig hD.2.2.1 hD.1 (wide_num (quo_R8 (prod_R r_a r_b) (by omega)))
    refine ⟨fun h7 => ?_, fun h7 => ?_⟩
    · refine ⟨⟨(), trivial, congrArg Value.bool h7⟩, ?_⟩
      intro _
      intro _
      refine ⟨rfl, rfl, xlen Try.sl41 3 x9.2, rfl, ?_⟩
      refine ⟨fun h8 => ?_, fun h8 => ?_⟩
      · intro b10
        refine ⟨ref1_Add x9.1 (Row.mk b10 [.int .i64 1] []) (by first | assumption | exact rowOK_lit _ _ (by decide)) (rowOK_lit b10 [1] (by decide)) (by omega) (Nat.le_of_ble_eq_true rfl), wit_row (by rw [rdv_eq x9.1, rdv_eq (Row.mk b10 [.int .i64 1] [])]; exact Int.add_nonneg (nv_nonneg (RowOK.dig (by first | assumption | exact rowOK_lit _ _ (by decide)))) (nv_nonneg (RowOK.dig (rowOK_lit b10 [1] (by decide))))), ?_⟩
        intro x11
        intro h9
        simp only [rdv_eq] at h9
        obtain ⟨rh9_, h9⟩ := h9
        have hU := h9
        have hU1 : nv (dg x11) = a * b / d + 1 := by rw [hU.1, hD.1]; rfl
        have l41 : (dg x11).length ≤ 65 := len41 (RowOK.dig (by assumption)) hU.2 hU1 (quo_R8 (prod_R r_a r_b) (by omega))
        refine ⟨ref2_Int x11 (by first | assumption | exact rowOK_lit _ _ (by decide)) (by omega), ⟨_, rInt_R (by rw [rdv_eq x11]; exact nv_nonneg (RowOK.dig (by first | assumption | exact rowOK_lit _ _ (by decide)))), rfl⟩, ?_⟩
        intro x12
        intro h10
        simp only [rdv_eq] at h10
        obtain ⟨rh10_1, h10⟩ := h10
        have hI := h10
        intro b13
        refine ⟨rfl, rfl, rfl, rfl, rfl, rfl, rfl, rfl, ?_⟩
        refine ⟨fun h11 => ?_, fun h11 => ?_⟩
        · refine ⟨rfl, rfl, rfl, rfl, rfl, rfl, rfl, rfl, ?_⟩
          refine ⟨rfl, rfl, rfl, rfl, rfl, rfl, rfl, rfl, ?_⟩
          have hup : up = true := by assumption
          have hr : a * b % d ≠ 0 := by
            rw [← hD.2.1]
            intro h0
            have := cr.2 h0
            simp only [decide_eq_true_eq, decide_eq_false_iff_not, gt_iff_lt, ge_iff_le, beq_iff_eq, beq_eq_false_iff_ne] at *
            omega
          have E := rmd_up (by omega) hr (hI.trans (by rw [hU1]))
          rw [← hup] at E
          rw [not_t h11] at E
          exact ⟨(0, 2), ⟨R4_zero, by rw [num_vI r_a, num_vI r_b, num_vI r_d, E]; rfl⟩, by rw [vI_zero], trivial⟩
        · refine ⟨rfl, rfl, rfl, rfl, rfl, rfl, rfl, rfl, rfl, rfl, rfl, rfl, rfl, rfl, rfl, rfl, ?_⟩
          refine ⟨rfl, rfl, rfl, rfl, rfl, rfl, rfl, rfl, ?_⟩
          have hup : up = true := by assumption
          have hr : a * b % d ≠ 0 := by
            rw [← hD.2.1]
            intro h0
            have := cr.2 h0
            simp only [decide_eq_true_eq, decide_eq_false_iff_not, gt_iff_lt, ge_iff_le, beq_iff_eq, beq_eq_false_iff_ne] at *
            omega
          have E := rmd_up (by omega) hr (hI.trans (by rw [hU1]))
          rw [← hup] at E
          rw [not_f h11] at E
          exact ⟨(x12.1, 0), ⟨by assumption, by rw [num_vI r_a, num_vI r_b, num_vI r_d, E]; rfl⟩, rfl, trivial⟩
      · refine ⟨ref2_Int x9.1 (by first | assumption | exact rowOK_lit _ _ (by decide)) (by omega), ⟨_, rInt_R (by rw [rdv_eq x9.1]; exact nv_nonneg (RowOK.dig (by first | assumption | exact rowOK_lit _ _ (by decide)))), rfl⟩, ?_⟩
        intro x14
        intro h12
        simp only [rdv_eq] at h12
        obtain ⟨rh12_1, h12⟩ := h12
        have hI := h12
        intro b15
        refine ⟨rfl, rfl, rfl, rfl, rfl, rfl, rfl, rfl, ?_⟩
        refine ⟨fun h13 => ?_, fun h13 => ?_⟩
        · refine ⟨rfl, rfl, rfl, rfl, rfl, rfl, rfl, rfl, ?_⟩
          refine ⟨rfl, rfl, rfl, rfl, rfl, rfl, rfl, rfl, ?_⟩
          have hr : up = false ∨ a * b % d = 0 := by
            first | exact .inl (by assumption) | (refine .inr ?_; rw [← hD.2.1]; refine cr.1 ?_; simp only [decide_eq_true_eq, decide_eq_false_iff_not, gt_iff_lt, ge_iff_le, beq_iff_eq, beq_eq_false_iff_ne] at *; omega)
          have E := rmd_no (by omega) hr (hI.trans (by rw [hD.1]))
          rw [not_t h13] at E
          exact ⟨(0, 2), ⟨R4_zero, by rw [num_vI r_a, num_vI r_b, num_vI r_d, E]; rfl⟩, by rw [vI_zero], trivial⟩
        · refine ⟨rfl, rfl, rfl, rfl, rfl, rfl, rfl, rfl, rfl, rfl, rfl, rfl, rfl, rfl, rfl, rfl, ?_⟩
          refine ⟨rfl, rfl, rfl, rfl, rfl, rfl, rfl, rfl, ?_⟩
          have hr : up = false ∨ a * b % d = 0 := by
            first | exact .inl (by assumption) | (refine .inr ?_; rw [← hD.2.1]; refine cr.1 ?_; simp only [decide_eq_true_eq, decide_eq_false_iff_not, gt_iff_lt, ge_iff_le, beq_iff_eq, beq_eq_false_iff_ne] at *; omega)
          have E := rmd_no (by omega) hr (hI.trans (by rw [hD.1]))
          rw [not_f h13] at E
          exact ⟨(x14.1, 0), ⟨by assumption, by rw [num_vI r_a, num_vI r_b, num_vI r_d, E]; rfl⟩, rfl, trivial⟩
    · refine ⟨⟨(), trivial, congrArg Value.bool h7⟩, ?_⟩
      intro _
      intro _
      refine ⟨rfl, rfl, rfl, ?_⟩
      refine ⟨rfl, ?_⟩
      refine ⟨ref2_Int x9.1 (by first | assumption | exact rowOK_lit _ _ (by decide)) (by omega), ⟨_, rInt_R (by rw [rdv_eq x9.1]; exact nv_nonneg (RowOK.dig (by first | assumption | exact rowOK_lit _ _ (by decide)))), rfl⟩, ?_⟩
      intro x16
      intro h14
      simp only [rdv_eq] at h14
      obtain ⟨rh14_1, h14⟩ := h14
      have hI := h14
      intro b17
      refine ⟨rfl, rfl, rfl, rfl, rfl, rfl, rfl, rfl, ?_⟩
      refine ⟨fun h15 => ?_, fun h15 => ?_⟩
      · refine ⟨rfl, rfl, rfl, rfl, rfl, rfl, rfl, rfl, ?_⟩
        refine ⟨rfl, rfl, rfl, rfl, rfl, rfl, rfl, rfl, ?_⟩
        have hr : up = false ∨ a * b % d = 0 := by
          first | exact .inl (by assumption) | (refine .inr ?_; rw [← hD.2.1]; refine cr.1 ?_; simp only [decide_eq_true_eq, decide_eq_false_iff_not, gt_iff_lt, ge_iff_le, beq_iff_eq, beq_eq_false_iff_ne] at *; omega)
        have E := rmd_no (by omega) hr (hI.trans (by rw [hD.1]))
        rw [not_t h15] at E
        exact ⟨(0, 2), ⟨R4_zero, by rw [num_vI r_a, num_vI r_b, num_vI r_d, E]; rfl⟩, by rw [vI_zero], trivial⟩
      · refine ⟨rfl, rfl, rfl, rfl, rfl, rfl, rfl, rfl, rfl, rfl, rfl, rfl, rfl, rfl, rfl, rfl, ?_⟩
        refine ⟨rfl, rfl, rfl, rfl, rfl, rfl, rfl, rfl, ?_⟩
        have hr : up = false ∨ a * b % d = 0 := by
          first | exact .inl (by assumption) | (refine .inr ?_; rw [← hD.2.1]; refine cr.1 ?_; simp only [decide_eq_true_eq, decide_eq_false_iff_not, gt_iff_lt, ge_iff_le, beq_iff_eq, beq_eq_false_iff_ne] at *; omega)
        have E := rmd_no (by omega) hr (hI.trans (by rw [hD.1]))
        rw [not_f h15] at E
        exact ⟨(x16.1, 0), ⟨by assumption, by rw [num_vI r_a, num_vI r_b, num_vI r_d, E]; rfl⟩, rfl, trivial⟩

end Go.Proofs
