/- Contracts of this program's functions, and their proofs, printed by a program of the prover's own (see the claim's other texts for what the words mean). -/
import Derived.Test.YtohkmdnelbajiaaSxB17
import Derived.Test.YtohkmdnelbajiaaC7
set_option linter.unusedVariables false
set_option linter.unusedSimpArgs false
namespace Go.Proofs
open Go.Sx
def ref2_Row_C : List Value → List Slot → Ctr := fun vs hs => ⟨Row, fun zx => sv zx, fun zx => [(ss 3 zx)], fun zx => RowOK zx ∧ nv (dg zx) = (num (varg vs 1)) ∧ Canon (dg zx) ∧ (dg zx).length ≤ 16⟩
set_option maxRecDepth 100000 in
set_option maxHeartbeats 2000000 in
theorem ref2_Row_vc (a : Int) : codeW Try.prog 24 none 2000 none (bodyOf Try.f20) (.reg [.sem [.nw 0], .sem []] (.reg [.sem []] (.reg [.sem [.rd 0, .rd 0, .rd 0, .rd 0], .sem []] (.reg [.sem []] (.condT (.reg [.sem [], .sem []] (.reg [.sem []] (.reg [.sem []] (.condT (.reg [.sem [], .sem [], .gen [] (fun vs => one (.int .u64 (ci (varg vs 0) % 65536)) vs), .gen [] (fun vs => one (.int .i64 (ci (varg vs 0))) vs), .sem [.nw 1], .specw [2, 1] [20, 1] (F_app 3), .sem []] (.reg [.sem [], .gen [] (fun vs => one (.int .u64 (ci (varg vs 0) / 65536)) vs), .sem []] (.reg [.sem [], .sem []] (.reg [.sem []] (.condT (.reg [.sem [], .sem [], .gen [] (fun vs => one (.int .u64 (ci (varg vs 0) % 65536)) vs), .gen [] (fun vs => one (.int .i64 (ci (varg vs 0))) vs), .sem [.nw 1], .specw [20, 1] [20, 1] (F_app 3), .sem []] (.reg [.sem [], .gen [] (fun vs => one (.int .u64 (ci (varg vs 0) / 65536)) vs), .sem []] (.reg [.sem [], .sem []] (.reg [.sem []] (.condT (.reg [.sem [], .sem [], .gen [] (fun vs => one (.int .u64 (ci (varg vs 0) % 65536)) vs), .gen [] (fun vs => one (.int .i64 (ci (varg vs 0))) vs), .sem [.nw 1], .specw [20, 1] [20, 1] (F_app 3), .sem []] (.reg [.sem [], .gen [] (fun vs => one (.int .u64 (ci (varg vs 0) / 65536)) vs), .sem []] (.reg [.sem [], .sem []] (.reg [.sem []] (.condT (.reg [.sem [], .sem [], .gen [] (fun vs => one (.int .u64 (ci (varg vs 0) % 65536)) vs), .gen [] (fun vs => one (.int .i64 (ci (varg vs 0))) vs), .sem [.nw 1], .specw [20, 1] [20, 1] (F_app 3), .sem []] (.reg [.sem [], .gen [] (fun vs => one (.int .u64 (ci (varg vs 0) / 65536)) vs), .sem []] (.reg [.sem [], .sem []] (.reg [.sem []] (.condF (.reg [.sem [], .sem []] (.reg [.sem []] (.condT (.reg [.sem [], .sem []] (.reg [.sem []] (.reg [.sem []] (.condT (.reg [.sem [], .sem [], .gen [] (fun vs => one (.int .u64 (ci (varg vs 0) % 65536)) vs), .gen [] (fun vs => one (.int .i64 (ci (varg vs 0))) vs), .sem [.nw 1], .specw [20, 1] [20, 1] (F_app 3), .sem []] (.reg [.sem [], .gen [] (fun vs => one (.int .u64 (ci (varg vs 0) / 65536)) vs), .sem []] (.reg [.sem [], .sem []] (.reg [.sem []] (.condT (.reg [.sem [], .sem [], .gen [] (fun vs => one (.int .u64 (ci (varg vs 0) % 65536)) vs), .gen [] (fun vs => one (.int .i64 (ci (varg vs 0))) vs), .sem [.nw 1], .specw [20, 1] [20, 1] (F_app 3), .sem []] (.reg [.sem [], .gen [] (fun vs => one (.int .u64 (ci (varg vs 0) / 65536)) vs), .sem []] (.reg [.sem [], .sem []] (.reg [.sem []] (.condT (.reg [.sem [], .sem [], .gen [] (fun vs => one (.int .u64 (ci (varg vs 0) % 65536)) vs), .gen [] (fun vs => one (.int .i64 (ci (varg vs 0))) vs), .sem [.nw 1], .specw [20, 1] [20, 1] (F_app 3), .sem []] (.reg [.sem [], .gen [] (fun vs => one (.int .u64 (ci (varg vs 0) / 65536)) vs), .sem []] (.reg [.sem [], .sem []] (.reg [.sem []] (.condT (.reg [.sem [], .sem [], .gen [] (fun vs => one (.int .u64 (ci (varg vs 0) % 65536)) vs), .gen [] (fun vs => one (.int .i64 (ci (varg vs 0))) vs), .sem [.nw 1], .specw [20, 1] [20, 1] (F_app 3), .sem []] (.reg [.sem [], .gen [] (fun vs => one (.int .u64 (ci (varg vs 0) / 65536)) vs), .sem []] (.reg [.sem [], .sem []] (.reg [.sem []] (.condF (.reg [.sem [], .sem []] (.reg [.sem []] (.condT (.reg [.sem [], .sem []] (.reg [.sem []] (.reg [.sem []] (.condT (.reg [.sem [], .sem [], .gen [] (fun vs => one (.int .u64 (ci (varg vs 0) % 65536)) vs), .gen [] (fun vs => one (.int .i64 (ci (varg vs 0))) vs), .sem [.nw 1], .specw [20, 1] [20, 1] (F_app 3), .sem []] (.reg [.sem [], .gen [] (fun vs => one (.int .u64 (ci (varg vs 0) / 65536)) vs), .sem []] (.reg [.sem [], .sem []] (.reg [.sem []] (.condT (.reg [.sem [], .sem [], .gen [] (fun vs => one (.int .u64 (ci (varg vs 0) % 65536)) vs), .gen [] (fun vs => one (.int .i64 (ci (varg vs 0))) vs), .sem [.nw 1], .specw [20, 1] [20, 1] (F_app 3), .sem []] (.reg [.sem [], .gen [] (fun vs => one (.int .u64 (ci (varg vs 0) / 65536)) vs), .sem []] (.reg [.sem [], .sem []] (.reg [.sem []] (.condT (.reg [.sem [], .sem [], .gen [] (fun vs => one (.int .u64 (ci (varg vs 0) % 65536)) vs), .gen [] (fun vs => one (.int .i64 (ci (varg vs 0))) vs), .sem [.nw 1], .specw [20, 1] [20, 1] (F_app 3), .sem []] (.reg [.sem [], .gen [] (fun vs => one (.int .u64 (ci (varg vs 0) / 65536)) vs), .sem []] (.reg [.sem [], .sem []] (.reg [.sem []] (.condT (.reg [.sem [], .sem [], .gen [] (fun vs => one (.int .u64 (ci (varg vs 0) % 65536)) vs), .gen [] (fun vs => one (.int .i64 (ci (varg vs 0))) vs), .sem [.nw 1], .specw [20, 1] [20, 1] (F_app 3), .sem []] (.reg [.sem [], .gen [] (fun vs => one (.int .u64 (ci (varg vs 0) / 65536)) vs), .sem []] (.reg [.sem [], .sem []] (.reg [.sem []] (.condF (.reg [.sem [], .sem []] (.reg [.sem []] (.condT (.reg [.sem [], .sem []] (.reg [.sem []] (.reg [.sem []] (.condT (.reg [.sem [], .sem [], .gen [] (fun vs => one (.int .u64 (ci (varg vs 0) % 65536)) vs), .gen [] (fun vs => one (.int .i64 (ci (varg vs 0))) vs), .sem [.nw 1], .specw [20, 1] [20, 1] (F_app 3), .sem []] (.reg [.sem [], .gen [] (fun vs => one (.int .u64 (ci (varg vs 0) / 65536)) vs), .sem []] (.reg [.sem [], .sem []] (.reg [.sem []] (.condT (.reg [.sem [], .sem [], .gen [] (fun vs => one (.int .u64 (ci (varg vs 0) % 65536)) vs), .gen [] (fun vs => one (.int .i64 (ci (varg vs 0))) vs), .sem [.nw 1], .specw [20, 1] [20, 1] (F_app 3), .sem []] (.reg [.sem [], .gen [] (fun vs => one (.int .u64 (ci (varg vs 0) / 65536)) vs), .sem []] (.reg [.sem [], .sem []] (.reg [.sem []] (.condT (.reg [.sem [], .sem [], .gen [] (fun vs => one (.int .u64 (ci (varg vs 0) % 65536)) vs), .gen [] (fun vs => one (.int .i64 (ci (varg vs 0))) vs), .sem [.nw 1], .specw [20, 1] [20, 1] (F_app 3), .sem []] (.reg [.sem [], .gen [] (fun vs => one (.int .u64 (ci (varg vs 0) / 65536)) vs), .sem []] (.reg [.sem [], .sem []] (.reg [.sem []] (.condT (.reg [.sem [], .sem [], .gen [] (fun vs => one (.int .u64 (ci (varg vs 0) % 65536)) vs), .gen [] (fun vs => one (.int .i64 (ci (varg vs 0))) vs), .sem [.nw 1], .specw [20, 1] [20, 1] (F_app 3), .sem []] (.reg [.sem [], .gen [] (fun vs => one (.int .u64 (ci (varg vs 0) / 65536)) vs), .sem []] (.reg [.sem [], .sem []] (.reg [.sem []] (.condF (.reg [.sem [], .sem []] (.reg [.sem []] (.condF (.reg [.sem [], .callw [20] [20] ref1_Trim_C, .sem []] (.done)))))))))))))))))))))))))))))))))))))))))))))))))))))))))))))))))))))))))))))))))))))))))))))))))))))))))))))))))))
    (init #[vI a] []) (finW Try.prog Try.f20 [] [20] (X := Row) (fun zx => sv zx) (fun zx => [(ss 3 zx)]) (fun zx => (RowOK zx ∧ nv (dg zx) = (num (vI a)) ∧ Canon (dg zx) ∧ (dg zx).length ≤ 16))) =
    (∀ b1 : Nat, b1 = b1 ∧ (none : Option Nat) = none ∧ b1 = b1 ∧ (none : Option Nat) = none ∧ b1 = b1 ∧ (none : Option Nat) = none ∧ b1 = b1 ∧ (none : Option Nat) = none ∧ (true = true) ∧ (true = true) ∧ (∃ _ : Unit, True ∧ Value.int .u64 (Int.tmod (lim a 0) 65536) = .int .u64 ((lim a 0) % 65536)) ∧ ∀ _ : Unit, (True) → (∃ _ : Unit, True ∧ Value.int .i64 (IntKind.i64.wrap ((lim a 0) % 65536)) = .int .i64 ((lim a 0) % 65536)) ∧ ∀ _ : Unit, (True) → ∀ b2 : Nat, (OpT Try.prog (do pure (.value (← Builtin.append_ #[41, 41] 41 #[sv Row.nil, .slice (some ⟨b2, 0, none⟩) 1 1]))) [.free, .blk b2 (.cells #[.int .i64 ((lim a 0) % 65536)] 3 (0, 0))] Row (fun zx => sv zx) (fun zx => [(ss 3 zx), .blk b2 (.cells #[.int .i64 ((lim a 0) % 65536)] 3 (0, 0))]) (fun zx => vals zx = rvals (sv Row.nil) (ss 3 Row.nil) ++ [.int .i64 ((lim a 0) % 65536)])) ∧ (∃ zx : Row, (fun zx => vals zx = rvals (sv Row.nil) (ss 3 Row.nil) ++ [.int .i64 ((lim a 0) % 65536)]) zx) ∧ ∀ x3 : Row, (vals x3 = rvals (sv Row.nil) (ss 3 Row.nil) ++ [.int .i64 ((lim a 0) % 65536)]) → (∃ _ : Unit, True ∧ Value.int .u64 (IntKind.u64.wrap (Int.tdiv (lim a 0) 65536)) = .int .u64 ((lim a 0) / 65536)) ∧ ∀ _ : Unit, (True) → (true = true) ∧ (∃ _ : Unit, True ∧ Value.int .u64 (Int.tmod ((lim a 0) / 65536) 65536) = .int .u64 (((lim a 0) / 65536) % 65536)) ∧ ∀ _ : Unit, (True) → (∃ _ : Unit, True ∧ Value.int .i64 (IntKind.i64.wrap (((lim a 0) / 65536) % 65536)) = .int .i64 (((lim a 0) / 65536) % 65536)) ∧ ∀ _ : Unit, (True) → ∀ b4 : Nat, (OpT Try.prog (do pure (.value (← Builtin.append_ #[41, 41] 41 #[sv x3, .slice (some ⟨b4, 0, none⟩) 1 1]))) [(ss 3 x3), .blk b4 (.cells #[.int .i64 (((lim a 0) / 65536) % 65536)] 3 (0, 0))] Row (fun zx => sv zx) (fun zx => [(ss 3 zx), .blk b4 (.cells #[.int .i64 (((lim a 0) / 65536) % 65536)] 3 (0, 0))]) (fun zx => vals zx = rvals (sv x3) (ss 3 x3) ++ [.int .i64 (((lim a 0) / 65536) % 65536)])) ∧ (∃ zx : Row, (fun zx => vals zx = rvals (sv x3) (ss 3 x3) ++ [.int .i64 (((lim a 0) / 65536) % 65536)]) zx) ∧ ∀ x5 : Row, (vals x5 = rvals (sv x3) (ss 3 x3) ++ [.int .i64 (((lim a 0) / 65536) % 65536)]) → (∃ _ : Unit, True ∧ Value.int .u64 (IntKind.u64.wrap (Int.tdiv ((lim a 0) / 65536) 65536)) = .int .u64 (((lim a 0) / 65536) / 65536)) ∧ ∀ _ : Unit, (True) → (true = true) ∧ (∃ _ : Unit, True ∧ Value.int .u64 (Int.tmod (((lim a 0) / 65536) / 65536) 65536) = .int .u64 ((((lim a 0) / 65536) / 65536) % 65536)) ∧ ∀ _ : Unit, (True) → (∃ _ : Unit, True ∧ Value.int .i64 (IntKind.i64.wrap ((((lim a 0) / 65536) / 65536) % 65536)) = .int .i64 ((((lim a 0) / 65536) / 65536) % 65536)) ∧ ∀ _ : Unit, (True) → ∀ b6 : Nat, (OpT Try.prog (do pure (.value (← Builtin.append_ #[41, 41] 41 #[sv x5, .slice (some ⟨b6, 0, none⟩) 1 1]))) [(ss 3 x5), .blk b6 (.cells #[.int .i64 ((((lim a 0) / 65536) / 65536) % 65536)] 3 (0, 0))] Row (fun zx => sv zx) (fun zx => [(ss 3 zx), .blk b6 (.cells #[.int .i64 ((((lim a 0) / 65536) / 65536) % 65536)] 3 (0, 0))]) (fun zx => vals zx = rvals (sv x5) (ss 3 x5) ++ [.int .i64 ((((lim a 0) / 65536) / 65536) % 65536)])) ∧ (∃ zx : Row, (fun zx => vals zx = rvals (sv x5) (ss 3 x5) ++ [.int .i64 ((((lim a 0) / 65536) / 65536) % 65536)]) zx) ∧ ∀ x7 : Row, (vals x7 = rvals (sv x5) (ss 3 x5) ++ [.int .i64 ((((lim a 0) / 65536) / 65536) % 65536)]) → (∃ _ : Unit, True ∧ Value.int .u64 (IntKind.u64.wrap (Int.tdiv (((lim a 0) / 65536) / 65536) 65536)) = .int .u64 ((((lim a 0) / 65536) / 65536) / 65536)) ∧ ∀ _ : Unit, (True) → (true = true) ∧ (∃ _ : Unit, True ∧ Value.int .u64 (Int.tmod ((((lim a 0) / 65536) / 65536) / 65536) 65536) = .int .u64 (((((lim a 0) / 65536) / 65536) / 65536) % 65536)) ∧ ∀ _ : Unit, (True) → (∃ _ : Unit, True ∧ Value.int .i64 (IntKind.i64.wrap (((((lim a 0) / 65536) / 65536) / 65536) % 65536)) = .int .i64 (((((lim a 0) / 65536) / 65536) / 65536) % 65536)) ∧ ∀ _ : Unit, (True) → ∀ b8 : Nat, (OpT Try.prog (do pure (.value (← Builtin.append_ #[41, 41] 41 #[sv x7, .slice (some ⟨b8, 0, none⟩) 1 1]))) [(ss 3 x7), .blk b8 (.cells #[.int .i64 (((((lim a 0) / 65536) / 65536) / 65536) % 65536)] 3 (0, 0))] Row (fun zx => sv zx) (fun zx => [(ss 3 zx), .blk b8 (.cells #[.int .i64 (((((lim a 0) / 65536) / 65536) / 65536) % 65536)] 3 (0, 0))]) (fun zx => vals zx = rvals (sv x7) (ss 3 x7) ++ [.int .i64 (((((lim a 0) / 65536) / 65536) / 65536) % 65536)])) ∧ (∃ zx : Row, (fun zx => vals zx = rvals (sv x7) (ss 3 x7) ++ [.int .i64 (((((lim a 0) / 65536) / 65536) / 65536) % 65536)]) zx) ∧ ∀ x9 : Row, (vals x9 = rvals (sv x7) (ss 3 x7) ++ [.int .i64 (((((lim a 0) / 65536) / 65536) / 65536) % 65536)]) → (∃ _ : Unit, True ∧ Value.int .u64 (IntKind.u64.wrap (Int.tdiv ((((lim a 0) / 65536) / 65536) / 65536) 65536)) = .int .u64 (((((lim a 0) / 65536) / 65536) / 65536) / 65536)) ∧ ∀ _ : Unit, (True) → (false = false) ∧ (true = true) ∧ (true = true) ∧ (∃ _ : Unit, True ∧ Value.int .u64 (Int.tmod (lim a 1) 65536) = .int .u64 ((lim a 1) % 65536)) ∧ ∀ _ : Unit, (True) → (∃ _ : Unit, True ∧ Value.int .i64 (IntKind.i64.wrap ((lim a 1) % 65536)) = .int .i64 ((lim a 1) % 65536)) ∧ ∀ _ : Unit, (True) → ∀ b10 : Nat, (OpT Try.prog (do pure (.value (← Builtin.append_ #[41, 41] 41 #[sv x9, .slice (some ⟨b10, 0, none⟩) 1 1]))) [(ss 3 x9), .blk b10 (.cells #[.int .i64 ((lim a 1) % 65536)] 3 (0, 0))] Row (fun zx => sv zx) (fun zx => [(ss 3 zx), .blk b10 (.cells #[.int .i64 ((lim a 1) % 65536)] 3 (0, 0))]) (fun zx => vals zx = rvals (sv x9) (ss 3 x9) ++ [.int .i64 ((lim a 1) % 65536)])) ∧ (∃ zx : Row, (fun zx => vals zx = rvals (sv x9) (ss 3 x9) ++ [.int .i64 ((lim a 1) % 65536)]) zx) ∧ ∀ x11 : Row, (vals x11 = rvals (sv x9) (ss 3 x9) ++ [.int .i64 ((lim a 1) % 65536)]) → (∃ _ : Unit, True ∧ Value.int .u64 (IntKind.u64.wrap (Int.tdiv (lim a 1) 65536)) = .int .u64 ((lim a 1) / 65536)) ∧ ∀ _ : Unit, (True) → (true = true) ∧ (∃ _ : Unit, True ∧ Value.int .u64 (Int.tmod ((lim a 1) / 65536) 65536) = .int .u64 (((lim a 1) / 65536) % 65536)) ∧ ∀ _ : Unit, (True) → (∃ _ : Unit, True ∧ Value.int .i64 (IntKind.i64.wrap (((lim a 1) / 65536) % 65536)) = .int .i64 (((lim a 1) / 65536) % 65536)) ∧ ∀ _ : Unit, (True) → ∀ b12 : Nat, (OpT Try.prog (do pure (.value (← Builtin.append_ #[41, 41] 41 #[sv x11, .slice (some ⟨b12, 0, none⟩) 1 1]))) [(ss 3 x11), .blk b12 (.cells #[.int .i64 (((lim a 1) / 65536) % 65536)] 3 (0, 0))] Row (fun zx => sv zx) (fun zx => [(ss 3 zx), .blk b12 (.cells #[.int .i64 (((lim a 1) / 65536) % 65536)] 3 (0, 0))]) (fun zx => vals zx = rvals (sv x11) (ss 3 x11) ++ [.int .i64 (((lim a 1) / 65536) % 65536)])) ∧ (∃ zx : Row, (fun zx => vals zx = rvals (sv x11) (ss 3 x11) ++ [.int .i64 (((lim a 1) / 65536) % 65536)]) zx) ∧ ∀ x13 : Row, (vals x13 = rvals (sv x11) (ss 3 x11) ++ [.int .i64 (((lim a 1) / 65536) % 65536)]) → (∃ _ : Unit, True ∧ Value.int .u64 (IntKind.u64.wrap (Int.tdiv ((lim a 1) / 65536) 65536)) = .int .u64 (((lim a 1) / 65536) / 65536)) ∧ ∀ _ : Unit, (True) → (true = true) ∧ (∃ _ : Unit, True ∧ Value.int .u64 (Int.tmod (((lim a 1) / 65536) / 65536) 65536) = .int .u64 ((((lim a 1) / 65536) / 65536) % 65536)) ∧ ∀ _ : Unit, (True) → (∃ _ : Unit, True ∧ Value.int .i64 (IntKind.i64.wrap ((((lim a 1) / 65536) / 65536) % 65536)) = .int .i64 ((((lim a 1) / 65536) / 65536) % 65536)) ∧ ∀ _ : Unit, (True) → ∀ b14 : Nat, (OpT Try.prog (do pure (.value (← Builtin.append_ #[41, 41] 41 #[sv x13, .slice (some ⟨b14, 0, none⟩) 1 1]))) [(ss 3 x13), .blk b14 (.cells #[.int .i64 ((((lim a 1) / 65536) / 65536) % 65536)] 3 (0, 0))] Row (fun zx => sv zx) (fun zx => [(ss 3 zx), .blk b14 (.cells #[.int .i64 ((((lim a 1) / 65536) / 65536) % 65536)] 3 (0, 0))]) (fun zx => vals zx = rvals (sv x13) (ss 3 x13) ++ [.int .i64 ((((lim a 1) / 65536) / 65536) % 65536)])) ∧ (∃ zx : Row, (fun zx => vals zx = rvals (sv x13) (ss 3 x13) ++ [.int .i64 ((((lim a 1) / 65536) / 65536) % 65536)]) zx) ∧ ∀ x15 : Row, (vals x15 = rvals (sv x13) (ss 3 x13) ++ [.int .i64 ((((lim a 1) / 65536) / 65536) % 65536)]) → (∃ _ : Unit, True ∧ Value.int .u64 (IntKind.u64.wrap (Int.tdiv (((lim a 1) / 65536) / 65536) 65536)) = .int .u64 ((((lim a 1) / 65536) / 65536) / 65536)) ∧ ∀ _ : Unit, (True) → (true = true) ∧ (∃ _ : Unit, True ∧ Value.int .u64 (Int.tmod ((((lim a 1) / 65536) / 65536) / 65536) 65536) = .int .u64 (((((lim a 1) / 65536) / 65536) / 65536) % 65536)) ∧ ∀ _ : Unit, (True) → (∃ _ : Unit, True ∧ Value.int .i64 (IntKind.i64.wrap (((((lim a 1) / 65536) / 65536) / 65536) % 65536)) = .int .i64 (((((lim a 1) / 65536) / 65536) / 65536) % 65536)) ∧ ∀ _ : Unit, (True) → ∀ b16 : Nat, (OpT Try.prog (do pure (.value (← Builtin.append_ #[41, 41] 41 #[sv x15, .slice (some ⟨b16, 0, none⟩) 1 1]))) [(ss 3 x15), .blk b16 (.cells #[.int .i64 (((((lim a 1) / 65536) / 65536) / 65536) % 65536)] 3 (0, 0))] Row (fun zx => sv zx) (fun zx => [(ss 3 zx), .blk b16 (.cells #[.int .i64 (((((lim a 1) / 65536) / 65536) / 65536) % 65536)] 3 (0, 0))]) (fun zx => vals zx = rvals (sv x15) (ss 3 x15) ++ [.int .i64 (((((lim a 1) / 65536) / 65536) / 65536) % 65536)])) ∧ (∃ zx : Row, (fun zx => vals zx = rvals (sv x15) (ss 3 x15) ++ [.int .i64 (((((lim a 1) / 65536) / 65536) / 65536) % 65536)]) zx) ∧ ∀ x17 : Row, (vals x17 = rvals (sv x15) (ss 3 x15) ++ [.int .i64 (((((lim a 1) / 65536) / 65536) / 65536) % 65536)]) → (∃ _ : Unit, True ∧ Value.int .u64 (IntKind.u64.wrap (Int.tdiv ((((lim a 1) / 65536) / 65536) / 65536) 65536)) = .int .u64 (((((lim a 1) / 65536) / 65536) / 65536) / 65536)) ∧ ∀ _ : Unit, (True) → (false = false) ∧ (true = true) ∧ (true = true) ∧ (∃ _ : Unit, True ∧ Value.int .u64 (Int.tmod (lim a 2) 65536) = .int .u64 ((lim a 2) % 65536)) ∧ ∀ _ : Unit, (True) → (∃ _ : Unit, True ∧ Value.int .i64 (IntKind.i64.wrap ((lim a 2) % 65536)) = .int .i64 ((lim a 2) % 65536)) ∧ ∀ _ : Unit, (True) → ∀ b18 : Nat, (OpT Try.prog (do pure (.value (← Builtin.append_ #[41, 41] 41 #[sv x17, .slice (some ⟨b18, 0, none⟩) 1 1]))) [(ss 3 x17), .blk b18 (.cells #[.int .i64 ((lim a 2) % 65536)] 3 (0, 0))] Row (fun zx => sv zx) (fun zx => [(ss 3 zx), .blk b18 (.cells #[.int .i64 ((lim a 2) % 65536)] 3 (0, 0))]) (fun zx => vals zx = rvals (sv x17) (ss 3 x17) ++ [.int .i64 ((lim a 2) % 65536)])) ∧ (∃ zx : Row, (fun zx => vals zx = rvals (sv x17) (ss 3 x17) ++ [.int .i64 ((lim a 2) % 65536)]) zx) ∧ ∀ x19 : Row, (vals x19 = rvals (sv x17) (ss 3 x17) ++ [.int .i64 ((lim a 2) % 65536)]) → (∃ _ : Unit, True ∧ Value.int .u64 (IntKind.u64.wrap (Int.tdiv (lim a 2) 65536)) = .int .u64 ((lim a 2) / 65536)) ∧ ∀ _ : Unit, (True) → (true = true) ∧ (∃ _ : Unit, True ∧ Value.int .u64 (Int.tmod ((lim a 2) / 65536) 65536) = .int .u64 (((lim a 2) / 65536) % 65536)) ∧ ∀ _ : Unit, (True) → (∃ _ : Unit, True ∧ Value.int .i64 (IntKind.i64.wrap (((lim a 2) / 65536) % 65536)) = .int .i64 (((lim a 2) / 65536) % 65536)) ∧ ∀ _ : Unit, (True) → ∀ b20 : Nat, (OpT Try.prog (do pure (.value (← Builtin.append_ #[41, 41] 41 #[sv x19, .slice (some ⟨b20, 0, none⟩) 1 1]))) [(ss 3 x19), .blk b20 (.cells #[.int .i64 (((lim a 2) / 65536) % 65536)] 3 (0, 0))] Row (fun zx => sv zx) (fun zx => [(ss 3 zx), .blk b20 (.cells #[.int .i64 (((lim a 2) / 65536) % 65536)] 3 (0, 0))]) (fun zx => vals zx = rvals (sv x19) (ss 3 x19) ++ [.int .i64 (((lim a 2) / 65536) % 65536)])) ∧ (∃ zx : Row, (fun zx => vals zx = rvals (sv x19) (ss 3 x19) ++ [.int .i64 (((lim a 2) / 65536) % 65536)]) zx) ∧ ∀ x21 : Row, (vals x21 = rvals (sv x19) (ss 3 x19) ++ [.int .i64 (((lim a 2) / 65536) % 65536)]) → (∃ _ : Unit, True ∧ Value.int .u64 (IntKind.u64.wrap (Int.tdiv ((lim a 2) / 65536) 65536)) = .int .u64 (((lim a 2) / 65536) / 65536)) ∧ ∀ _ : Unit, (True) → (true = true) ∧ (∃ _ : Unit, True ∧ Value.int .u64 (Int.tmod (((lim a 2) / 65536) / 65536) 65536) = .int .u64 ((((lim a 2) / 65536) / 65536) % 65536)) ∧ ∀ _ : Unit, (True) → (∃ _ : Unit, True ∧ Value.int .i64 (IntKind.i64.wrap ((((lim a 2) / 65536) / 65536) % 65536)) = .int .i64 ((((lim a 2) / 65536) / 65536) % 65536)) ∧ ∀ _ : Unit, (True) → ∀ b22 : Nat, (OpT Try.prog (do pure (.value (← Builtin.append_ #[41, 41] 41 #[sv x21, .slice (some ⟨b22, 0, none⟩) 1 1]))) [(ss 3 x21), .blk b22 (.cells #[.int .i64 ((((lim a 2) / 65536) / 65536) % 65536)] 3 (0, 0))] Row (fun zx => sv zx) (fun zx => [(ss 3 zx), .blk b22 (.cells #[.int .i64 ((((lim a 2) / 65536) / 65536) % 65536)] 3 (0, 0))]) (fun zx => vals zx = rvals (sv x21) (ss 3 x21) ++ [.int .i64 ((((lim a 2) / 65536) / 65536) % 65536)])) ∧ (∃ zx : Row, (fun zx => vals zx = rvals (sv x21) (ss 3 x21) ++ [.int .i64 ((((lim a 2) / 65536) / 65536) % 65536)]) zx) ∧ ∀ x23 : Row, (vals x23 = rvals (sv x21) (ss 3 x21) ++ [.int .i64 ((((lim a 2) / 65536) / 65536) % 65536)]) → (∃ _ : Unit, True ∧ Value.int .u64 (IntKind.u64.wrap (Int.tdiv (((lim a 2) / 65536) / 65536) 65536)) = .int .u64 ((((lim a 2) / 65536) / 65536) / 65536)) ∧ ∀ _ : Unit, (True) → (true = true) ∧ (∃ _ : Unit, True ∧ Value.int .u64 (Int.tmod ((((lim a 2) / 65536) / 65536) / 65536) 65536) = .int .u64 (((((lim a 2) / 65536) / 65536) / 65536) % 65536)) ∧ ∀ _ : Unit, (True) → (∃ _ : Unit, True ∧ Value.int .i64 (IntKind.i64.wrap (((((lim a 2) / 65536) / 65536) / 65536) % 65536)) = .int .i64 (((((lim a 2) / 65536) / 65536) / 65536) % 65536)) ∧ ∀ _ : Unit, (True) → ∀ b24 : Nat, (OpT Try.prog (do pure (.value (← Builtin.append_ #[41, 41] 41 #[sv x23, .slice (some ⟨b24, 0, none⟩) 1 1]))) [(ss 3 x23), .blk b24 (.cells #[.int .i64 (((((lim a 2) / 65536) / 65536) / 65536) % 65536)] 3 (0, 0))] Row (fun zx => sv zx) (fun zx => [(ss 3 zx), .blk b24 (.cells #[.int .i64 (((((lim a 2) / 65536) / 65536) / 65536) % 65536)] 3 (0, 0))]) (fun zx => vals zx = rvals (sv x23) (ss 3 x23) ++ [.int .i64 (((((lim a 2) / 65536) / 65536) / 65536) % 65536)])) ∧ (∃ zx : Row, (fun zx => vals zx = rvals (sv x23) (ss 3 x23) ++ [.int .i64 (((((lim a 2) / 65536) / 65536) / 65536) % 65536)]) zx) ∧ ∀ x25 : Row, (vals x25 = rvals (sv x23) (ss 3 x23) ++ [.int .i64 (((((lim a 2) / 65536) / 65536) / 65536) % 65536)]) → (∃ _ : Unit, True ∧ Value.int .u64 (IntKind.u64.wrap (Int.tdiv ((((lim a 2) / 65536) / 65536) / 65536) 65536)) = .int .u64 (((((lim a 2) / 65536) / 65536) / 65536) / 65536)) ∧ ∀ _ : Unit, (True) → (false = false) ∧ (true = true) ∧ (true = true) ∧ (∃ _ : Unit, True ∧ Value.int .u64 (Int.tmod (lim a 3) 65536) = .int .u64 ((lim a 3) % 65536)) ∧ ∀ _ : Unit, (True) → (∃ _ : Unit, True ∧ Value.int .i64 (IntKind.i64.wrap ((lim a 3) % 65536)) = .int .i64 ((lim a 3) % 65536)) ∧ ∀ _ : Unit, (True) → ∀ b26 : Nat, (OpT Try.prog (do pure (.value (← Builtin.append_ #[41, 41] 41 #[sv x25, .slice (some ⟨b26, 0, none⟩) 1 1]))) [(ss 3 x25), .blk b26 (.cells #[.int .i64 ((lim a 3) % 65536)] 3 (0, 0))] Row (fun zx => sv zx) (fun zx => [(ss 3 zx), .blk b26 (.cells #[.int .i64 ((lim a 3) % 65536)] 3 (0, 0))]) (fun zx => vals zx = rvals (sv x25) (ss 3 x25) ++ [.int .i64 ((lim a 3) % 65536)])) ∧ (∃ zx : Row, (fun zx => vals zx = rvals (sv x25) (ss 3 x25) ++ [.int .i64 ((lim a 3) % 65536)]) zx) ∧ ∀ x27 : Row, (vals x27 = rvals (sv x25) (ss 3 x25) ++ [.int .i64 ((lim a 3) % 65536)]) → (∃ _ : Unit, True ∧ Value.int .u64 (IntKind.u64.wrap (Int.tdiv (lim a 3) 65536)) = .int .u64 ((lim a 3) / 65536)) ∧ ∀ _ : Unit, (True) → (true = true) ∧ (∃ _ : Unit, True ∧ Value.int .u64 (Int.tmod ((lim a 3) / 65536) 65536) = .int .u64 (((lim a 3) / 65536) % 65536)) ∧ ∀ _ : Unit, (True) → (∃ _ : Unit, True ∧ Value.int .i64 (IntKind.i64.wrap (((lim a 3) / 65536) % 65536)) = .int .i64 (((lim a 3) / 65536) % 65536)) ∧ ∀ _ : Unit, (True) → ∀ b28 : Nat, (OpT Try.prog (do pure (.value (← Builtin.append_ #[41, 41] 41 #[sv x27, .slice (some ⟨b28, 0, none⟩) 1 1]))) [(ss 3 x27), .blk b28 (.cells #[.int .i64 (((lim a 3) / 65536) % 65536)] 3 (0, 0))] Row (fun zx => sv zx) (fun zx => [(ss 3 zx), .blk b28 (.cells #[.int .i64 (((lim a 3) / 65536) % 65536)] 3 (0, 0))]) (fun zx => vals zx = rvals (sv x27) (ss 3 x27) ++ [.int .i64 (((lim a 3) / 65536) % 65536)])) ∧ (∃ zx : Row, (fun zx => vals zx = rvals (sv x27) (ss 3 x27) ++ [.int .i64 (((lim a 3) / 65536) % 65536)]) zx) ∧ ∀ x29 : Row, (vals x29 = rvals (sv x27) (ss 3 x27) ++ [.int .i64 (((lim a 3) / 65536) % 65536)]) → (∃ _ : Unit, True ∧ Value.int .u64 (IntKind.u64.wrap (Int.tdiv ((lim a 3) / 65536) 65536)) = .int .u64 (((lim a 3) / 65536) / 65536)) ∧ ∀ _ : Unit, (True) → (true = true) ∧ (∃ _ : Unit, True ∧ Value.int .u64 (Int.tmod (((lim a 3) / 65536) / 65536) 65536) = .int .u64 ((((lim a 3) / 65536) / 65536) % 65536)) ∧ ∀ _ : Unit, (True) → (∃ _ : Unit, True ∧ Value.int .i64 (IntKind.i64.wrap ((((lim a 3) / 65536) / 65536) % 65536)) = .int .i64 ((((lim a 3) / 65536) / 65536) % 65536)) ∧ ∀ _ : Unit, (True) → ∀ b30 : Nat, (OpT Try.prog (do pure (.value (← Builtin.append_ #[41, 41] 41 #[sv x29, .slice (some ⟨b30, 0, none⟩) 1 1]))) [(ss 3 x29), .blk b30 (.cells #[.int .i64 ((((lim a 3) / 65536) / 65536) % 65536)] 3 (0, 0))] Row (fun zx => sv zx) (fun zx => [(ss 3 zx), .blk b30 (.cells #[.int .i64 ((((lim a 3) / 65536) / 65536) % 65536)] 3 (0, 0))]) (fun zx => vals zx = rvals (sv x29) (ss 3 x29) ++ [.int .i64 ((((lim a 3) / 65536) / 65536) % 65536)])) ∧ (∃ zx : Row, (fun zx => vals zx = rvals (sv x29) (ss 3 x29) ++ [.int .i64 ((((lim a 3) / 65536) / 65536) % 65536)]) zx) ∧ ∀ x31 : Row, (vals x31 = rvals (sv x29) (ss 3 x29) ++ [.int .i64 ((((lim a 3) / 65536) / 65536) % 65536)]) → (∃ _ : Unit, True ∧ Value.int .u64 (IntKind.u64.wrap (Int.tdiv (((lim a 3) / 65536) / 65536) 65536)) = .int .u64 ((((lim a 3) / 65536) / 65536) / 65536)) ∧ ∀ _ : Unit, (True) → (true = true) ∧ (∃ _ : Unit, True ∧ Value.int .u64 (Int.tmod ((((lim a 3) / 65536) / 65536) / 65536) 65536) = .int .u64 (((((lim a 3) / 65536) / 65536) / 65536) % 65536)) ∧ ∀ _ : Unit, (True) → (∃ _ : Unit, True ∧ Value.int .i64 (IntKind.i64.wrap (((((lim a 3) / 65536) / 65536) / 65536) % 65536)) = .int .i64 (((((lim a 3) / 65536) / 65536) / 65536) % 65536)) ∧ ∀ _ : Unit, (True) → ∀ b32 : Nat, (OpT Try.prog (do pure (.value (← Builtin.append_ #[41, 41] 41 #[sv x31, .slice (some ⟨b32, 0, none⟩) 1 1]))) [(ss 3 x31), .blk b32 (.cells #[.int .i64 (((((lim a 3) / 65536) / 65536) / 65536) % 65536)] 3 (0, 0))] Row (fun zx => sv zx) (fun zx => [(ss 3 zx), .blk b32 (.cells #[.int .i64 (((((lim a 3) / 65536) / 65536) / 65536) % 65536)] 3 (0, 0))]) (fun zx => vals zx = rvals (sv x31) (ss 3 x31) ++ [.int .i64 (((((lim a 3) / 65536) / 65536) / 65536) % 65536)])) ∧ (∃ zx : Row, (fun zx => vals zx = rvals (sv x31) (ss 3 x31) ++ [.int .i64 (((((lim a 3) / 65536) / 65536) / 65536) % 65536)]) zx) ∧ ∀ x33 : Row, (vals x33 = rvals (sv x31) (ss 3 x31) ++ [.int .i64 (((((lim a 3) / 65536) / 65536) / 65536) % 65536)]) → (∃ _ : Unit, True ∧ Value.int .u64 (IntKind.u64.wrap (Int.tdiv ((((lim a 3) / 65536) / 65536) / 65536) 65536)) = .int .u64 (((((lim a 3) / 65536) / 65536) / 65536) / 65536)) ∧ ∀ _ : Unit, (True) → (false = false) ∧ (false = false) ∧ (CallT Try.prog 68 #[sv x33] [(ss 3 x33)] Row (fun zx => sv zx) (fun zx => [(ss 3 zx)]) (fun zx => RowOK zx ∧ ss 3 zx = (ss 3 x33) ∧ TrimR (rdv (sv x33) (ss 3 x33)) (dg zx))) ∧ (∃ zx : Row, (fun zx => RowOK zx ∧ ss 3 zx = (ss 3 x33) ∧ TrimR (rdv (sv x33) (ss 3 x33)) (dg zx)) zx) ∧ ∀ x34 : Row, (RowOK x34 ∧ ss 3 x34 = (ss 3 x33) ∧ TrimR (rdv (sv x33) (ss 3 x33)) (dg x34)) → ∃ zx : Row, (RowOK zx ∧ nv (dg zx) = (num (vI a)) ∧ Canon (dg zx) ∧ (dg zx).length ≤ 16) ∧ sv x34 = sv zx ∧ (ss 3 x34) = (ss 3 zx) ∧ True) := by kernel_rfl
set_option maxRecDepth 100000 in
set_option maxHeartbeats 2000000 in
theorem ref2_Row (a : Int) (r_a : R4 a) : CallT Try.prog 20 #[vI a] [] Row (fun zx => sv zx) (fun zx => [(ss 3 zx)]) (fun zx => (RowOK zx ∧ nv (dg zx) = (num (vI a)) ∧ Canon (dg zx) ∧ (dg zx).length ≤ 16)) := by
  refine call_of (c := bodyOf Try.f20) (n := 24) (fn := Try.f20) Try.mixed Try.func20 (by kernel_rfl) (by kernel_rfl) (by kernel_rfl) 2000 _ [] [20] rfl rfl (Eq.mpr (ref2_Row_vc a) ?_)
  have q0 := nil3
  intro b1
  refine ⟨rfl, rfl, rfl, rfl, rfl, rfl, rfl, rfl, ?_⟩
  refine ⟨rfl, ?_⟩
  have ww := W_lim a 0
  refine ⟨rfl, ?_⟩
  refine ⟨⟨(), trivial, congrArg (Value.int .u64) (tmod_nat ww.1)⟩, ?_⟩
  intro _
  intro _
  refine ⟨⟨(), trivial, congrArg (Value.int .i64) (conv16 _)⟩, ?_⟩
  intro _
  intro _
  intro b2
  refine ⟨xappendR Try.sl41 41 Row.nil (Nat.le_trans (Nat.le_of_eq q0.2.1) (by decide)) b2 1 (.int .i64 ((lim a 0) % 65536)) rfl, wit_app _, ?_⟩
  intro x3
  intro h1
  rw [rvals_eq] at h1
  have q1 := snoc3 (x := ((lim a 0) % 65536)) q0 (show P16 0 = 1 from rfl) (by assumption) (m16_0 _) (m16_1 _)
  refine ⟨⟨(), trivial, congrArg (Value.int .u64) (quo_u16 ww)⟩, ?_⟩
  intro _
  intro _
  refine ⟨rfl, ?_⟩
  refine ⟨⟨(), trivial, congrArg (Value.int .u64) (tmod_nat (W_div ww).1)⟩, ?_⟩
  intro _
  intro _
  refine ⟨⟨(), trivial, congrArg (Value.int .i64) (conv16 _)⟩, ?_⟩
  intro _
  intro _
  intro b4
  refine ⟨xappendR Try.sl41 41 x3 (Nat.le_trans (Nat.le_of_eq q1.2.1) (by decide)) b4 1 (.int .i64 (((lim a 0) / 65536) % 65536)) rfl, wit_app _, ?_⟩
  intro x5
  intro h2
  rw [rvals_eq] at h2
  have q2 := snoc3 (x := (((lim a 0) / 65536) % 65536)) q1 (show P16 1 = 65536 from rfl) (by assumption) (m16_0 _) (m16_1 _)
  refine ⟨⟨(), trivial, congrArg (Value.int .u64) (quo_u16 (W_div ww))⟩, ?_⟩
  intro _
  intro _
  refine ⟨rfl, ?_⟩
  refine ⟨⟨(), trivial, congrArg (Value.int .u64) (tmod_nat (W_div (W_div ww)).1)⟩, ?_⟩
  intro _
  intro _
  refine ⟨⟨(), trivial, congrArg (Value.int .i64) (conv16 _)⟩, ?_⟩
  intro _
  intro _
  intro b6
  refine ⟨xappendR Try.sl41 41 x5 (Nat.le_trans (Nat.le_of_eq q2.2.1) (by decide)) b6 1 (.int .i64 ((((lim a 0) / 65536) / 65536) % 65536)) rfl, wit_app _, ?_⟩
  intro x7
  intro h3
  rw [rvals_eq] at h3
  have q3 := snoc3 (x := ((((lim a 0) / 65536) / 65536) % 65536)) q2 (show P16 2 = 4294967296 from rfl) (by assumption) (m16_0 _) (m16_1 _)
  refine ⟨⟨(), trivial, congrArg (Value.int .u64) (quo_u16 (W_div (W_div ww)))⟩, ?_⟩
  intro _
  intro _
  refine ⟨rfl, ?_⟩
  refine ⟨⟨(), trivial, congrArg (Value.int .u64) (tmod_nat (W_div (W_div (W_div ww))).1)⟩, ?_⟩
  intro _
  intro _
  refine ⟨⟨(), trivial, congrArg (Value.int .i64) (conv16 _)⟩, ?_⟩
  intro _
  intro _
  intro b8
  refine ⟨xappendR Try.sl41 41 x7 (Nat.le_trans (Nat.le_of_eq q3.2.1) (by decide)) b8 1 (.int .i64 (((((lim a 0) / 65536) / 65536) / 65536) % 65536)) rfl, wit_app _, ?_⟩
  intro x9
  intro h4
  rw [rvals_eq] at h4
  have q4 := snoc3 (x := (((((lim a 0) / 65536) / 65536) / 65536) % 65536)) q3 (show P16 3 = 281474976710656 from rfl) (by assumption) (m16_0 _) (m16_1 _)
  refine ⟨⟨(), trivial, congrArg (Value.int .u64) (quo_u16 (W_div (W_div (W_div ww))))⟩, ?_⟩
  intro _
  intro _
  refine ⟨rfl, ?_⟩
  refine ⟨rfl, ?_⟩
  have ww := W_lim a 1
  refine ⟨rfl, ?_⟩
  refine ⟨⟨(), trivial, congrArg (Value.int .u64) (tmod_nat ww.1)⟩, ?_⟩
  intro _
  intro _
  refine ⟨⟨(), trivial, congrArg (Value.int .i64) (conv16 _)⟩, ?_⟩
  intro _
  intro _
  intro b10
  refine ⟨xappendR Try.sl41 41 x9 (Nat.le_trans (Nat.le_of_eq q4.2.1) (by decide)) b10 1 (.int .i64 ((lim a 1) % 65536)) rfl, wit_app _, ?_⟩
  intro x11
  intro h5
  rw [rvals_eq] at h5
  have q5 := snoc3 (x := ((lim a 1) % 65536)) q4 (show P16 4 = 18446744073709551616 from rfl) (by assumption) (m16_0 _) (m16_1 _)
  refine ⟨⟨(), trivial, congrArg (Value.int .u64) (quo_u16 ww)⟩, ?_⟩
  intro _
  intro _
  refine ⟨rfl, ?_⟩
  refine ⟨⟨(), trivial, congrArg (Value.int .u64) (tmod_nat (W_div ww).1)⟩, ?_⟩
  intro _
  intro _
  refine ⟨⟨(), trivial, congrArg (Value.int .i64) (conv16 _)⟩, ?_⟩
  intro _
  intro _
  intro b12
  refine ⟨xappendR Try.sl41 41 x11 (Nat.le_trans (Nat.le_of_eq q5.2.1) (by decide)) b12 1 (.int .i64 (((lim a 1) / 65536) % 65536)) rfl, wit_app _, ?_⟩
  intro x13
  intro h6
  rw [rvals_eq] at h6
  have q6 := snoc3 (x := (((lim a 1) / 65536) % 65536)) q5 (show P16 5 = 1208925819614629174706176 from rfl) (by assumption) (m16_0 _) (m16_1 _)
  refine ⟨⟨(), trivial, congrArg (Value.int .u64) (quo_u16 (W_div ww))⟩, ?_⟩
  intro _
  intro _
  refine ⟨rfl, ?_⟩
  refine ⟨⟨(), trivial, congrArg (Value.int .u64) (tmod_nat (W_div (W_div ww)).1)⟩, ?_⟩
  intro _
  intro _
  refine ⟨⟨(), trivial, congrArg (Value.int .i64) (conv16 _)⟩, ?_⟩
  intro _
  intro _
  intro b14
  refine ⟨xappendR Try.sl41 41 x13 (Nat.le_trans (Nat.le_of_eq q6.2.1) (by decide)) b14 1 (.int .i64 ((((lim a 1) / 65536) / 65536) % 65536)) rfl, wit_app _, ?_⟩
  intro x15
  intro h7
  rw [rvals_eq] at h7
  have q7 := snoc3 (x := ((((lim a 1) / 65536) / 65536) % 65536)) q6 (show P16 6 = 79228162514264337593543950336 from rfl) (by assumption) (m16_0 _) (m16_1 _)
  refine ⟨⟨(), trivial, congrArg (Value.int .u64) (quo_u16 (W_div (W_div ww)))⟩, ?_⟩
  intro _
  intro _
  refine ⟨rfl, ?_⟩
  refine ⟨⟨(), trivial, congrArg (Value.int .u64) (tmod_nat (W_div (W_div (W_div ww))).1)⟩, ?_⟩
  intro _
  intro _
  refine ⟨⟨(), trivial, congrArg (Value.int .i64) (conv16 _)⟩, ?_⟩
  intro _
  intro _
  intro b16
  refine ⟨xappendR Try.sl41 41 x15 (Nat.le_trans (Nat.le_of_eq q7.2.1) (by decide)) b16 1 (.int .i64 (((((lim a 1) / 65536) / 65536) / 65536) % 65536)) rfl, wit_app _, ?_⟩
  intro x17
  intro h8
  rw [rvals_eq] at h8
  have q8 := snoc3 (x := (((((lim a 1) / 65536) / 65536) / 65536) % 65536)) q7 (show P16 7 = 5192296858534827628530496329220096 from rfl) (by assumption) (m16_0 _) (m16_1 _)
  refine ⟨⟨(), trivial, congrArg (Value.int .u64) (quo_u16 (W_div (W_div (W_div ww))))⟩, ?_⟩
  intro _
  intro _
  refine ⟨rfl, ?_⟩
  refine ⟨rfl, ?_⟩
  have ww := W_lim a 2
  refine ⟨rfl, ?_⟩
  refine ⟨⟨(), trivial, congrArg (Value.int .u64) (tmod_nat ww.1)⟩, ?_⟩
  intro _
  intro _
  refine ⟨⟨(), trivial, congrArg (Value.int .i64) (conv16 _)⟩, ?_⟩
  intro _
  intro _
  intro b18
  refine ⟨xappendR Try.sl41 41 x17 (Nat.le_trans (Nat.le_of_eq q8.2.1) (by decide)) b18 1 (.int .i64 ((lim a 2) % 65536)) rfl, wit_app _, ?_⟩
  intro x19
  intro h9
  rw [rvals_eq] at h9
  have q9 := snoc3 (x := ((lim a 2) % 65536)) q8 (show P16 8 = 340282366920938463463374607431768211456 from rfl) (by assumption) (m16_0 _) (m16_1 _)
  refine ⟨⟨(), trivial, congrArg (Value.int .u64) (quo_u16 ww)⟩, ?_⟩
  intro _
  intro _
  refine ⟨rfl, ?_⟩
  refine ⟨⟨(), trivial, congrArg (Value.int .u64) (tmod_nat (W_div ww).1)⟩, ?_⟩
  intro _
  intro _
  refine ⟨⟨(), trivial, congrArg (Value.int .i64) (conv16 _)⟩, ?_⟩
  intro _
  intro _
  intro b20
  refine ⟨xappendR Try.sl41 41 x19 (Nat.le_trans (Nat.le_of_eq q9.2.1) (by decide)) b20 1 (.int .i64 (((lim a 2) / 65536) % 65536)) rfl, wit_app _, ?_⟩
  intro x21
  intro h10
  rw [rvals_eq] at h10
  have q10 := snoc3 (x := (((lim a 2) / 65536) % 65536)) q9 (show P16 9 = 22300745198530623141535718272648361505980416 from rfl) (by assumption) (m16_0 _) (m16_1 _)
  refine ⟨⟨(), trivial, congrArg (Value.int .u64) (quo_u16 (W_div ww))⟩, ?_⟩
  intro _
  intro _
  refine ⟨rfl, ?_⟩
  refine ⟨⟨(), trivial, congrArg (Value.int .u64) (tmod_nat (W_div (W_div ww)).1)⟩, ?_⟩
  intro _
  intro _
  refine ⟨⟨(), trivial, congrArg (Value.int .i64) (conv16 _)⟩, ?_⟩
  intro _
  intro _
  intro b22
  refine ⟨xappendR Try.sl41 41 x21 (Nat.le_trans (Nat.le_of_eq q10.2.1) (by decide)) b22 1 (.int .i64 ((((lim a 2) / 65536) / 65536) % 65536)) rfl, wit_app _, ?_⟩
  intro x23
  intro h11
  rw [rvals_eq] at h11
  have q11 := snoc3 (x := ((((lim a 2) / 65536) / 65536) % 65536)) q10 (show P16 10 = 1461501637330902918203684832716283019655932542976 from rfl) (by assumption) (m16_0 _) (m16_1 _)
  refine ⟨⟨(), trivial, congrArg (Value.int .u64) (quo_u16 (W_div (W_div ww)))⟩, ?_⟩
  intro _
  intro _
  refine ⟨rfl, ?_⟩
  refine ⟨⟨(), trivial, congrArg (Value.int .u64) (tmod_nat (W_div (W_div (W_div ww))).1)⟩, ?_⟩
  intro _
  intro _
  refine ⟨⟨(), trivial, congrArg (Value.int .i64) (conv16 _)⟩, ?_⟩
  intro _
  intro _
  intro b24
  refine ⟨xappendR Try.sl41 41 x23 (Nat.le_trans (Nat.le_of_eq q11.2.1) (by decide)) b24 1 (.int .i64 (((((lim a 2) / 65536) / 65536) / 65536) % 65536)) rfl, wit_app _, ?_⟩
  intro x25
  intro h12
  rw [rvals_eq] at h12
  have q12 := snoc3 (x := (((((lim a 2) / 65536) / 65536) / 65536) % 65536)) q11 (show P16 11 = 95780971304118053647396689196894323976171195136475136 from rfl) (by assumption) (m16_0 _) (m16_1 _)
  refine ⟨⟨(), trivial, congrArg (Value.int .u64) (quo_u16 (W_div (W_div (W_div ww))))⟩, ?_⟩
  intro _
  intro _
  refine ⟨rfl, ?_⟩
  refine ⟨rfl, ?_⟩
  have ww := W_lim a 3
  refine ⟨rfl, ?_⟩
  refine ⟨⟨(), trivial, congrArg (Value.int .u64) (tmod_nat ww.1)⟩, ?_⟩
  intro _
  intro _
  refine ⟨⟨(), trivial, congrArg (Value.int .i64) (conv16 _)⟩, ?_⟩
  intro _
  intro _
  intro b26
  refine ⟨xappendR Try.sl41 41 x25 (Nat.le_trans (Nat.le_of_eq q12.2.1) (by decide)) b26 1 (.int .i64 ((lim a 3) % 65536)) rfl, wit_app _, ?_⟩
  intro x27
  intro h13
  rw [rvals_eq] at h13
  have q13 := snoc3 (x := ((lim a 3) % 65536)) q12 (show P16 12 = 6277101735386680763835789423207666416102355444464034512896 from rfl) (by assumption) (m16_0 _) (m16_1 _)
  refine ⟨⟨(), trivial, congrArg (Value.int .u64) (quo_u16 ww)⟩, ?_⟩
  intro _
  intro _
  refine ⟨rfl, ?_⟩
  refine ⟨⟨(), trivial, congrArg (Value.int .u64) (tmod_nat (W_div ww).1)⟩, ?_⟩
  intro _
  intro _
  refine ⟨⟨(), trivial, congrArg (Value.int .i64) (conv16 _)⟩, ?_⟩
  intro _
  intro _
  intro b28
  refine ⟨xappendR Try.sl41 41 x27 (Nat.le_trans (Nat.le_of_eq q13.2.1) (by decide)) b28 1 (.int .i64 (((lim a 3) / 65536) % 65536)) rfl, wit_app _, ?_⟩
  intro x29
  intro h14
  rw [rvals_eq] at h14
  have q14 := snoc3 (x := (((lim a 3) / 65536) % 65536)) q13 (show P16 13 = 411376139330301510538742295639337626245683966408394965837152256 from rfl) (by assumption) (m16_0 _) (m16_1 _)
  refine ⟨⟨(), trivial, congrArg (Value.int .u64) (quo_u16 (W_div ww))⟩, ?_⟩
  intro _
  intro _
  refine ⟨rfl, ?_⟩
  refine ⟨⟨(), trivial, congrArg (Value.int .u64) (tmod_nat (W_div (W_div ww)).1)⟩, ?_⟩
  intro _
  intro _
  refine ⟨⟨(), trivial, congrArg (Value.int .i64) (conv16 _)⟩, ?_⟩
  intro _
  intro _
  intro b30
  refine ⟨xappendR Try.sl41 41 x29 (Nat.le_trans (Nat.le_of_eq q14.2.1) (by decide)) b30 1 (.int .i64 ((((lim a 3) / 65536) / 65536) % 65536)) rfl, wit_app _, ?_⟩
  intro x31
  intro h15
  rw [rvals_eq] at h15
  have q15 := snoc3 (x := ((((lim a 3) / 65536) / 65536) % 65536)) q14 (show P16 14 = 26959946667150639794667015087019630673637144422540572481103610249216 from rfl) (by assumption) (m16_0 _) (m16_1 _)
  refine ⟨⟨(), trivial, congrArg (Value.int .u64) (quo_u16 (W_div (W_div ww)))⟩, ?_⟩
  intro _
  intro _
  refine ⟨rfl, ?_⟩
  refine ⟨⟨(), trivial, congrArg (Value.int .u64) (tmod_nat (W_div (W_div (W_div ww))).1)⟩, ?_⟩
  intro _
  intro _
  refine ⟨⟨(), trivial, congrArg (Value.int .i64) (conv16 _)⟩, ?_⟩
  intro _
  intro _
  intro b32
  refine ⟨xappendR Try.sl41 41 x31 (Nat.le_trans (Nat.le_of_eq q15.2.1) (by decide)) b32 1 (.int .i64 (((((lim a 3) / 65536) / 65536) / 65536) % 65536)) rfl, wit_app _, ?_⟩
  intro x33
  intro h16
  rw [rvals_eq] at h16
  have q16 := snoc3 (x := (((((lim a 3) / 65536) / 65536) / 65536) % 65536)) q15 (show P16 15 = 1766847064778384329583297500742918515827483896875618958121606201292619776 from rfl) (by assumption) (m16_0 _) (m16_1 _)
  refine ⟨⟨(), trivial, congrArg (Value.int .u64) (quo_u16 (W_div (W_div (W_div ww))))⟩, ?_⟩
  intro _
  intro _
  refine ⟨rfl, ?_⟩
  refine ⟨rfl, ?_⟩
  obtain ⟨ok16, ql, hq⟩ := q16
  clear q0 q1 q2 q3 q4 q5 q6 q7 q8 q9 q10 q11 q12 q13 q14 q15
  refine ⟨ref1_Trim x33 (by first | assumption | exact rowOK_lit _ _ (by decide)) (by omega), wit_trim x33 (by first | assumption | exact rowOK_lit _ _ (by decide)), ?_⟩
  intro x34
  intro h17
  simp only [rdv_eq] at h17
  obtain ⟨rh17_, h17⟩ := h17
  have T : TrimR (dg x33) (dg x34) := by first | exact And.right (by assumption) | assumption
  have w0 := limb_digits (W_lim a 0)
  have w1 := limb_digits (W_lim a 1)
  have w2 := limb_digits (W_lim a 2)
  have w3 := limb_digits (W_lim a 3)
  have ea := lims a
  rw [num_vI r_a] at ea
  have hn : nv (dg x34) = a := by
    rw [T.eq, hq]
    refine Eq.trans ?_ ea.symm
    clear hq ea
    omega
  exact ⟨_, ⟨by assumption, by rw [num_vI r_a]; exact hn, T.canon, num_len (RowOK.dig (by assumption)) T.canon hn r_a⟩, rfl, rfl, trivial⟩

end Go.Proofs
