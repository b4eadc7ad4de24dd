/- Contracts of this program's functions, and their proofs, printed by a program of the prover's own (see the claim's other texts for what the words mean). -/
import Derived.Test.YtaholcpmcjdkgaaF5
import Derived.Test.YtaholcpmcjdkgaaF6
import Derived.Test.YtaholcpmcjdkgaaF7
import Derived.Test.YtaholcpmcjdkgaaF4
import Derived.Test.YtaholcpmcjdkgaaProg
set_option linter.unusedVariables false
set_option linter.unusedSimpArgs false
namespace Go.Proofs
open Go.Sx
theorem Try.mixed : Try.prog.follows .mixedOrders = true := by kernel_rfl
def Try.jk : JK := ⟨27, 1⟩
theorem Try.sl25 : SlT Try.prog 25 1 .nilFunc := SlT.of (by kernel_rfl) (by kernel_rfl) (by kernel_rfl) (by kernel_rfl) rfl
set_option maxRecDepth 100000 in
theorem stage_Mark_raw_vc (bj : Nat) (row : Rw) : codeW Try.prog 8 none 2000 none (bodyOf Try.f11) (.reg [.sem []] (.reg [.sem [], .sem [], .sem [], .sem [.rd 0], .eq (f_len), .sem []] (.done)))
    (init #[.pointer (some ⟨bj, 0, none⟩)] [.blk bj (.cells #[sv row] 27 (0, 0)), (ss 1 row)]) (finW Try.prog Try.f11 [] [0, 1] (X := Unit) (fun _ => .int .i64 ((vlen (sv row) : Nat) : Int)) (fun _ => [.blk bj (.cells #[sv row] 27 (0, 0)), (ss 1 row)]) (fun _ => True)) =
    (bj = bj ∧ (none : Option Nat) = none ∧ (PureRun Try.prog (do pure (.value (← Builtin.len_ #[25] 3 #[sv row]))) (.int .i64 ((vlen (sv row) : Nat) : Int))) ∧ ∃ _ : Unit, (True) ∧ Value.int .i64 ((vlen (sv row) : Nat) : Int) = .int .i64 ((vlen (sv row) : Nat) : Int) ∧ Slot.blk bj (.cells #[sv row] 27 (0, 0)) = .blk bj (.cells #[sv row] 27 (0, 0)) ∧ (ss 1 row) = (ss 1 row) ∧ True) := by kernel_rfl
set_option maxRecDepth 100000 in
theorem stage_Mark_raw (bj : Nat) (row : Rw)  : CallT Try.prog 11 #[.pointer (some ⟨bj, 0, none⟩)] [.blk bj (.cells #[sv row] 27 (0, 0)), (ss 1 row)] Unit (fun _ => .int .i64 ((vlen (sv row) : Nat) : Int)) (fun _ => [.blk bj (.cells #[sv row] 27 (0, 0)), (ss 1 row)]) (fun _ => True) := by
  refine call_of (c := bodyOf Try.f11) (n := 8) (fn := Try.f11) Try.mixed Try.func11 (by kernel_rfl) (by kernel_rfl) (by kernel_rfl) 2000 _ [] [0, 1] rfl rfl (Eq.mpr (stage_Mark_raw_vc bj row) ?_)
  refine ⟨rfl, rfl, xlen Try.sl25 3 row, ?_⟩
  exact ⟨(), trivial, rfl, rfl, rfl, trivial⟩

def stage_Mark_C : List Value → List Slot → Ctr := fun vs hs => ⟨Int, fun zx => .int .i64 zx, fun _ => hs, fun zx => zx = ((((sents (sarg hs 0)) : List Ent).length : Nat) : Int)⟩
theorem stage_Mark (bj : Nat) (L : List Ent)  : CallT Try.prog 11 #[.pointer (some ⟨bj, 0, none⟩)] [(jS Try.jk bj L)] Int (fun zx => .int .i64 zx) (fun zx => [(jS Try.jk bj L)]) (fun zx => (zx = (((L : List Ent).length : Nat) : Int))) := by
  refine jS_read (enterOK (c := bodyOf Try.f11) Try.func11 (by kernel_rfl) (by kernel_rfl)) fun row _ hl => ?_
  exact (stage_Mark_raw bj row).exists fun _ _ => ⟨_, rfl, by rw [vlen_sv, hl], Imp.refl _⟩

noncomputable def Try.ent70 (b : Nat) (m : KV) (key : Value) : Ent := ⟨50, b, key, mget m key, .int .i64 0, 4, 3, 28, 3⟩
def Try.mk70 : MK := ⟨70, Value.func (.func 9) #[] #[], fun v => ∃ n : Int, v = .int .i64 n, fun x => ∃ v, (fun n => (Lit.int .i64 n).wf = true) v ∧ x = (Value.int .i64) v⟩
theorem Try.kl70 : KindL Try.prog Try.mk70 68 3 3 (.int .i64 0) (V := Int) (Value.int .i64) (fun n => (Lit.int .i64 n).wf = true) := ⟨⟨by kernel_rfl, kl_int (by kernel_rfl), fun w => by kernel_rfl⟩, fun _ => Iff.rfl, ⟨0, rfl, rfl⟩⟩
set_option maxRecDepth 100000 in
theorem stage_New_raw70_vc (bj : Nat) : codeW Try.prog 10 none 2000 none (bodyOf Try.f8) (.reg [.sem []] (.reg [.sem [.nw 21], .sem [], .sem [], .sem [], .sem [.nw 20], .sem []] (.done)))
    (init #[.pointer (some ⟨bj, 0, none⟩), .func (.func 9) #[] #[]] []) (finW Try.prog Try.f8 [] [20, 21] (X := Nat × Nat) (fun zx => .pointer (some ⟨zx.1, 0, none⟩)) (fun zx => [.blk zx.1 (.cells #[.map (some zx.2), .pointer (some ⟨bj, 0, none⟩), .func (.func 9) #[] #[]] 70 (0, 0)), .blk zx.2 (.map #[] 0)]) (fun _ => True)) =
    (∀ b1 : Nat, ∀ b2 : Nat, ∃ zx : Nat × Nat, (True) ∧ Value.pointer (some ⟨b2, 0, none⟩) = .pointer (some ⟨zx.1, 0, none⟩) ∧ Slot.blk b2 (.cells #[.map (some b1), .pointer (some ⟨bj, 0, none⟩), .func (.func 9) #[] #[]] 70 (0, 0)) = .blk zx.1 (.cells #[.map (some zx.2), .pointer (some ⟨bj, 0, none⟩), .func (.func 9) #[] #[]] 70 (0, 0)) ∧ Slot.blk b1 (.map #[] 0) = .blk zx.2 (.map #[] 0) ∧ True) := by kernel_rfl
set_option maxRecDepth 100000 in
theorem stage_New_raw70 (bj : Nat)  : CallT Try.prog 8 #[.pointer (some ⟨bj, 0, none⟩), .func (.func 9) #[] #[]] [] (Nat × Nat) (fun zx => .pointer (some ⟨zx.1, 0, none⟩)) (fun zx => [.blk zx.1 (.cells #[.map (some zx.2), .pointer (some ⟨bj, 0, none⟩), .func (.func 9) #[] #[]] 70 (0, 0)), .blk zx.2 (.map #[] 0)]) (fun _ => True) := by
  refine call_of (c := bodyOf Try.f8) (n := 10) (fn := Try.f8) Try.mixed Try.func8 (by kernel_rfl) (by kernel_rfl) (by kernel_rfl) 2000 _ [] [20, 21] rfl rfl (Eq.mpr (stage_New_raw70_vc bj) ?_)
  intro b1
  intro b2
  exact ⟨(b2, b1), trivial, rfl, rfl, rfl, trivial⟩

def stage_New70_C : List Value → List Slot → Ctr := fun vs hs => ⟨Nat, fun zx => .pointer (some ⟨zx, 0, none⟩), fun zx => [(mS Try.mk70 zx (vblk (varg vs 1)) ([]))], fun zx => True⟩
theorem stage_New70 (bj : Nat)  : CallT Try.prog 8 #[.pointer (some ⟨bj, 0, none⟩), .func (.func 9) #[] #[]] [] Nat (fun zx => .pointer (some ⟨zx, 0, none⟩)) (fun zx => [(mS Try.mk70 zx bj ([]))]) (fun zx => (True)) := (stage_New_raw70 bj).exists fun x _ => ⟨x.1, trivial, rfl, new_fold (K := Try.mk70) x.1 x.2 bj⟩

set_option maxRecDepth 100000 in
theorem stage_Get_raw70_vc (b : Nat) (bj : Nat) (r : Nat) (m : KV) (k : Int) : codeW Try.prog 19 none 2000 none (bodyOf Try.f24) (.reg [.sem [], .sem []] (.reg [.sem [], .sem [], .sem [], .sem [.rd 0], .sem [], .specr [1] (F_look (V := Int) (Value.int .i64) (fun n => (Lit.int .i64 n).wf = true) (.int .i64 0)), .sem [], .sem [], .sem [], .sem [], .sem []] (.reg [.sem [], .sem [], .sem [], .sem []] (.done))))
    (init #[.pointer (some ⟨b, 0, none⟩), .int .i64 k] [.blk b (.cells #[.map (some r), .pointer (some ⟨bj, 0, none⟩), .func (.func 9) #[] #[]] 70 (0, 0)), (mo r m)]) (finW Try.prog Try.f24 [] [0, 1] (X := Int × Bool) (fun zx => .tuple #[.int .i64 zx.1, .bool zx.2]) (fun zx => [.blk b (.cells #[.map (some r), .pointer (some ⟨bj, 0, none⟩), .func (.func 9) #[] #[]] 70 (0, 0)), (mo r m)]) (fun zx => (zx.1 = ci ((mget m (Value.int .i64 k)).getD (.int .i64 0)) ∧ zx.2 = (mget m (Value.int .i64 k)).isSome))) =
    (b = b ∧ (none : Option Nat) = none ∧ (OpT Try.prog (do pure (.value (← Instr.lookup 68 (.map (some r)) (.int .i64 k) true))) [(mo r m)] (Int × Bool) (fun zx => .tuple #[.int .i64 zx.1, .bool zx.2]) (fun _ => [(mo r m)]) (fun zx => (fun n => (Lit.int .i64 n).wf = true) zx.1 ∧ zx.2 = (mget m (Value.int .i64 k)).isSome ∧ (Value.int .i64) zx.1 = (mget m (Value.int .i64 k)).getD (.int .i64 0))) ∧ (∃ zx : Int × Bool, (fun zx => (fun n => (Lit.int .i64 n).wf = true) zx.1 ∧ zx.2 = (mget m (Value.int .i64 k)).isSome ∧ (Value.int .i64) zx.1 = (mget m (Value.int .i64 k)).getD (.int .i64 0)) zx) ∧ ∀ x1 : Int × Bool, ((fun n => (Lit.int .i64 n).wf = true) x1.1 ∧ x1.2 = (mget m (Value.int .i64 k)).isSome ∧ (Value.int .i64) x1.1 = (mget m (Value.int .i64 k)).getD (.int .i64 0)) → ∃ zx : Int × Bool, (zx.1 = ci ((mget m (Value.int .i64 k)).getD (.int .i64 0)) ∧ zx.2 = (mget m (Value.int .i64 k)).isSome) ∧ Value.tuple #[.int .i64 x1.1, .bool x1.2] = .tuple #[.int .i64 zx.1, .bool zx.2] ∧ Slot.blk b (.cells #[.map (some r), .pointer (some ⟨bj, 0, none⟩), .func (.func 9) #[] #[]] 70 (0, 0)) = .blk b (.cells #[.map (some r), .pointer (some ⟨bj, 0, none⟩), .func (.func 9) #[] #[]] 70 (0, 0)) ∧ (mo r m) = (mo r m) ∧ True) := by kernel_rfl
set_option maxRecDepth 100000 in
theorem stage_Get_raw70 (b : Nat) (bj : Nat) (r : Nat) (m : KV) (k : Int) (hk : KOK Try.mk70 m) : CallT Try.prog 24 #[.pointer (some ⟨b, 0, none⟩), .int .i64 k] [.blk b (.cells #[.map (some r), .pointer (some ⟨bj, 0, none⟩), .func (.func 9) #[] #[]] 70 (0, 0)), (mo r m)] (Int × Bool) (fun zx => .tuple #[.int .i64 zx.1, .bool zx.2]) (fun zx => [.blk b (.cells #[.map (some r), .pointer (some ⟨bj, 0, none⟩), .func (.func 9) #[] #[]] 70 (0, 0)), (mo r m)]) (fun zx => (zx.1 = ci ((mget m (Value.int .i64 k)).getD (.int .i64 0)) ∧ zx.2 = (mget m (Value.int .i64 k)).isSome)) := by
  refine call_of (c := bodyOf Try.f24) (n := 19) (fn := Try.f24) Try.mixed Try.func24 (by kernel_rfl) (by kernel_rfl) (by kernel_rfl) 2000 _ [] [0, 1] rfl rfl (Eq.mpr (stage_Get_raw70_vc b bj r m k) ?_)
  refine ⟨rfl, rfl, xlook Try.kl70 hk ⟨_, rfl⟩, wlook Try.kl70 hk _, ?_⟩
  intro x1
  intro h1
  have hx := h1
  exact ⟨_, ⟨by rw [← hx.2.2]; rfl, hx.2.1⟩, rfl, rfl, rfl, trivial⟩

def stage_Get70_C : List Value → List Slot → Ctr := fun vs hs => ⟨Int × Bool, fun zx => .tuple #[.int .i64 zx.1, .bool zx.2], fun _ => hs, fun zx => zx.1 = ci ((mget (skv (sarg hs 0)) (varg vs 2)).getD (.int .i64 0)) ∧ zx.2 = (mget (skv (sarg hs 0)) (varg vs 2)).isSome⟩
theorem stage_Get70 (b : Nat) (bj : Nat) (m : KV) (k : Int)  : CallT Try.prog 24 #[.pointer (some ⟨b, 0, none⟩), .int .i64 k] [(mS Try.mk70 b bj m)] (Int × Bool) (fun zx => .tuple #[.int .i64 zx.1, .bool zx.2]) (fun zx => [(mS Try.mk70 b bj m)]) (fun zx => (zx.1 = ci ((mget m (Value.int .i64 k)).getD (.int .i64 0)) ∧ zx.2 = (mget m (Value.int .i64 k)).isSome)) := by
  refine (mS_call (m' := fun _ => m) (us := fun _ => []) (enterOK (c := bodyOf Try.f24) Try.func24 (by kernel_rfl) (by kernel_rfl)) (fun r hk => ?_) (fun _ _ h => h))
  exact stage_Get_raw70 b bj r m k hk

set_option maxRecDepth 100000 in
theorem stage_note_raw70_vc (b : Nat) (bj : Nat) (r : Nat) (row : Rw) (m : KV) (k : Int) : codeW Try.prog 31 none 2000 none (bodyOf Try.f35) (.reg [.sem [.nw 32], .sem [.nw 33]] (.reg [.sem [.rd 32], .sem [], .sem [], .sem [.rd 0], .sem [.rd 33], .specr [1] (F_look (V := Int) (Value.int .i64) (fun n => (Lit.int .i64 n).wf = true) (.int .i64 0)), .sem [], .sem [], .sem [], .sem [.nw 31], .sem [.nw 30], .sem [.wr 31], .sem [.wr 30]] (.reg [.sem [.rd 32], .sem [], .sem [], .sem [.rd 0], .sem [.rd 32], .sem [], .sem [], .sem [.rd 0], .sem [], .sem [], .sem [.rd 2], .sem [], .sem [.nw 4], .specw [3, 4] [3, 4] (F_app 1), .sem [], .sem [], .specw [2] [2] F_put] (.done))))
    (init #[.pointer (some ⟨b, 0, none⟩), .int .i64 k] [.blk b (.cells #[.map (some r), .pointer (some ⟨bj, 0, none⟩), .func (.func 9) #[] #[]] 70 (0, 0)), (mo r m), .blk bj (.cells #[sv row] 27 (0, 0)), (ss 1 row)]) (finW Try.prog Try.f35 [] [0, 1, 2, 3, 30, 31, 32, 33] (X := Row × N4 × Int × Bool) (fun zx => .tuple #[]) (fun zx => [.blk b (.cells #[.map (some r), .pointer (some ⟨bj, 0, none⟩), .func (.func 9) #[] #[]] 70 (0, 0)), (mo r m), .blk bj (.cells #[sv zx.1] 27 (0, 0)), (ss 1 zx.1), .blk zx.2.1.1 (.cells #[.bool zx.2.2.2] 4 (0, 0)), .blk zx.2.1.2.1 (.cells #[.int .i64 zx.2.2.1] 3 (0, 0)), .blk zx.2.1.2.2.1 (.cells #[.pointer (some ⟨b, 0, none⟩)] 28 (0, 0)), .blk zx.2.1.2.2.2 (.cells #[.int .i64 k] 3 (0, 0))]) (fun zx => (vals zx.1 = vals row ++ [(Try.ent70 b m (Value.int .i64 k)).fn zx.2.1] ∧ zx.2.2.2 = (mget m (Value.int .i64 k)).isSome ∧ (Value.int .i64) zx.2.2.1 = (mget m (Value.int .i64 k)).getD (.int .i64 0)))) =
    (∀ b1 : Nat, ∀ b2 : Nat, b1 = b1 ∧ (none : Option Nat) = none ∧ b = b ∧ (none : Option Nat) = none ∧ b2 = b2 ∧ (none : Option Nat) = none ∧ (OpT Try.prog (do pure (.value (← Instr.lookup 68 (.map (some r)) (.int .i64 k) true))) [(mo r m)] (Int × Bool) (fun zx => .tuple #[.int .i64 zx.1, .bool zx.2]) (fun _ => [(mo r m)]) (fun zx => (fun n => (Lit.int .i64 n).wf = true) zx.1 ∧ zx.2 = (mget m (Value.int .i64 k)).isSome ∧ (Value.int .i64) zx.1 = (mget m (Value.int .i64 k)).getD (.int .i64 0))) ∧ (∃ zx : Int × Bool, (fun zx => (fun n => (Lit.int .i64 n).wf = true) zx.1 ∧ zx.2 = (mget m (Value.int .i64 k)).isSome ∧ (Value.int .i64) zx.1 = (mget m (Value.int .i64 k)).getD (.int .i64 0)) zx) ∧ ∀ x3 : Int × Bool, ((fun n => (Lit.int .i64 n).wf = true) x3.1 ∧ x3.2 = (mget m (Value.int .i64 k)).isSome ∧ (Value.int .i64) x3.1 = (mget m (Value.int .i64 k)).getD (.int .i64 0)) → ∀ b4 : Nat, ∀ b5 : Nat, b4 = b4 ∧ (none : Option Nat) = none ∧ b5 = b5 ∧ (none : Option Nat) = none ∧ b1 = b1 ∧ (none : Option Nat) = none ∧ b = b ∧ (none : Option Nat) = none ∧ b1 = b1 ∧ (none : Option Nat) = none ∧ b = b ∧ (none : Option Nat) = none ∧ bj = bj ∧ (none : Option Nat) = none ∧ ∀ b6 : Nat, (OpT Try.prog (do pure (.value (← Builtin.append_ #[25, 25] 25 #[sv row, .slice (some ⟨b6, 0, none⟩) 1 1]))) [(ss 1 row), .blk b6 (.cells #[.func (.func 50) #[] #[.pointer (some ⟨b5, 0, none⟩), .pointer (some ⟨b4, 0, none⟩), .pointer (some ⟨b1, 0, none⟩), .pointer (some ⟨b2, 0, none⟩)]] 1 (0, 0))] Row (fun zx => sv zx) (fun zx => [(ss 1 zx), .blk b6 (.cells #[.func (.func 50) #[] #[.pointer (some ⟨b5, 0, none⟩), .pointer (some ⟨b4, 0, none⟩), .pointer (some ⟨b1, 0, none⟩), .pointer (some ⟨b2, 0, none⟩)]] 1 (0, 0))]) (fun zx => vals zx = rvals (sv row) (ss 1 row) ++ [Value.func (.func 50) #[] #[.pointer (some ⟨b5, 0, none⟩), .pointer (some ⟨b4, 0, none⟩), .pointer (some ⟨b1, 0, none⟩), .pointer (some ⟨b2, 0, none⟩)]])) ∧ (∃ zx : Row, (fun zx => vals zx = rvals (sv row) (ss 1 row) ++ [Value.func (.func 50) #[] #[.pointer (some ⟨b5, 0, none⟩), .pointer (some ⟨b4, 0, none⟩), .pointer (some ⟨b1, 0, none⟩), .pointer (some ⟨b2, 0, none⟩)]]) zx) ∧ ∀ x7 : Row, (vals x7 = rvals (sv row) (ss 1 row) ++ [Value.func (.func 50) #[] #[.pointer (some ⟨b5, 0, none⟩), .pointer (some ⟨b4, 0, none⟩), .pointer (some ⟨b1, 0, none⟩), .pointer (some ⟨b2, 0, none⟩)]]) → (OpT Try.prog (do Instr.storeAt 25 (.pointer (some ⟨bj, 0, none⟩)) (sv x7); pure .skip) [.blk bj (.cells #[sv row] 27 (0, 0))] Unit (fun _ => .tuple #[]) (fun _ => [.blk bj (.cells #[sv x7] 27 (0, 0))]) (fun _ => True)) ∧ (∃ zx : Unit, (fun _ => True) zx) ∧ ∀ _ : Unit, (True) → ∃ zx : Row × N4 × Int × Bool, (vals zx.1 = vals row ++ [(Try.ent70 b m (Value.int .i64 k)).fn zx.2.1] ∧ zx.2.2.2 = (mget m (Value.int .i64 k)).isSome ∧ (Value.int .i64) zx.2.2.1 = (mget m (Value.int .i64 k)).getD (.int .i64 0)) ∧ Value.tuple #[] = .tuple #[] ∧ Slot.blk b (.cells #[.map (some r), .pointer (some ⟨bj, 0, none⟩), .func (.func 9) #[] #[]] 70 (0, 0)) = .blk b (.cells #[.map (some r), .pointer (some ⟨bj, 0, none⟩), .func (.func 9) #[] #[]] 70 (0, 0)) ∧ (mo r m) = (mo r m) ∧ Slot.blk bj (.cells #[sv x7] 27 (0, 0)) = .blk bj (.cells #[sv zx.1] 27 (0, 0)) ∧ (ss 1 x7) = (ss 1 zx.1) ∧ Slot.blk b5 (.cells #[.bool x3.2] 4 (0, 0)) = .blk zx.2.1.1 (.cells #[.bool zx.2.2.2] 4 (0, 0)) ∧ Slot.blk b4 (.cells #[.int .i64 x3.1] 3 (0, 0)) = .blk zx.2.1.2.1 (.cells #[.int .i64 zx.2.2.1] 3 (0, 0)) ∧ Slot.blk b1 (.cells #[.pointer (some ⟨b, 0, none⟩)] 28 (0, 0)) = .blk zx.2.1.2.2.1 (.cells #[.pointer (some ⟨b, 0, none⟩)] 28 (0, 0)) ∧ Slot.blk b2 (.cells #[.int .i64 k] 3 (0, 0)) = .blk zx.2.1.2.2.2 (.cells #[.int .i64 k] 3 (0, 0)) ∧ True) := by kernel_rfl
set_option maxRecDepth 100000 in
theorem stage_note_raw70 (b : Nat) (bj : Nat) (r : Nat) (row : Rw) (m : KV) (k : Int) (hk : KOK Try.mk70 m) (hl : (vals row).length ≤ 1073741824) : CallT Try.prog 35 #[.pointer (some ⟨b, 0, none⟩), .int .i64 k] [.blk b (.cells #[.map (some r), .pointer (some ⟨bj, 0, none⟩), .func (.func 9) #[] #[]] 70 (0, 0)), (mo r m), .blk bj (.cells #[sv row] 27 (0, 0)), (ss 1 row)] (Row × N4 × Int × Bool) (fun zx => .tuple #[]) (fun zx => [.blk b (.cells #[.map (some r), .pointer (some ⟨bj, 0, none⟩), .func (.func 9) #[] #[]] 70 (0, 0)), (mo r m), .blk bj (.cells #[sv zx.1] 27 (0, 0)), (ss 1 zx.1), .blk zx.2.1.1 (.cells #[.bool zx.2.2.2] 4 (0, 0)), .blk zx.2.1.2.1 (.cells #[.int .i64 zx.2.2.1] 3 (0, 0)), .blk zx.2.1.2.2.1 (.cells #[.pointer (some ⟨b, 0, none⟩)] 28 (0, 0)), .blk zx.2.1.2.2.2 (.cells #[.int .i64 k] 3 (0, 0))]) (fun zx => (vals zx.1 = vals row ++ [(Try.ent70 b m (Value.int .i64 k)).fn zx.2.1] ∧ zx.2.2.2 = (mget m (Value.int .i64 k)).isSome ∧ (Value.int .i64) zx.2.2.1 = (mget m (Value.int .i64 k)).getD (.int .i64 0))) := by
  refine call_of (c := bodyOf Try.f35) (n := 31) (fn := Try.f35) Try.mixed Try.func35 (by kernel_rfl) (by kernel_rfl) (by kernel_rfl) 2000 _ [] [0, 1, 2, 3, 30, 31, 32, 33] rfl rfl (Eq.mpr (stage_note_raw70_vc b bj r row m k) ?_)
  intro b1
  intro b2
  refine ⟨rfl, rfl, rfl, rfl, rfl, rfl, xlook Try.kl70 hk ⟨_, rfl⟩, wlook Try.kl70 hk _, ?_⟩
  intro x3
  intro h1
  have hx := h1
  intro b4
  intro b5
  refine ⟨rfl, rfl, rfl, rfl, ?_⟩
  refine ⟨rfl, rfl, rfl, rfl, rfl, rfl, rfl, rfl, rfl, rfl, ?_⟩
  intro b6
  refine ⟨xappendR Try.sl25 25 row (by rw [dg_len]; omega) b6 1 (Value.func (.func 50) #[] #[.pointer (some ⟨b5, 0, none⟩), .pointer (some ⟨b4, 0, none⟩), .pointer (some ⟨b1, 0, none⟩), .pointer (some ⟨b2, 0, none⟩)]) rfl, wit_app _, ?_⟩
  intro x7
  intro h2
  rw [rvals_eq] at h2
  have ha := h2
  refine ⟨xputv (b := bj) (cs := #[sv row]) (ty := 27) (te := 25) (fun w => by kernel_rfl) 0 (sv x7) (cells_sv _) (one_sv _) (by show 0 < 1; decide), ⟨(), trivial⟩, ?_⟩
  intro _
  intro _
  exact ⟨(x7, (b5, b4, b1, b2), x3), ⟨ha, hx.2.1, hx.2.2⟩, rfl, rfl, rfl, rfl, rfl, rfl, rfl, rfl, rfl, trivial⟩

def stage_note70_C : List Value → List Slot → Ctr := fun vs hs => ⟨List Ent, fun zx => .tuple #[], fun zx => [.blk (vblk (varg vs 1)) (.cells #[.map (some (snum (sarg hs 1) 0)), .pointer (some ⟨(vblk (scell (sarg hs 0) 1)), 0, none⟩), .func (.func 9) #[] #[]] 70 (0, 0)), (mo (snum (sarg hs 1) 0) (skv (sarg hs 1))), (jS Try.jk (vblk (scell (sarg hs 0) 1)) zx)], fun zx => zx = (sents (sarg hs 2)) ++ [(Try.ent70 (vblk (varg vs 1)) (skv (sarg hs 1)) (varg vs 2))]⟩
theorem stage_note70 (b : Nat) (bj : Nat) (r : Nat) (m : KV) (L : List Ent) (k : Int) (hk : KOK Try.mk70 m) (hl : L.length ≤ 1073741824) : CallT Try.prog 35 #[.pointer (some ⟨b, 0, none⟩), .int .i64 k] [.blk b (.cells #[.map (some r), .pointer (some ⟨bj, 0, none⟩), .func (.func 9) #[] #[]] 70 (0, 0)), (mo r m), (jS Try.jk bj L)] (List Ent) (fun zx => .tuple #[]) (fun zx => [.blk b (.cells #[.map (some r), .pointer (some ⟨bj, 0, none⟩), .func (.func 9) #[] #[]] 70 (0, 0)), (mo r m), (jS Try.jk bj zx)]) (fun zx => (zx = L ++ [(Try.ent70 b m (Value.int .i64 k))])) := by
  have c := jS_note (K := Try.jk) (bj := bj) (L := L) (vv := Value.int .i64) (e := (Try.ent70 b m (Value.int .i64 k))) (mk := fun _ => default_ent) (enterOK (c := bodyOf Try.f35) Try.func35 (by kernel_rfl) (by kernel_rfl)) rfl (fun row hr => stage_note_raw70 b bj r row m k hk (by omega))
  exact c.exists fun _ _ => ⟨_, rfl, rfl, Imp.refl _⟩

set_option maxRecDepth 100000 in
theorem stage_Set_raw70_vc (b : Nat) (bj : Nat) (r : Nat) (m : KV) (L : List Ent) (k : Int) (v : Int) : codeW Try.prog 15 none 2000 none (bodyOf Try.f17) (.reg [.sem [], .sem [], .callw [0, 1, 2] [0, 1, 2] stage_note70_C] (.reg [.sem [], .sem [], .sem [], .sem [.rd 0], .sem [], .sem [], .specw [1] [1] F_upd] (.done)))
    (init #[.pointer (some ⟨b, 0, none⟩), .int .i64 k, .int .i64 v] [.blk b (.cells #[.map (some r), .pointer (some ⟨bj, 0, none⟩), .func (.func 9) #[] #[]] 70 (0, 0)), (mo r m), (jS Try.jk bj L)]) (finW Try.prog Try.f17 [] [0, 1, 2] (X := KV × List Ent) (fun zx => .tuple #[]) (fun zx => [.blk b (.cells #[.map (some r), .pointer (some ⟨bj, 0, none⟩), .func (.func 9) #[] #[]] 70 (0, 0)), (mo r zx.1), (jS Try.jk bj zx.2)]) (fun zx => (zx.1 = mset m (Value.int .i64 k) (Value.int .i64 v) ∧ zx.2 = L ++ [(Try.ent70 b m (Value.int .i64 k))]))) =
    ((CallT Try.prog 35 #[.pointer (some ⟨b, 0, none⟩), .int .i64 k] [.blk b (.cells #[.map (some r), .pointer (some ⟨bj, 0, none⟩), .func (.func 9) #[] #[]] 70 (0, 0)), (mo r m), (jS Try.jk bj L)] (List Ent) (fun zx => .tuple #[]) (fun zx => [.blk b (.cells #[.map (some r), .pointer (some ⟨bj, 0, none⟩), .func (.func 9) #[] #[]] 70 (0, 0)), (mo r m), (jS Try.jk bj zx)]) (fun zx => zx = L ++ [(Try.ent70 b m (Value.int .i64 k))])) ∧ (∃ zx : List Ent, (fun zx => zx = L ++ [(Try.ent70 b m (Value.int .i64 k))]) zx) ∧ ∀ x1 : List Ent, (x1 = L ++ [(Try.ent70 b m (Value.int .i64 k))]) → b = b ∧ (none : Option Nat) = none ∧ (OpT Try.prog (do Instr.mapUpdate 68 (.map (some r)) (.int .i64 k) (.int .i64 v); pure .skip) [(mo r m)] KV (fun zx => .tuple #[]) (fun zx => [(mo r zx)]) (fun zx => zx = mset m (Value.int .i64 k) (Value.int .i64 v))) ∧ (∃ zx : KV, (fun zx => zx = mset m (Value.int .i64 k) (Value.int .i64 v)) zx) ∧ ∀ x2 : KV, (x2 = mset m (Value.int .i64 k) (Value.int .i64 v)) → ∃ zx : KV × List Ent, (zx.1 = mset m (Value.int .i64 k) (Value.int .i64 v) ∧ zx.2 = L ++ [(Try.ent70 b m (Value.int .i64 k))]) ∧ Value.tuple #[] = .tuple #[] ∧ Slot.blk b (.cells #[.map (some r), .pointer (some ⟨bj, 0, none⟩), .func (.func 9) #[] #[]] 70 (0, 0)) = .blk b (.cells #[.map (some r), .pointer (some ⟨bj, 0, none⟩), .func (.func 9) #[] #[]] 70 (0, 0)) ∧ (mo r x2) = (mo r zx.1) ∧ (jS Try.jk bj x1) = (jS Try.jk bj zx.2) ∧ True) := by kernel_rfl
set_option maxRecDepth 100000 in
theorem stage_Set_raw70 (b : Nat) (bj : Nat) (r : Nat) (m : KV) (L : List Ent) (k : Int) (v : Int) (hk : KOK Try.mk70 m) (hl : L.length ≤ 1073741824) : CallT Try.prog 17 #[.pointer (some ⟨b, 0, none⟩), .int .i64 k, .int .i64 v] [.blk b (.cells #[.map (some r), .pointer (some ⟨bj, 0, none⟩), .func (.func 9) #[] #[]] 70 (0, 0)), (mo r m), (jS Try.jk bj L)] (KV × List Ent) (fun zx => .tuple #[]) (fun zx => [.blk b (.cells #[.map (some r), .pointer (some ⟨bj, 0, none⟩), .func (.func 9) #[] #[]] 70 (0, 0)), (mo r zx.1), (jS Try.jk bj zx.2)]) (fun zx => (zx.1 = mset m (Value.int .i64 k) (Value.int .i64 v) ∧ zx.2 = L ++ [(Try.ent70 b m (Value.int .i64 k))])) := by
  refine call_of (c := bodyOf Try.f17) (n := 15) (fn := Try.f17) Try.mixed Try.func17 (by kernel_rfl) (by kernel_rfl) (by kernel_rfl) 2000 _ [] [0, 1, 2] rfl rfl (Eq.mpr (stage_Set_raw70_vc b bj r m L k v) ?_)
  refine ⟨stage_note70 b bj r m L k (hk) (hl), ⟨_, rfl⟩, ?_⟩
  intro x1
  intro h1
  have hn := h1
  refine ⟨rfl, rfl, xupd Try.kl70 hk ⟨_, rfl⟩ (Value.int .i64 v), ⟨_, rfl⟩, ?_⟩
  intro x2
  intro h2
  have hs := h2
  exact ⟨(_, _), ⟨hs, hn⟩, rfl, rfl, rfl, rfl, trivial⟩

def stage_Set70_C : List Value → List Slot → Ctr := fun vs hs => ⟨KV × List Ent, fun zx => .tuple #[], fun zx => [(mS Try.mk70 (vblk (varg vs 1)) (snum (sarg hs 0) 1) zx.1), (jS Try.jk (snum (sarg hs 0) 1) zx.2)], fun zx => zx.1 = mset (skv (sarg hs 0)) (varg vs 2) (varg vs 3) ∧ zx.2 = (sents (sarg hs 1)) ++ [(Try.ent70 (vblk (varg vs 1)) (skv (sarg hs 0)) (varg vs 2))]⟩
theorem stage_Set70 (b : Nat) (bj : Nat) (m : KV) (L : List Ent) (k : Int) (v : Int) (hv : (Lit.int .i64 v).wf = true) (hl : L.length ≤ 1073741824) : CallT Try.prog 17 #[.pointer (some ⟨b, 0, none⟩), .int .i64 k, .int .i64 v] [(mS Try.mk70 b bj m), (jS Try.jk bj L)] (KV × List Ent) (fun zx => .tuple #[]) (fun zx => [(mS Try.mk70 b bj zx.1), (jS Try.jk bj zx.2)]) (fun zx => (zx.1 = mset m (Value.int .i64 k) (Value.int .i64 v) ∧ zx.2 = L ++ [(Try.ent70 b m (Value.int .i64 k))])) := by
  refine mS_call (m' := fun x : KV × List Ent => x.1) (us := fun x => [(jS Try.jk bj x.2)]) (enterOK (c := bodyOf Try.f17) Try.func17 (by kernel_rfl) (by kernel_rfl)) (fun r hk => ?_) (fun x hx h => ?_)
  · exact (stage_Set_raw70 b bj r m L k v hk hl)
  · exact hx.1 ▸ h.set (⟨_, rfl⟩) (⟨_, hv, rfl⟩)

set_option maxRecDepth 100000 in
theorem stage_Drop_raw70_vc (b : Nat) (bj : Nat) (r : Nat) (m : KV) (L : List Ent) (k : Int) : codeW Try.prog 26 none 2000 none (bodyOf Try.f19) (.reg [.sem []] (.reg [.sem [], .sem [], .sem [], .sem [.rd 0], .sem [], .specr [1] (F_look (V := Int) (Value.int .i64) (fun n => (Lit.int .i64 n).wf = true) (.int .i64 0)), .sem [], .sem [], .sem [], .sem [], .sem []] (.reg [.sem []] (.cond (.reg [.sem [], .sem [], .callw [0, 1, 2] [0, 1, 2] stage_note70_C] (.reg [.sem [], .sem [], .sem [], .sem [.rd 0], .sem [], .specw [1] [1] F_del] (.reg [.gen [] (Sx.one (.bool true)), .sem []] (.done)))) (.reg [.gen [] (Sx.one (.bool false)), .sem []] (.done))))))
    (init #[.pointer (some ⟨b, 0, none⟩), .int .i64 k] [.blk b (.cells #[.map (some r), .pointer (some ⟨bj, 0, none⟩), .func (.func 9) #[] #[]] 70 (0, 0)), (mo r m), (jS Try.jk bj L)]) (finW Try.prog Try.f19 [] [0, 1, 2] (X := KV × List Ent × Bool) (fun zx => .bool zx.2.2) (fun zx => [.blk b (.cells #[.map (some r), .pointer (some ⟨bj, 0, none⟩), .func (.func 9) #[] #[]] 70 (0, 0)), (mo r zx.1), (jS Try.jk bj zx.2.1)]) (fun zx => (zx.2.2 = (mget m (Value.int .i64 k)).isSome ∧ zx.1 = mdel m (Value.int .i64 k) ∧ zx.2.1 = if (mget m (Value.int .i64 k)).isSome then L ++ [(Try.ent70 b m (Value.int .i64 k))] else L))) =
    (b = b ∧ (none : Option Nat) = none ∧ (OpT Try.prog (do pure (.value (← Instr.lookup 68 (.map (some r)) (.int .i64 k) true))) [(mo r m)] (Int × Bool) (fun zx => .tuple #[.int .i64 zx.1, .bool zx.2]) (fun _ => [(mo r m)]) (fun zx => (fun n => (Lit.int .i64 n).wf = true) zx.1 ∧ zx.2 = (mget m (Value.int .i64 k)).isSome ∧ (Value.int .i64) zx.1 = (mget m (Value.int .i64 k)).getD (.int .i64 0))) ∧ (∃ zx : Int × Bool, (fun zx => (fun n => (Lit.int .i64 n).wf = true) zx.1 ∧ zx.2 = (mget m (Value.int .i64 k)).isSome ∧ (Value.int .i64) zx.1 = (mget m (Value.int .i64 k)).getD (.int .i64 0)) zx) ∧ ∀ x1 : Int × Bool, ((fun n => (Lit.int .i64 n).wf = true) x1.1 ∧ x1.2 = (mget m (Value.int .i64 k)).isSome ∧ (Value.int .i64) x1.1 = (mget m (Value.int .i64 k)).getD (.int .i64 0)) → (x1.2 = true → (CallT Try.prog 35 #[.pointer (some ⟨b, 0, none⟩), .int .i64 k] [.blk b (.cells #[.map (some r), .pointer (some ⟨bj, 0, none⟩), .func (.func 9) #[] #[]] 70 (0, 0)), (mo r m), (jS Try.jk bj L)] (List Ent) (fun zx => .tuple #[]) (fun zx => [.blk b (.cells #[.map (some r), .pointer (some ⟨bj, 0, none⟩), .func (.func 9) #[] #[]] 70 (0, 0)), (mo r m), (jS Try.jk bj zx)]) (fun zx => zx = L ++ [(Try.ent70 b m (Value.int .i64 k))])) ∧ (∃ zx : List Ent, (fun zx => zx = L ++ [(Try.ent70 b m (Value.int .i64 k))]) zx) ∧ ∀ x2 : List Ent, (x2 = L ++ [(Try.ent70 b m (Value.int .i64 k))]) → b = b ∧ (none : Option Nat) = none ∧ (OpT Try.prog (do pure (.value (← Builtin.delete_ #[68, 3] 0 #[.map (some r), .int .i64 k]))) [(mo r m)] KV (fun zx => .tuple #[]) (fun zx => [(mo r zx)]) (fun zx => zx = mdel m (Value.int .i64 k))) ∧ (∃ zx : KV, (fun zx => zx = mdel m (Value.int .i64 k)) zx) ∧ ∀ x3 : KV, (x3 = mdel m (Value.int .i64 k)) → (∃ _ : Unit, True ∧ Value.bool x1.2 = .bool true) ∧ ∀ _ : Unit, (True) → ∃ zx : KV × List Ent × Bool, (zx.2.2 = (mget m (Value.int .i64 k)).isSome ∧ zx.1 = mdel m (Value.int .i64 k) ∧ zx.2.1 = if (mget m (Value.int .i64 k)).isSome then L ++ [(Try.ent70 b m (Value.int .i64 k))] else L) ∧ Value.bool true = .bool zx.2.2 ∧ Slot.blk b (.cells #[.map (some r), .pointer (some ⟨bj, 0, none⟩), .func (.func 9) #[] #[]] 70 (0, 0)) = .blk b (.cells #[.map (some r), .pointer (some ⟨bj, 0, none⟩), .func (.func 9) #[] #[]] 70 (0, 0)) ∧ (mo r x3) = (mo r zx.1) ∧ (jS Try.jk bj x2) = (jS Try.jk bj zx.2.1) ∧ True) ∧ (x1.2 = false → (∃ _ : Unit, True ∧ Value.bool x1.2 = .bool false) ∧ ∀ _ : Unit, (True) → ∃ zx : KV × List Ent × Bool, (zx.2.2 = (mget m (Value.int .i64 k)).isSome ∧ zx.1 = mdel m (Value.int .i64 k) ∧ zx.2.1 = if (mget m (Value.int .i64 k)).isSome then L ++ [(Try.ent70 b m (Value.int .i64 k))] else L) ∧ Value.bool false = .bool zx.2.2 ∧ Slot.blk b (.cells #[.map (some r), .pointer (some ⟨bj, 0, none⟩), .func (.func 9) #[] #[]] 70 (0, 0)) = .blk b (.cells #[.map (some r), .pointer (some ⟨bj, 0, none⟩), .func (.func 9) #[] #[]] 70 (0, 0)) ∧ (mo r m) = (mo r zx.1) ∧ (jS Try.jk bj L) = (jS Try.jk bj zx.2.1) ∧ True)) := by kernel_rfl
set_option maxRecDepth 100000 in
theorem stage_Drop_raw70 (b : Nat) (bj : Nat) (r : Nat) (m : KV) (L : List Ent) (k : Int) (hk : KOK Try.mk70 m) (hl : L.length ≤ 1073741824) : CallT Try.prog 19 #[.pointer (some ⟨b, 0, none⟩), .int .i64 k] [.blk b (.cells #[.map (some r), .pointer (some ⟨bj, 0, none⟩), .func (.func 9) #[] #[]] 70 (0, 0)), (mo r m), (jS Try.jk bj L)] (KV × List Ent × Bool) (fun zx => .bool zx.2.2) (fun zx => [.blk b (.cells #[.map (some r), .pointer (some ⟨bj, 0, none⟩), .func (.func 9) #[] #[]] 70 (0, 0)), (mo r zx.1), (jS Try.jk bj zx.2.1)]) (fun zx => (zx.2.2 = (mget m (Value.int .i64 k)).isSome ∧ zx.1 = mdel m (Value.int .i64 k) ∧ zx.2.1 = if (mget m (Value.int .i64 k)).isSome then L ++ [(Try.ent70 b m (Value.int .i64 k))] else L)) := by
  refine call_of (c := bodyOf Try.f19) (n := 26) (fn := Try.f19) Try.mixed Try.func19 (by kernel_rfl) (by kernel_rfl) (by kernel_rfl) 2000 _ [] [0, 1, 2] rfl rfl (Eq.mpr (stage_Drop_raw70_vc b bj r m L k) ?_)
  refine ⟨rfl, rfl, xlook Try.kl70 hk ⟨_, rfl⟩, wlook Try.kl70 hk _, ?_⟩
  intro x1
  intro h1
  have hx := h1
  refine ⟨fun h2 => ?_, fun h2 => ?_⟩
  · refine ⟨stage_note70 b bj r m L k (hk) (hl), ⟨_, rfl⟩, ?_⟩
    intro x2
    intro h3
    have hn := h3
    refine ⟨rfl, rfl, xdel Try.kl70 0 3 hk ⟨_, rfl⟩, ⟨_, rfl⟩, ?_⟩
    intro x3
    intro h4
    have hd := h4
    refine ⟨⟨(), trivial, congrArg Value.bool h2⟩, ?_⟩
    intro _
    intro _
    have hi : (mget m (Value.int .i64 k)).isSome = true := by rw [← hx.2.1]; assumption
    exact ⟨(_, _, true), ⟨hi.symm, hd, by rw [if_pos hi]; exact hn⟩, rfl, rfl, rfl, rfl, trivial⟩
  · refine ⟨⟨(), trivial, congrArg Value.bool h2⟩, ?_⟩
    intro _
    intro _
    have hi : (mget m (Value.int .i64 k)).isSome = false := by rw [← hx.2.1]; assumption
    exact ⟨(m, L, false), ⟨hi.symm, (mdel_none (by simpa using hi)).symm, by rw [if_neg (by rw [hi]; decide)]⟩, rfl, rfl, rfl, rfl, trivial⟩

def stage_Drop70_C : List Value → List Slot → Ctr := fun vs hs => ⟨KV × List Ent × Bool, fun zx => .bool zx.2.2, fun zx => [(mS Try.mk70 (vblk (varg vs 1)) (snum (sarg hs 0) 1) zx.1), (jS Try.jk (snum (sarg hs 0) 1) zx.2.1)], fun zx => zx.2.2 = (mget (skv (sarg hs 0)) (varg vs 2)).isSome ∧ zx.1 = mdel (skv (sarg hs 0)) (varg vs 2) ∧ zx.2.1 = if (mget (skv (sarg hs 0)) (varg vs 2)).isSome then (sents (sarg hs 1)) ++ [(Try.ent70 (vblk (varg vs 1)) (skv (sarg hs 0)) (varg vs 2))] else (sents (sarg hs 1))⟩
theorem stage_Drop70 (b : Nat) (bj : Nat) (m : KV) (L : List Ent) (k : Int) (hl : L.length ≤ 1073741824) : CallT Try.prog 19 #[.pointer (some ⟨b, 0, none⟩), .int .i64 k] [(mS Try.mk70 b bj m), (jS Try.jk bj L)] (KV × List Ent × Bool) (fun zx => .bool zx.2.2) (fun zx => [(mS Try.mk70 b bj zx.1), (jS Try.jk bj zx.2.1)]) (fun zx => (zx.2.2 = (mget m (Value.int .i64 k)).isSome ∧ zx.1 = mdel m (Value.int .i64 k) ∧ zx.2.1 = if (mget m (Value.int .i64 k)).isSome then L ++ [(Try.ent70 b m (Value.int .i64 k))] else L)) := by
  refine mS_call (m' := fun x : KV × List Ent × Bool => x.1) (us := fun x => [(jS Try.jk bj x.2.1)]) (enterOK (c := bodyOf Try.f19) Try.func19 (by kernel_rfl) (by kernel_rfl)) (fun r hk => ?_) (fun x hx h => ?_)
  · exact stage_Drop_raw70 b bj r m L k hk hl
  · exact hx.2.1 ▸ h.del _

set_option maxRecDepth 100000 in
theorem stage_Len_raw70_vc (b : Nat) (bj : Nat) (r : Nat) (m : KV) : codeW Try.prog 8 none 2000 none (bodyOf Try.f16) (.reg [.sem []] (.reg [.sem [], .sem [], .sem [], .sem [.rd 0], .specr [1] F_mlen, .sem []] (.done)))
    (init #[.pointer (some ⟨b, 0, none⟩)] [.blk b (.cells #[.map (some r), .pointer (some ⟨bj, 0, none⟩), .func (.func 9) #[] #[]] 70 (0, 0)), (mo r m)]) (finW Try.prog Try.f16 [] [0, 1] (X := Int) (fun zx => .int .i64 zx) (fun zx => [.blk b (.cells #[.map (some r), .pointer (some ⟨bj, 0, none⟩), .func (.func 9) #[] #[]] 70 (0, 0)), (mo r m)]) (fun zx => (zx = ((m.length : Nat) : Int)))) =
    (b = b ∧ (none : Option Nat) = none ∧ (OpT Try.prog (do pure (.value (← Builtin.len_ #[68] 3 #[.map (some r)]))) [(mo r m)] Int (fun zx => .int .i64 zx) (fun _ => [(mo r m)]) (fun zx => zx = (((m).length : Nat) : Int))) ∧ (∃ zx : Int, (fun zx => zx = (((m).length : Nat) : Int)) zx) ∧ ∀ x1 : Int, (x1 = (((m).length : Nat) : Int)) → ∃ zx : Int, (zx = ((m.length : Nat) : Int)) ∧ Value.int .i64 x1 = .int .i64 zx ∧ Slot.blk b (.cells #[.map (some r), .pointer (some ⟨bj, 0, none⟩), .func (.func 9) #[] #[]] 70 (0, 0)) = .blk b (.cells #[.map (some r), .pointer (some ⟨bj, 0, none⟩), .func (.func 9) #[] #[]] 70 (0, 0)) ∧ (mo r m) = (mo r m) ∧ True) := by kernel_rfl
set_option maxRecDepth 100000 in
theorem stage_Len_raw70 (b : Nat) (bj : Nat) (r : Nat) (m : KV)  : CallT Try.prog 16 #[.pointer (some ⟨b, 0, none⟩)] [.blk b (.cells #[.map (some r), .pointer (some ⟨bj, 0, none⟩), .func (.func 9) #[] #[]] 70 (0, 0)), (mo r m)] Int (fun zx => .int .i64 zx) (fun zx => [.blk b (.cells #[.map (some r), .pointer (some ⟨bj, 0, none⟩), .func (.func 9) #[] #[]] 70 (0, 0)), (mo r m)]) (fun zx => (zx = ((m.length : Nat) : Int))) := by
  refine call_of (c := bodyOf Try.f16) (n := 8) (fn := Try.f16) Try.mixed Try.func16 (by kernel_rfl) (by kernel_rfl) (by kernel_rfl) 2000 _ [] [0, 1] rfl rfl (Eq.mpr (stage_Len_raw70_vc b bj r m) ?_)
  refine ⟨rfl, rfl, xmlen' Try.kl70.tm.und 3, ⟨_, rfl⟩, ?_⟩
  intro x1
  intro h1
  have hx := h1
  exact ⟨_, hx, rfl, rfl, rfl, trivial⟩

def stage_Len70_C : List Value → List Slot → Ctr := fun vs hs => ⟨Int, fun zx => .int .i64 zx, fun _ => hs, fun zx => zx = (((skv (sarg hs 0)).length : Nat) : Int)⟩
theorem stage_Len70 (b : Nat) (bj : Nat) (m : KV)  : CallT Try.prog 16 #[.pointer (some ⟨b, 0, none⟩)] [(mS Try.mk70 b bj m)] Int (fun zx => .int .i64 zx) (fun zx => [(mS Try.mk70 b bj m)]) (fun zx => (zx = ((m.length : Nat) : Int))) := by
  refine (mS_call (m' := fun _ => m) (us := fun _ => []) (enterOK (c := bodyOf Try.f16) Try.func16 (by kernel_rfl) (by kernel_rfl)) (fun r hk => ?_) (fun _ _ h => h))
  exact stage_Len_raw70 b bj r m

set_option maxRecDepth 100000 in
theorem keys_it70_vc (l : Nat) (rec : Loop) (r : Nat) (c : Nat) (m : KV) (T : List Value → Slot) : codeW Try.prog 14 none 2000 none (bodyOf Try.f53) (.reg [.sem [.rd 1], .specw [2] [2] (fun _ _ => ⟨Nat, ptr, fun it => [mit r it m []], fun _ => True⟩)] (.inv (List Value × Nat) (fun zx => [(0, .func (.yield l) #[] #[]), (1, .pointer (some ⟨c, 0, none⟩)), (5, .pointer (some ⟨zx.2, 0, none⟩))]) (fun zx => [(0, (loopB l rec)), (1, .blk c (.cells #[.map (some r)] 68 (0, 0))), (2, (mit r zx.2 m zx.1)), (3, (T zx.1))]) (fun zx => zx.1.Nodup ∧ ∀ k ∈ zx.1, k ∈ m.map (·.1)) (fun zx => m.length - zx.1.length) (fun x2 => .reg [.specw [2] [2] (fun _ _ => ⟨Option Value, nxv m, fun x => [mitE r x2.2 m x2.1 x], nxP m x2.1⟩), .eq (fun vs => .bool (cb (cell (varg vs 0) 0)))] (.cond (.reg [.specr [2] (fun _ hs => ⟨Unit, fun _ => .tuple #[slast (sarg hs 0), (mget m (slast (sarg hs 0))).getD undef], fun _ => hs, fun _ => True⟩), .sem [], .sem []] (.reg [.sem [], .sem [], .callw [0, 3] [0, 3] (fun vs _ => ⟨Unit, fun _ => .bool true, fun _ => [loopB l rec, T (x2.1 ++ [varg vs 1])], fun _ => True⟩), .sem []] (.condF (.done)))) (.done)))))
    (init #[.func (.yield l) #[] #[], .pointer (some ⟨c, 0, none⟩)] [(loopB l rec), .blk c (.cells #[.map (some r)] 68 (0, 0)), (mo r m), (T [])]) (finW Try.prog Try.f53 [] [0, 1, 2, 3] (X := List Value) (fun zx => .tuple #[]) (fun zx => [(loopB l rec), .blk c (.cells #[.map (some r)] 68 (0, 0)), (mo r m), (T zx)]) (fun zx => (zx.Perm (m.map (·.1))))) =
    (c = c ∧ (none : Option Nat) = none ∧ (OpT Try.prog (do pure (.value (← Instr.range 68 (.map (some r))))) [(mo r m)] Nat (fun zx => .pointer (some ⟨zx, 0, none⟩)) (fun zx => [(mit r zx m ([]))]) (fun zx => True)) ∧ (∃ zx : Nat, (fun zx => True) zx) ∧ ∀ x1 : Nat, (True) → (∃ zx : List Value × Nat, (zx.1.Nodup ∧ ∀ k ∈ zx.1, k ∈ m.map (·.1)) ∧ Value.func (.yield l) #[] #[] = .func (.yield l) #[] #[] ∧ Value.pointer (some ⟨c, 0, none⟩) = .pointer (some ⟨c, 0, none⟩) ∧ Value.pointer (some ⟨x1, 0, none⟩) = .pointer (some ⟨zx.2, 0, none⟩) ∧ (loopB l rec) = (loopB l rec) ∧ Slot.blk c (.cells #[.map (some r)] 68 (0, 0)) = .blk c (.cells #[.map (some r)] 68 (0, 0)) ∧ (mit r x1 m ([])) = (mit r zx.2 m zx.1) ∧ (T []) = (T zx.1) ∧ True) ∧ ∀ x2 : List Value × Nat, ∀ jx2 : Nat → Value, (x2.1.Nodup ∧ ∀ k ∈ x2.1, k ∈ m.map (·.1)) → (OpT Try.prog (do pure (.value (← Instr.next (.pointer (some ⟨x2.2, 0, none⟩)) false 0))) [(mit r x2.2 m x2.1)] (Option Value) (fun zx => (nxv m zx)) (fun zx => [(mitE r x2.2 m x2.1 zx)]) (fun zx => nxP m x2.1 zx)) ∧ (∃ zx : Option Value, (fun zx => nxP m x2.1 zx) zx) ∧ ∀ x3 : Option Value, (nxP m x2.1 x3) → (PureRun Try.prog (do pure (.value (← Instr.extract (nxv m x3) 0))) (.bool (cb (cell (nxv m x3) 0)))) ∧ ((cb (cell (nxv m x3) 0)) = true → (OpT Try.prog (do pure (.value (← Instr.entry (.pointer (some ⟨x2.2, 0, none⟩))))) [(mitE r x2.2 m x2.1 x3)] Unit (fun _ => .tuple #[(slast (mitE r x2.2 m x2.1 x3)), ((mget m (slast (mitE r x2.2 m x2.1 x3))).getD undef)]) (fun _ => [(mitE r x2.2 m x2.1 x3)]) (fun _ => True)) ∧ (∃ zx : Unit, (fun _ => True) zx) ∧ ∀ _ : Unit, (True) → (RoundT Try.prog l #[(slast (mitE r x2.2 m x2.1 x3))] [(loopB l rec), (T x2.1)] Unit (fun _ => .bool true) (fun _ => [(loopB l rec), (T (x2.1 ++ [(slast (mitE r x2.2 m x2.1 x3))]))]) (fun _ => True)) ∧ (∃ zx : Unit, (fun _ => True) zx) ∧ ∀ _ : Unit, (True) → (false = false) ∧ ∃ zy : List Value × Nat, (zy.1.Nodup ∧ ∀ k ∈ zy.1, k ∈ m.map (·.1)) ∧ m.length - zy.1.length < m.length - x2.1.length ∧ Value.func (.yield l) #[] #[] = .func (.yield l) #[] #[] ∧ Value.pointer (some ⟨c, 0, none⟩) = .pointer (some ⟨c, 0, none⟩) ∧ Value.pointer (some ⟨x2.2, 0, none⟩) = .pointer (some ⟨zy.2, 0, none⟩) ∧ (loopB l rec) = (loopB l rec) ∧ Slot.blk c (.cells #[.map (some r)] 68 (0, 0)) = .blk c (.cells #[.map (some r)] 68 (0, 0)) ∧ (mitE r x2.2 m x2.1 x3) = (mit r zy.2 m zy.1) ∧ (T (x2.1 ++ [(slast (mitE r x2.2 m x2.1 x3))])) = (T zy.1) ∧ True) ∧ ((cb (cell (nxv m x3) 0)) = false → ∃ zx : List Value, (zx.Perm (m.map (·.1))) ∧ Value.tuple #[] = .tuple #[] ∧ (loopB l rec) = (loopB l rec) ∧ Slot.blk c (.cells #[.map (some r)] 68 (0, 0)) = .blk c (.cells #[.map (some r)] 68 (0, 0)) ∧ (mitE r x2.2 m x2.1 x3) = (mo r m) ∧ (T x2.1) = (T zx) ∧ True)) := by kernel_rfl
set_option maxRecDepth 100000 in
theorem keys_it70 (l : Nat) (rec : Loop) (r : Nat) (c : Nat) (m : KV) (T : List Value → Slot) (hm : MOK m) (hT : ∀ (ks : List Value) (k : Value), (ks.Nodup ∧ ∀ j ∈ ks, j ∈ m.map (·.1)) → k ∉ ks → k ∈ m.map (·.1) → RoundT Try.prog l #[k] [loopB l rec, T ks] Unit (fun _ => .bool true) (fun _ => [loopB l rec, T (ks ++ [k])]) (fun _ => True)) : CallT Try.prog 53 #[.func (.yield l) #[] #[], .pointer (some ⟨c, 0, none⟩)] [(loopB l rec), .blk c (.cells #[.map (some r)] 68 (0, 0)), (mo r m), (T [])] (List Value) (fun zx => .tuple #[]) (fun zx => [(loopB l rec), .blk c (.cells #[.map (some r)] 68 (0, 0)), (mo r m), (T zx)]) (fun zx => (zx.Perm (m.map (·.1)))) := by
  refine call_of (c := bodyOf Try.f53) (n := 14) (fn := Try.f53) Try.mixed Try.func53 (by kernel_rfl) (by kernel_rfl) (by kernel_rfl) 2000 _ [] [0, 1, 2, 3] rfl rfl (Eq.mpr (keys_it70_vc l rec r c m T) ?_)
  refine ⟨rfl, rfl, xrange (kt := 3) (vt := 3) (by kernel_rfl), ⟨0, trivial⟩, ?_⟩
  intro x1
  intro h1
  refine ⟨?_, fun x2 jx2 h2 => ?_⟩
  · exact ⟨([], x1), ⟨List.nodup_nil, fun k h => by cases h⟩, rfl, rfl, rfl, rfl, rfl, rfl, rfl, trivial⟩
  · have hN := h2
    refine ⟨xnext 0 hm, wit_next hm hN, ?_⟩
    intro x3
    intro h3
    have hX := h3
    refine ⟨xfirst' _ _, ?_⟩
    refine ⟨fun h4 => ?_, fun h4 => ?_⟩
    · refine ⟨xentry' hm (nx_some h4), ⟨(), trivial⟩, ?_⟩
      intro _
      intro _
      refine ⟨keys_yield hX (nx_some h4) (fun k => hT x2.1 k hN), ⟨(), trivial⟩, ?_⟩
      intro _
      intro _
      refine ⟨rfl, ?_⟩
      have hS := nx_some h4
      have hP := nxP_some hX hS
      rw [slast_some hS, mitE_some hS]
      exact ⟨(x2.1 ++ [_], x2.2), keys_step hN hP, keys_mu hN hP, rfl, rfl, rfl, rfl, rfl, rfl, rfl, trivial⟩
    · rw [mitE_none (nx_none h4)]
      exact ⟨x2.1, nxP_none hX (nx_none h4), rfl, rfl, rfl, rfl, rfl, trivial⟩

theorem Try.sl41 : SlT Try.prog 41 3 (.int .i64 0) := SlT.of (by kernel_rfl) (by kernel_rfl) (by kernel_rfl) (by kernel_rfl) rfl
noncomputable def Try.rfA62 : Code := ((rfs (bodyOf Try.f62)).getD 0 (.skip, .skip)).1
noncomputable def Try.rfB62 : Code := ((rfs (bodyOf Try.f62)).getD 0 (.skip, .skip)).2
set_option maxRecDepth 100000 in
theorem keys_round70_vc (l D : Nat) (fn : FuncId) (tmps : Array Value) (b : Nat) (y : Row) (n : Int) (fr : Nat → Value) : roundW Try.prog 13 l 400 Try.rfA62 Try.rfB62 (.reg [.sem []] (.reg [.sem [.rd 1], .sem [], .sem [.nw 3], .specw [2, 3] [2, 3] (F_appN 3), .specw [1] [1] F_put] (.done))) (recOf fn tmps #[7] Try.rfA62 Try.rfB62 D) ⟨putFr (upd fr 2 (Value.pointer (some ⟨b, 0, none⟩))) [(7, .int .i64 n)], ofList (loopB l (recOf fn tmps #[7] Try.rfA62 Try.rfB62 D) :: [.blk b (.cells #[sv y] 41 (0, 0)), (ss 3 y)]), []⟩ [1, 2] (X := Row) (fun zx : Row => [.blk b (.cells #[sv zx] 41 (0, 0)), (ss 3 zx)]) (fun zx : Row => vals zx = vals y ++ [.int .i64 n]) =
    ((loopB l (recOf fn tmps #[7] Try.rfA62 Try.rfB62 D)) = loopB l (recOf fn tmps #[7] Try.rfA62 Try.rfB62 D) ∧ b = b ∧ (none : Option Nat) = none ∧ ∀ b1 : Nat, (OpT Try.prog (do pure (.value (← Builtin.append_ #[41, 41] 41 #[sv y, .slice (some ⟨b1, 0, none⟩) 1 1]))) [(ss 3 y), .blk b1 (.cells #[.int .i64 n] 3 (0, 0))] Row (fun zx => sv zx) (fun zx => [(ss 3 zx), .blk b1 (.cells #[.int .i64 n] 3 (0, 0))]) (fun zx => vals zx = rvals (sv y) (ss 3 y) ++ srcv (Value.slice (some ⟨b1, 0, none⟩) 1 1) (Slot.blk b1 (.cells #[.int .i64 n] 3 (0, 0))))) ∧ (∃ zx : Row, (fun zx => vals zx = rvals (sv y) (ss 3 y) ++ srcv (Value.slice (some ⟨b1, 0, none⟩) 1 1) (Slot.blk b1 (.cells #[.int .i64 n] 3 (0, 0)))) zx) ∧ ∀ x2 : Row, (vals x2 = rvals (sv y) (ss 3 y) ++ srcv (Value.slice (some ⟨b1, 0, none⟩) 1 1) (Slot.blk b1 (.cells #[.int .i64 n] 3 (0, 0)))) → (OpT Try.prog (do Instr.storeAt 41 (.pointer (some ⟨b, 0, none⟩)) (sv x2); pure .skip) [.blk b (.cells #[sv y] 41 (0, 0))] Unit (fun _ => .tuple #[]) (fun _ => [.blk b (.cells #[sv x2] 41 (0, 0))]) (fun _ => True)) ∧ (∃ zx : Unit, (fun _ => True) zx) ∧ ∀ _ : Unit, (True) → (loopB l { (recOf fn tmps #[7] Try.rfA62 Try.rfB62 D) with state := .busy }) = loopB l { (recOf fn tmps #[7] Try.rfA62 Try.rfB62 D) with state := .busy } ∧ ∃ zx : Row, (vals zx = vals y ++ [.int .i64 n]) ∧ Slot.blk b (.cells #[sv x2] 41 (0, 0)) = .blk b (.cells #[sv zx] 41 (0, 0)) ∧ (ss 3 x2) = (ss 3 zx) ∧ True) := by kernel_rfl
set_option maxRecDepth 100000 in
theorem keys_round70 (l D : Nat) (fn : FuncId) (tmps : Array Value) (b : Nat) (y : Row) (n : Int) (hz : tmps.size = 13) (t2 : tmps.getD 2 undef = Value.pointer (some ⟨b, 0, none⟩)) (hy : (vals y).length ≤ 1048576) : RoundT Try.prog l #[.int .i64 n] (loopB l (recOf fn tmps #[7] Try.rfA62 Try.rfB62 D) :: [.blk b (.cells #[sv y] 41 (0, 0)), (ss 3 y)]) Row (fun _ => .bool true) (fun zx : Row => loopB l (recOf fn tmps #[7] Try.rfA62 Try.rfB62 D) :: [.blk b (.cells #[sv zx] 41 (0, 0)), (ss 3 zx)]) (fun zx : Row => vals zx = vals y ++ [.int .i64 n]) := by
  refine round_of (n := 13) (fuel := 400) (fr := (upd (fun i => tmps.getD i undef) 2 (Value.pointer (some ⟨b, 0, none⟩)))) (Hs := [.blk b (.cells #[sv y] 41 (0, 0)), (ss 3 y)]) (us := (fun zx : Row => [.blk b (.cells #[sv zx] 41 (0, 0)), (ss 3 zx)])) Try.mixed hz (fun i => congrFun (upd_known (f := (fun i => tmps.getD i undef)) (t := 2) (v := Value.pointer (some ⟨b, 0, none⟩)) (t2)) i) rfl rfl _ [1, 2] rfl (Eq.mpr (keys_round70_vc l D fn tmps b y n (fun i => tmps.getD i undef)) ?_)
  refine ⟨rfl, ?_⟩
  refine ⟨rfl, rfl, ?_⟩
  intro b1
  refine ⟨xappNR Try.sl41 41 y (by omega) (Nat.le_of_ble_eq_true rfl) (by decide) rfl, wit_appN _, ?_⟩
  intro x2
  intro h1
  rw [rvals_eq] at h1
  replace h1 : vals x2 = vals y ++ [Value.int .i64 n] := h1
  have ha := h1
  refine ⟨xputv (b := b) (cs := #[sv y]) (ty := 41) (te := 41) (fun w => by kernel_rfl) 0 (sv x2) (cells_sv _) (one_sv _) (by show 0 < 1; decide), ⟨(), trivial⟩, ?_⟩
  intro _
  intro _
  exact ⟨rfl, x2, ha, rfl, rfl, trivial⟩

theorem key_int70 {m : KV} (hk : KOK Try.mk70 m) {k : Value} (h : k ∈ m.map (·.1)) : ∃ n : Int, k = .int .i64 n := by
  obtain ⟨x, hx, rfl⟩ := List.mem_map.1 h
  exact (hk.ok x hx).1
def keys_AppendSeq70_C : List Value → List Slot → Ctr := fun vs hs => ⟨Row, fun zx => sv zx, fun zx => [.blk (sblk (sarg hs 0)) (.cells #[.map (some (vblk (scell (sarg hs 0) 0)))] 68 (0, 0)), (mo (vblk (scell (sarg hs 0) 0)) (skv (sarg hs 1))), (ss 3 zx)], fun zx => (vals zx).Perm ((skv (sarg hs 1)).map (·.1))⟩
set_option maxRecDepth 100000 in
theorem keys_AppendSeq70_vc (r : Nat) (c : Nat) (m : KV) : codeW Try.prog 13 none 2000 none (bodyOf Try.f62) (.reg [.sem [.nw 2], .sem []] (.reg [.sem []] (.rf [6, 2] [0, 1, 2] [50, 0, 1, 60, 61] (fun _ hs => ⟨Row, fun _ => undef, fun zx => [.blk c (.cells #[.map (some r)] 68 (0, 0)), (mo r m), .blk (sblk (sarg hs 2)) (.cells #[sv zx] 41 (0, 0)), (ss 3 zx)], fun zx => (vals zx).Perm (m.map (·.1))⟩) (.reg [.sem [.rd 60], .sem []] (.done)))))
    (init #[.slice none 0 0, .func (.func 53) #[] #[.pointer (some ⟨c, 0, none⟩)]] [.blk c (.cells #[.map (some r)] 68 (0, 0)), (mo r m)]) (finM Try.prog Try.f62 [] [0, 1, 61] 50 (X := Row) (fun zx => sv zx) (fun zx => [.blk c (.cells #[.map (some r)] 68 (0, 0)), (mo r m), (ss 3 zx)]) (fun zx => ((vals zx).Perm (m.map (·.1))))) =
    (∀ b1 : Nat, (∀ fr' : Nat → Value, fr' 6 = Value.func (.func 53) #[] #[.pointer (some ⟨c, 0, none⟩)] → fr' 2 = Value.pointer (some ⟨b1, 0, none⟩) → RangeT Try.prog 13 (Operand.tmp 6) #[7] Try.rfA62 Try.rfB62 fr' [.blk c (.cells #[.map (some r)] 68 (0, 0)), (mo r m), .blk b1 (.cells #[.slice none 0 0] 41 (0, 0))] Row (fun zx => [.blk c (.cells #[.map (some r)] 68 (0, 0)), (mo r m), .blk b1 (.cells #[sv zx] 41 (0, 0)), (ss 3 zx)]) (fun zx => (vals zx).Perm (m.map (·.1)))) ∧ (∃ zx : Row, (vals zx).Perm (m.map (·.1))) ∧ ∀ (d2 : Nat) (x3 : Row), ((vals x3).Perm (m.map (·.1))) → b1 = b1 ∧ (none : Option Nat) = none ∧ Slot.blk d2 (.deferred (some [])) = .blk d2 (.deferred (some [])) ∧ ∃ zx : Row, ((vals zx).Perm (m.map (·.1))) ∧ sv x3 = sv zx ∧ Slot.blk c (.cells #[.map (some r)] 68 (0, 0)) = .blk c (.cells #[.map (some r)] 68 (0, 0)) ∧ (mo r m) = (mo r m) ∧ (ss 3 x3) = (ss 3 zx) ∧ True) := by kernel_rfl
set_option maxRecDepth 100000 in
theorem keys_AppendSeq70 (r : Nat) (c : Nat) (m : KV) (hk : KOK Try.mk70 m) (hl : m.length ≤ 1048576) : CallT Try.prog 62 #[.slice none 0 0, .func (.func 53) #[] #[.pointer (some ⟨c, 0, none⟩)]] [.blk c (.cells #[.map (some r)] 68 (0, 0)), (mo r m)] Row (fun zx => sv zx) (fun zx => [.blk c (.cells #[.map (some r)] 68 (0, 0)), (mo r m), (ss 3 zx)]) (fun zx => ((vals zx).Perm (m.map (·.1)))) := by
  refine call_of_mark (c := bodyOf Try.f62) (n := 13) (fn := Try.f62) Try.mixed Try.func62 (by kernel_rfl) (by kernel_rfl) (by kernel_rfl) 2000 _ [] [0, 1, 61] 50 rfl rfl (Eq.mpr (keys_AppendSeq70_vc r c m) ?_)
  intro b1
  refine ⟨fun fr' ht hb => range_keys (gf := 53) ht hk.once hl (fun l rec T hT => keys_it70 l rec r c m T hk.once hT) (fun l D fn tmps y k hkm hy hz hf => (key_int70 hk hkm).elim fun n hn => hn ▸ keys_round70 l D fn tmps b1 y n hz ((hf 2).trans hb) hy), ⟨.mk 0 (m.map (·.1)) [], List.Perm.refl _⟩, fun d2 x3 h1 => ?_⟩
  refine ⟨rfl, rfl, ?_⟩
  refine ⟨rfl, ?_⟩
  exact ⟨x3, h1, rfl, rfl, rfl, rfl, trivial⟩

def keys_Collect70_C : List Value → List Slot → Ctr := fun vs hs => ⟨Row, fun zx => sv zx, fun zx => [.blk (sblk (sarg hs 0)) (.cells #[.map (some (vblk (scell (sarg hs 0) 0)))] 68 (0, 0)), (mo (vblk (scell (sarg hs 0) 0)) (skv (sarg hs 1))), (ss 3 zx)], fun zx => (vals zx).Perm ((skv (sarg hs 1)).map (·.1))⟩
set_option maxRecDepth 100000 in
theorem keys_Collect70_vc (r : Nat) (c : Nat) (m : KV) : codeW Try.prog 5 none 2000 none (bodyOf Try.f51) (.reg [.sem []] (.reg [.sem [], .callw [0, 1] [0, 1, 40] keys_AppendSeq70_C, .sem []] (.done)))
    (init #[.func (.func 53) #[] #[.pointer (some ⟨c, 0, none⟩)]] [.blk c (.cells #[.map (some r)] 68 (0, 0)), (mo r m)]) (finW Try.prog Try.f51 [] [0, 1, 40] (X := Row) (fun zx => sv zx) (fun zx => [.blk c (.cells #[.map (some r)] 68 (0, 0)), (mo r m), (ss 3 zx)]) (fun zx => ((vals zx).Perm (m.map (·.1))))) =
    ((CallT Try.prog 62 #[.slice none 0 0, .func (.func 53) #[] #[.pointer (some ⟨c, 0, none⟩)]] [.blk c (.cells #[.map (some r)] 68 (0, 0)), (mo r m)] Row (fun zx => sv zx) (fun zx => [.blk c (.cells #[.map (some r)] 68 (0, 0)), (mo r m), (ss 3 zx)]) (fun zx => (vals zx).Perm (m.map (·.1)))) ∧ (∃ zx : Row, (fun zx => (vals zx).Perm (m.map (·.1))) zx) ∧ ∀ x1 : Row, ((vals x1).Perm (m.map (·.1))) → ∃ zx : Row, ((vals zx).Perm (m.map (·.1))) ∧ sv x1 = sv zx ∧ Slot.blk c (.cells #[.map (some r)] 68 (0, 0)) = .blk c (.cells #[.map (some r)] 68 (0, 0)) ∧ (mo r m) = (mo r m) ∧ (ss 3 x1) = (ss 3 zx) ∧ True) := by kernel_rfl
set_option maxRecDepth 100000 in
theorem keys_Collect70 (r : Nat) (c : Nat) (m : KV) (hk : KOK Try.mk70 m) (hl : m.length ≤ 1048576) : CallT Try.prog 51 #[.func (.func 53) #[] #[.pointer (some ⟨c, 0, none⟩)]] [.blk c (.cells #[.map (some r)] 68 (0, 0)), (mo r m)] Row (fun zx => sv zx) (fun zx => [.blk c (.cells #[.map (some r)] 68 (0, 0)), (mo r m), (ss 3 zx)]) (fun zx => ((vals zx).Perm (m.map (·.1)))) := by
  refine call_of (c := bodyOf Try.f51) (n := 5) (fn := Try.f51) Try.mixed Try.func51 (by kernel_rfl) (by kernel_rfl) (by kernel_rfl) 2000 _ [] [0, 1, 40] rfl rfl (Eq.mpr (keys_Collect70_vc r c m) ?_)
  refine ⟨keys_AppendSeq70 r c m (by assumption) (by assumption), ⟨.mk 0 (m.map (·.1)) [], List.Perm.refl _⟩, ?_⟩
  intro x1
  intro h1
  exact ⟨x1, h1, rfl, rfl, rfl, rfl, trivial⟩

def maps_Keys70_C : List Value → List Slot → Ctr := fun vs hs => ⟨Nat, fun zx => .func (.func 53) #[] #[.pointer (some ⟨zx, 0, none⟩)], fun zx => [.blk zx (.cells #[.map (some (vblk (varg vs 1)))] 68 (0, 0))], fun zx => True⟩
set_option maxRecDepth 100000 in
theorem maps_Keys70_vc (r : Nat) : codeW Try.prog 4 none 2000 none (bodyOf Try.f37) (.reg [.sem [.nw 40], .sem []] (.reg [.sem [], .sem []] (.done)))
    (init #[.map (some r)] []) (finW Try.prog Try.f37 [] [40] (X := Nat) (fun zx => .func (.func 53) #[] #[.pointer (some ⟨zx, 0, none⟩)]) (fun zx => [.blk zx (.cells #[.map (some r)] 68 (0, 0))]) (fun zx => (True))) =
    (∀ b1 : Nat, ∃ zx : Nat, (True) ∧ Value.func (.func 53) #[] #[.pointer (some ⟨b1, 0, none⟩)] = .func (.func 53) #[] #[.pointer (some ⟨zx, 0, none⟩)] ∧ Slot.blk b1 (.cells #[.map (some r)] 68 (0, 0)) = .blk zx (.cells #[.map (some r)] 68 (0, 0)) ∧ True) := by kernel_rfl
set_option maxRecDepth 100000 in
theorem maps_Keys70 (r : Nat)  : CallT Try.prog 37 #[.map (some r)] [] Nat (fun zx => .func (.func 53) #[] #[.pointer (some ⟨zx, 0, none⟩)]) (fun zx => [.blk zx (.cells #[.map (some r)] 68 (0, 0))]) (fun zx => (True)) := by
  refine call_of (c := bodyOf Try.f37) (n := 4) (fn := Try.f37) Try.mixed Try.func37 (by kernel_rfl) (by kernel_rfl) (by kernel_rfl) 2000 _ [] [40] rfl rfl (Eq.mpr (maps_Keys70_vc r) ?_)
  intro b1
  exact ⟨b1, trivial, rfl, rfl, trivial⟩

def keys_less70_C : List Value → List Slot → Ctr := fun vs hs => ⟨Unit, fun _ => .bool (decide ((ci (varg vs 1)) < (ci (varg vs 2)))), fun _ => hs, fun _ => True⟩
set_option maxRecDepth 100000 in
theorem keys_less70_vc (x : Int) (y : Int) : codeW Try.prog 8 none 2000 none (bodyOf Try.f9) (.reg [.sem []] (.reg [.sem [], .sem [], .sem [], .sem []] (.done)))
    (init #[.int .i64 x, .int .i64 y] []) (finW Try.prog Try.f9 [] [] (X := Unit) (fun _ => .bool (decide (x < y))) (fun _ => []) (fun _ => True)) =
    (∃ _ : Unit, (True) ∧ Value.bool (decide (x < y)) = .bool (decide (x < y)) ∧ True) := by kernel_rfl
set_option maxRecDepth 100000 in
theorem keys_less70 (x : Int) (y : Int)  : CallT Try.prog 9 #[.int .i64 x, .int .i64 y] [] Unit (fun _ => .bool (decide (x < y))) (fun _ => []) (fun _ => True) := by
  refine call_of (c := bodyOf Try.f9) (n := 8) (fn := Try.f9) Try.mixed Try.func9 (by kernel_rfl) (by kernel_rfl) (by kernel_rfl) 2000 _ [] [] rfl rfl (Eq.mpr (keys_less70_vc x y) ?_)
  exact ⟨(), trivial, rfl, trivial⟩

set_option maxRecDepth 100000 in
theorem keys_cmp70_vc (w0 : World) (c : Nat) (b : Nat) (x : Int) (y : Int) : codeW Try.prog 22 none 2000 none (bodyOf Try.f38) (.reg [.sem []] (.reg [.specr [0] (fun _ hs => ⟨Unit, fun _ => .pointer (some ⟨b, 0, none⟩), fun _ => hs, fun _ => True⟩), .sem [], .sem [], .specr [0] (fun _ hs => ⟨Unit, fun _ => .func (.func 9) #[] #[], fun _ => hs, fun _ => True⟩), .sem [], .sem [], .callr [] keys_less70_C, .sem []] (.cond (.reg [.sem []] (.done)) (.reg [.specr [0] (fun _ hs => ⟨Unit, fun _ => .pointer (some ⟨b, 0, none⟩), fun _ => hs, fun _ => True⟩), .sem [], .sem [], .specr [0] (fun _ hs => ⟨Unit, fun _ => .func (.func 9) #[] #[], fun _ => hs, fun _ => True⟩), .sem [], .sem [], .callr [] keys_less70_C, .sem []] (.cond (.reg [.sem []] (.done)) (.reg [.sem []] (.done)))))))
    (init #[.int .i64 x, .int .i64 y, .pointer (some ⟨c, 0, none⟩)] [(old w0)]) (finW Try.prog Try.f38 [] [0] (X := Unit) (fun _ => .int .i64 (cmpI x y)) (fun _ => [(old w0)]) (fun _ => True)) =
    ((OpT Try.prog (do pure (.value (← Instr.loadAt 28 (.pointer (some ⟨c, 0, none⟩))))) [(old w0)] Unit (fun _ => .pointer (some ⟨b, 0, none⟩)) (fun _ => [(old w0)]) (fun _ => True)) ∧ (∃ zx : Unit, (fun _ => True) zx) ∧ ∀ _ : Unit, (True) → (OpT Try.prog (do pure (.value (← Instr.loadAt 30 (.pointer (some ⟨b, 2, none⟩))))) [(old w0)] Unit (fun _ => .func (.func 9) #[] #[]) (fun _ => [(old w0)]) (fun _ => True)) ∧ (∃ zx : Unit, (fun _ => True) zx) ∧ ∀ _ : Unit, (True) → (CallT Try.prog 9 #[.int .i64 x, .int .i64 y] [] Unit (fun _ => .bool (decide (x < y))) (fun _ => []) (fun _ => True)) ∧ (∃ zx : Unit, (fun _ => True) zx) ∧ ∀ _ : Unit, (True) → ((decide (x < y)) = true → ∃ _ : Unit, (True) ∧ Value.int .i64 (-1) = .int .i64 (cmpI x y) ∧ (old w0) = (old w0) ∧ True) ∧ ((decide (x < y)) = false → (OpT Try.prog (do pure (.value (← Instr.loadAt 28 (.pointer (some ⟨c, 0, none⟩))))) [(old w0)] Unit (fun _ => .pointer (some ⟨b, 0, none⟩)) (fun _ => [(old w0)]) (fun _ => True)) ∧ (∃ zx : Unit, (fun _ => True) zx) ∧ ∀ _ : Unit, (True) → (OpT Try.prog (do pure (.value (← Instr.loadAt 30 (.pointer (some ⟨b, 2, none⟩))))) [(old w0)] Unit (fun _ => .func (.func 9) #[] #[]) (fun _ => [(old w0)]) (fun _ => True)) ∧ (∃ zx : Unit, (fun _ => True) zx) ∧ ∀ _ : Unit, (True) → (CallT Try.prog 9 #[.int .i64 y, .int .i64 x] [] Unit (fun _ => .bool (decide (y < x))) (fun _ => []) (fun _ => True)) ∧ (∃ zx : Unit, (fun _ => True) zx) ∧ ∀ _ : Unit, (True) → ((decide (y < x)) = true → ∃ _ : Unit, (True) ∧ Value.int .i64 1 = .int .i64 (cmpI x y) ∧ (old w0) = (old w0) ∧ True) ∧ ((decide (y < x)) = false → ∃ _ : Unit, (True) ∧ Value.int .i64 0 = .int .i64 (cmpI x y) ∧ (old w0) = (old w0) ∧ True))) := by kernel_rfl
set_option maxRecDepth 100000 in
theorem keys_cmp70 (w0 : World) (c : Nat) (b : Nat) (x : Int) (y : Int) (hc1 : w0.cell? ⟨c, 0, none⟩ = some (.pointer (some ⟨b, 0, none⟩))) (hc2 : w0.cell? ⟨b, 2, none⟩ = some (.func (.func 9) #[] #[])) : CallT Try.prog 38 #[.int .i64 x, .int .i64 y, .pointer (some ⟨c, 0, none⟩)] [(old w0)] Unit (fun _ => .int .i64 (cmpI x y)) (fun _ => [(old w0)]) (fun _ => True) := by
  refine call_of (c := bodyOf Try.f38) (n := 22) (fn := Try.f38) Try.mixed Try.func38 (by kernel_rfl) (by kernel_rfl) (by kernel_rfl) 2000 _ [] [0] rfl rfl (Eq.mpr (keys_cmp70_vc w0 c b x y) ?_)
  refine ⟨xold1 Try.isAgg28 hc1, ⟨(), trivial⟩, ?_⟩
  intro _
  intro _
  refine ⟨xold1 Try.isAgg30 hc2, ⟨(), trivial⟩, ?_⟩
  intro _
  intro _
  refine ⟨keys_less70 x y, ⟨(), trivial⟩, ?_⟩
  intro _
  intro _
  refine ⟨fun h1 => ?_, fun h1 => ?_⟩
  · refine ⟨(), trivial, ?_, rfl, trivial⟩
    unfold cmpI
    simp only [decide_eq_true_eq, decide_eq_false_iff_not] at h1
    simp only [h1, if_true, if_false, ite_true, ite_false]
  · refine ⟨xold1 Try.isAgg28 hc1, ⟨(), trivial⟩, ?_⟩
    intro _
    intro _
    refine ⟨xold1 Try.isAgg30 hc2, ⟨(), trivial⟩, ?_⟩
    intro _
    intro _
    refine ⟨keys_less70 y x, ⟨(), trivial⟩, ?_⟩
    intro _
    intro _
    refine ⟨fun h2 => ?_, fun h2 => ?_⟩
    · refine ⟨(), trivial, ?_, rfl, trivial⟩
      unfold cmpI
      simp only [decide_eq_true_eq, decide_eq_false_iff_not] at h1 h2
      simp only [h1, h2, if_true, if_false, ite_true, ite_false]
    · refine ⟨(), trivial, ?_, rfl, trivial⟩
      unfold cmpI
      simp only [decide_eq_true_eq, decide_eq_false_iff_not] at h1 h2
      simp only [h1, h2, if_true, if_false, ite_true, ite_false]

def Try.sort52_ren : Go.Shelf.Ren := ⟨fun | 6 => 52 | 15 => 64 | 14 => 63 | 28 => 77 | 29 => 78 | 20 => 69 | 21 => 70 | 22 => 71 | 23 => 72 | 24 => 73 | 25 => 74 | 26 => 75 | 27 => 76 | 46 => 82 | 47 => 83 | 48 => 84 | 49 => 85 | 50 => 86 | 57 => 89 | n => n, fun | 22 => 41 | 24 => 3 | 25 => 80 | 3 => 3 | 39 => 111 | 0 => 0 | 53 => 61 | 55 => 81 | 4 => 4 | 46 => 124 | 45 => 123 | 50 => 56 | 5 => 5 | 9 => 9 | 66 => 132 | 70 => 136 | 76 => 140 | 77 => 141 | n => n, fun | n => n⟩
theorem Try.sort52 : Go.Proofs.SlLaysF.n6 Try.prog Try.sort52_ren := {
  mixed := by kernel_rfl
  f6 := ⟨Try.f52.name, by decide, Try.func52.trans (congrArg some (by kernel_rfl))⟩
  f14 := ⟨Try.f63.name, by decide, Try.func63.trans (congrArg some (by kernel_rfl))⟩
  f15 := Try.func64.trans (congrArg some (by kernel_rfl))
  f20 := ⟨Try.f69.name, by decide, Try.func69.trans (congrArg some (by kernel_rfl))⟩
  f21 := ⟨Try.f70.name, by decide, Try.func70.trans (congrArg some (by kernel_rfl))⟩
  f22 := ⟨Try.f71.name, by decide, Try.func71.trans (congrArg some (by kernel_rfl))⟩
  f23 := ⟨Try.f72.name, by decide, Try.func72.trans (congrArg some (by kernel_rfl))⟩
  f24 := ⟨Try.f73.name, by decide, Try.func73.trans (congrArg some (by kernel_rfl))⟩
  f25 := ⟨Try.f74.name, by decide, Try.func74.trans (congrArg some (by kernel_rfl))⟩
  f26 := ⟨Try.f75.name, by decide, Try.func75.trans (congrArg some (by kernel_rfl))⟩
  f27 := ⟨Try.f76.name, by decide, Try.func76.trans (congrArg some (by kernel_rfl))⟩
  f28 := Try.func77.trans (congrArg some (by kernel_rfl))
  f29 := Try.func78.trans (congrArg some (by kernel_rfl))
  f46 := ⟨Try.f82.name, by decide, Try.func82.trans (congrArg some (by kernel_rfl))⟩
  f47 := Try.func83.trans (congrArg some (by kernel_rfl))
  f48 := Try.func84.trans (congrArg some (by kernel_rfl))
  f49 := ⟨Try.f85.name, by decide, Try.func85.trans (congrArg some (by kernel_rfl))⟩
  f50 := ⟨Try.f86.name, by decide, Try.func86.trans (congrArg some (by kernel_rfl))⟩
  f57 := ⟨Try.f89.name, by decide, Try.func89.trans (congrArg some (by kernel_rfl))⟩
  t0 := Try.underlying0
  a0 := Try.isAgg0
  z0 := Try.sizeOf0
  v0 := Try.zeroValue0
  t3 := Try.underlying3
  a3 := Try.isAgg3
  z3 := Try.sizeOf3
  v3 := Try.zeroValue3
  t4 := Try.underlying4
  a4 := Try.isAgg4
  z4 := Try.sizeOf4
  v4 := Try.zeroValue4
  t5 := Try.underlying5
  a5 := Try.isAgg5
  z5 := Try.sizeOf5
  v5 := Try.zeroValue5
  t9 := Try.underlying9
  a9 := Try.isAgg9
  z9 := Try.sizeOf9
  v9 := Try.zeroValue9
  t22 := Try.underlying41
  a22 := Try.isAgg41
  z22 := Try.sizeOf41
  v22 := Try.zeroValue41
  a24 := Try.isAgg3
  z24 := Try.sizeOf3
  t25 := Try.underlying80
  a25 := Try.isAgg80
  z25 := Try.sizeOf80
  v25 := Try.zeroValue80
  t39 := Try.underlying111
  a39 := Try.isAgg111
  z39 := Try.sizeOf111
  v39 := Try.zeroValue111
  t45 := Try.underlying123
  a45 := Try.isAgg123
  z45 := Try.sizeOf123
  v45 := Try.zeroValue123
  t46 := Try.underlying124
  a46 := Try.isAgg124
  z46 := Try.sizeOf124
  v46 := Try.zeroValue124
  t50 := Try.underlying56
  a50 := Try.isAgg56
  z50 := Try.sizeOf56
  v50 := Try.zeroValue56
  t53 := Try.underlying61
  a53 := Try.isAgg61
  z53 := Try.sizeOf61
  v53 := Try.zeroValue61
  t55 := Try.underlying81
  a55 := Try.isAgg81
  z55 := Try.sizeOf81
  v55 := Try.zeroValue81
  t66 := Try.underlying132
  a66 := Try.isAgg132
  z66 := Try.sizeOf132
  v66 := Try.zeroValue132
  t70 := Try.underlying136
  a70 := Try.isAgg136
  z70 := Try.sizeOf136
  v70 := Try.zeroValue136
  t76 := Try.underlying140
  a76 := Try.isAgg140
  z76 := Try.sizeOf140
  v76 := Try.zeroValue140
  t77 := Try.underlying141
  a77 := Try.isAgg141
  z77 := Try.sizeOf141
  v77 := Try.zeroValue141 }
set_option maxRecDepth 100000 in
theorem keys_SortedFunc70_vc (r : Nat) (c : Nat) (c2 : Nat) (b : Nat) (bj : Nat) (m : KV) : codeW Try.prog 12 none 2000 none (bodyOf Try.f36) (.reg [.sem []] (.reg [.sem [], .callw [0, 1] [0, 1, 40] keys_Collect70_C, .sem []] (.reg [.sem [], .sem [], .callw [40, 2, 3] [40, 2, 3] (fun vs hs => ⟨Row, fun _ => undef, fun zx => [ss 3 zx, sarg hs 1, sarg hs 2], fun zx => sv zx = varg vs 1 ∧ (vals zx).Perm (rvals (varg vs 1) (sarg hs 0)) ∧ SortedBy cmpI (vals zx)⟩)] (.reg [.sem [], .sem []] (.done)))))
    (init #[.func (.func 53) #[] #[.pointer (some ⟨c, 0, none⟩)], .func (.func 38) #[] #[.pointer (some ⟨c2, 0, none⟩)]] [.blk c (.cells #[.map (some r)] 68 (0, 0)), (mo r m), .blk c2 (.cells #[.pointer (some ⟨b, 0, none⟩)] 28 (0, 0)), .blk b (.cells #[.map (some r), .pointer (some ⟨bj, 0, none⟩), .func (.func 9) #[] #[]] 70 (0, 0))]) (finW Try.prog Try.f36 [] [0, 1, 2, 3, 40] (X := Row) (fun zx => sv zx) (fun zx => [.blk c (.cells #[.map (some r)] 68 (0, 0)), (mo r m), .blk c2 (.cells #[.pointer (some ⟨b, 0, none⟩)] 28 (0, 0)), .blk b (.cells #[.map (some r), .pointer (some ⟨bj, 0, none⟩), .func (.func 9) #[] #[]] 70 (0, 0)), (ss 3 zx)]) (fun zx => (KeysOf .i64 m (vals zx)))) =
    ((CallT Try.prog 51 #[.func (.func 53) #[] #[.pointer (some ⟨c, 0, none⟩)]] [.blk c (.cells #[.map (some r)] 68 (0, 0)), (mo r m)] Row (fun zx => sv zx) (fun zx => [.blk c (.cells #[.map (some r)] 68 (0, 0)), (mo r m), (ss 3 zx)]) (fun zx => (vals zx).Perm (m.map (·.1)))) ∧ (∃ zx : Row, (fun zx => (vals zx).Perm (m.map (·.1))) zx) ∧ ∀ x1 : Row, ((vals x1).Perm (m.map (·.1))) → (CallT Try.prog 52 #[sv x1, .func (.func 38) #[] #[.pointer (some ⟨c2, 0, none⟩)]] [(ss 3 x1), .blk c2 (.cells #[.pointer (some ⟨b, 0, none⟩)] 28 (0, 0)), .blk b (.cells #[.map (some r), .pointer (some ⟨bj, 0, none⟩), .func (.func 9) #[] #[]] 70 (0, 0))] Row (fun zx => .tuple #[]) (fun zx => [(ss 3 zx), .blk c2 (.cells #[.pointer (some ⟨b, 0, none⟩)] 28 (0, 0)), .blk b (.cells #[.map (some r), .pointer (some ⟨bj, 0, none⟩), .func (.func 9) #[] #[]] 70 (0, 0))]) (fun zx => sv zx = sv x1 ∧ (vals zx).Perm (rvals (sv x1) (ss 3 x1)) ∧ SortedBy cmpI (vals zx))) ∧ (∃ zx : Row, (fun zx => sv zx = sv x1 ∧ (vals zx).Perm (rvals (sv x1) (ss 3 x1)) ∧ SortedBy cmpI (vals zx)) zx) ∧ ∀ x2 : Row, (sv x2 = sv x1 ∧ (vals x2).Perm (rvals (sv x1) (ss 3 x1)) ∧ SortedBy cmpI (vals x2)) → ∃ zx : Row, (KeysOf .i64 m (vals zx)) ∧ sv x1 = sv zx ∧ Slot.blk c (.cells #[.map (some r)] 68 (0, 0)) = .blk c (.cells #[.map (some r)] 68 (0, 0)) ∧ (mo r m) = (mo r m) ∧ Slot.blk c2 (.cells #[.pointer (some ⟨b, 0, none⟩)] 28 (0, 0)) = .blk c2 (.cells #[.pointer (some ⟨b, 0, none⟩)] 28 (0, 0)) ∧ Slot.blk b (.cells #[.map (some r), .pointer (some ⟨bj, 0, none⟩), .func (.func 9) #[] #[]] 70 (0, 0)) = .blk b (.cells #[.map (some r), .pointer (some ⟨bj, 0, none⟩), .func (.func 9) #[] #[]] 70 (0, 0)) ∧ (ss 3 x2) = (ss 3 zx) ∧ True) := by kernel_rfl
set_option maxRecDepth 100000 in
theorem keys_SortedFunc70 (r : Nat) (c : Nat) (c2 : Nat) (b : Nat) (bj : Nat) (m : KV) (hk : KOK Try.mk70 m) (hl : m.length ≤ 1048576) : CallT Try.prog 36 #[.func (.func 53) #[] #[.pointer (some ⟨c, 0, none⟩)], .func (.func 38) #[] #[.pointer (some ⟨c2, 0, none⟩)]] [.blk c (.cells #[.map (some r)] 68 (0, 0)), (mo r m), .blk c2 (.cells #[.pointer (some ⟨b, 0, none⟩)] 28 (0, 0)), .blk b (.cells #[.map (some r), .pointer (some ⟨bj, 0, none⟩), .func (.func 9) #[] #[]] 70 (0, 0))] Row (fun zx => sv zx) (fun zx => [.blk c (.cells #[.map (some r)] 68 (0, 0)), (mo r m), .blk c2 (.cells #[.pointer (some ⟨b, 0, none⟩)] 28 (0, 0)), .blk b (.cells #[.map (some r), .pointer (some ⟨bj, 0, none⟩), .func (.func 9) #[] #[]] 70 (0, 0)), (ss 3 zx)]) (fun zx => (KeysOf .i64 m (vals zx))) := by
  refine call_of (c := bodyOf Try.f36) (n := 12) (fn := Try.f36) Try.mixed Try.func36 (by kernel_rfl) (by kernel_rfl) (by kernel_rfl) 2000 _ [] [0, 1, 2, 3, 40] rfl rfl (Eq.mpr (keys_SortedFunc70_vc r c c2 b bj m) ?_)
  refine ⟨keys_Collect70 r c m (by assumption) (by assumption), ⟨.mk 0 (m.map (·.1)) [], List.Perm.refl _⟩, ?_⟩
  intro x1
  intro h1
  refine ⟨sort_row Try.sort52 rfl (enterOK (c := bodyOf Try.f52) Try.func52 (by kernel_rfl) (by kernel_rfl)) (enterOK (c := bodyOf Try.f38) Try.func38 (by kernel_rfl) (by kernel_rfl)) swoI (fun w0 h1 h2 x y => keys_cmp70 w0 c2 b x y h1 h2) (fun v hv => key_int70 hk (h1.mem_iff.1 hv)) (by have := h1.length_eq; simp at this; omega), sort_wit (x1), ?_⟩
  intro x2
  intro h2
  rw [rvals_eq] at h2
  exact ⟨x2, keysOf_of hk.once (fun v hv => key_int70 hk hv) (h2.2.1.trans h1) h2.2.2, h2.1.symm, rfl, rfl, rfl, rfl, rfl, trivial⟩

def Try.clone33_ren : Go.Shelf.Ren := ⟨fun | 5 => 33 | 7 => 49 | n => n, fun | 23 => 68 | 25 => 3 | 3 => 3 | 4 => 4 | 20 => 20 | n => n, fun | n => n⟩
theorem Try.clone33 : Go.Proofs.SlLaysW.n5 Try.prog Try.clone33_ren := {
  mixed := by kernel_rfl
  f5 := ⟨Try.f33.name, by decide, Try.func33.trans (congrArg some (by kernel_rfl))⟩
  f7 := Try.func49.trans (congrArg some (by kernel_rfl))
  t4 := Try.underlying4
  a4 := Try.isAgg4
  z4 := Try.sizeOf4
  v4 := Try.zeroValue4
  t20 := Try.underlying20
  a20 := Try.isAgg20
  z20 := Try.sizeOf20
  v20 := Try.zeroValue20
  t23 := Try.underlying68
  a23 := Try.isAgg68
  z23 := Try.sizeOf68
  v23 := Try.zeroValue68 }
def keys_Keys_raw70_C : List Value → List Slot → Ctr := fun vs hs => ⟨Row, fun zx => sv zx, fun zx => [(ss 3 zx)], fun zx => KeysOf .i64 (skv (sarg hs 1)) (vals zx)⟩
set_option maxRecDepth 100000 in
theorem keys_Keys_raw70_vc (b : Nat) (r : Nat) (bj : Nat) (m : KV) : codeW Try.prog 10 none 2000 none (bodyOf Try.f18) (.reg [.sem [.nw 40], .sem []] (.reg [.sem [.rd 40], .sem [], .sem [], .sem [.rd 0], .callw [] [41] maps_Keys70_C, .sem [], .callw [41, 1, 40, 0] [41, 1, 40, 0, 45] (fun vs hs => ⟨Row, fun zx => sv zx, fun zx => hs ++ [ss 3 zx], fun zx => KeysOf .i64 (skv (sarg hs 1)) (vals zx)⟩), .sem []] (.done)))
    (init #[.pointer (some ⟨b, 0, none⟩)] [.blk b (.cells #[.map (some r), .pointer (some ⟨bj, 0, none⟩), .func (.func 9) #[] #[]] 70 (0, 0)), (mo r m)]) (finW Try.prog Try.f18 [] [0, 1, 45] (X := Row) (fun zx => sv zx) (fun zx => [.blk b (.cells #[.map (some r), .pointer (some ⟨bj, 0, none⟩), .func (.func 9) #[] #[]] 70 (0, 0)), (mo r m), (ss 3 zx)]) (fun zx => (KeysOf .i64 m (vals zx)))) =
    (∀ b1 : Nat, b1 = b1 ∧ (none : Option Nat) = none ∧ b = b ∧ (none : Option Nat) = none ∧ (CallT Try.prog 37 #[.map (some r)] [] Nat (fun zx => .func (.func 53) #[] #[.pointer (some ⟨zx, 0, none⟩)]) (fun zx => [.blk zx (.cells #[.map (some r)] 68 (0, 0))]) (fun zx => True)) ∧ (∃ zx : Nat, (fun zx => True) zx) ∧ ∀ x2 : Nat, (True) → (CallT Try.prog 36 #[.func (.func 53) #[] #[.pointer (some ⟨x2, 0, none⟩)], .func (.func 38) #[] #[.pointer (some ⟨b1, 0, none⟩)]] [.blk x2 (.cells #[.map (some r)] 68 (0, 0)), (mo r m), .blk b1 (.cells #[.pointer (some ⟨b, 0, none⟩)] 28 (0, 0)), .blk b (.cells #[.map (some r), .pointer (some ⟨bj, 0, none⟩), .func (.func 9) #[] #[]] 70 (0, 0))] Row (fun zx => sv zx) (fun zx => [.blk x2 (.cells #[.map (some r)] 68 (0, 0)), (mo r m), .blk b1 (.cells #[.pointer (some ⟨b, 0, none⟩)] 28 (0, 0)), .blk b (.cells #[.map (some r), .pointer (some ⟨bj, 0, none⟩), .func (.func 9) #[] #[]] 70 (0, 0)), (ss 3 zx)]) (fun zx => KeysOf .i64 m (vals zx))) ∧ (∃ zx : Row, (fun zx => KeysOf .i64 m (vals zx)) zx) ∧ ∀ x3 : Row, (KeysOf .i64 m (vals x3)) → ∃ zx : Row, (KeysOf .i64 m (vals zx)) ∧ sv x3 = sv zx ∧ Slot.blk b (.cells #[.map (some r), .pointer (some ⟨bj, 0, none⟩), .func (.func 9) #[] #[]] 70 (0, 0)) = .blk b (.cells #[.map (some r), .pointer (some ⟨bj, 0, none⟩), .func (.func 9) #[] #[]] 70 (0, 0)) ∧ (mo r m) = (mo r m) ∧ (ss 3 x3) = (ss 3 zx) ∧ True) := by kernel_rfl
set_option maxRecDepth 100000 in
theorem keys_Keys_raw70 (b : Nat) (r : Nat) (bj : Nat) (m : KV) (hk : KOK Try.mk70 m) (hl : m.length ≤ 1048576) : CallT Try.prog 18 #[.pointer (some ⟨b, 0, none⟩)] [.blk b (.cells #[.map (some r), .pointer (some ⟨bj, 0, none⟩), .func (.func 9) #[] #[]] 70 (0, 0)), (mo r m)] Row (fun zx => sv zx) (fun zx => [.blk b (.cells #[.map (some r), .pointer (some ⟨bj, 0, none⟩), .func (.func 9) #[] #[]] 70 (0, 0)), (mo r m), (ss 3 zx)]) (fun zx => (KeysOf .i64 m (vals zx))) := by
  refine call_of (c := bodyOf Try.f18) (n := 10) (fn := Try.f18) Try.mixed Try.func18 (by kernel_rfl) (by kernel_rfl) (by kernel_rfl) 2000 _ [] [0, 1, 45] rfl rfl (Eq.mpr (keys_Keys_raw70_vc b r bj m) ?_)
  intro b1
  refine ⟨rfl, rfl, rfl, rfl, maps_Keys70 r, ⟨0, trivial⟩, ?_⟩
  intro x2
  intro h1
  refine ⟨keys_SortedFunc70 r x2 b1 b bj m hk hl, keysOf_wit (fun v hv => key_int70 hk hv) hk.once, ?_⟩
  intro x3
  intro h2
  exact ⟨x3, h2, rfl, rfl, rfl, rfl, trivial⟩

def maps_Clone70_C : List Value → List Slot → Ctr := fun vs hs => ⟨Nat, fun zx => .map (some zx), fun zx => [(mo zx (skv (sarg hs 0)))], fun zx => True⟩
theorem maps_Clone70 (r : Nat) (m : KV)  : CallT Try.prog 33 #[.map (some r)] [(mo r m)] Nat (fun zx => .map (some zx)) (fun zx => [(mo r m), (mo zx m)]) (fun zx => (True)) := clone_map Try.clone33 rfl (enterOK (c := bodyOf Try.f33) Try.func33 (by kernel_rfl) (by kernel_rfl))

set_option maxRecDepth 100000 in
theorem keys_All_raw70_vc (b : Nat) (r : Nat) (bj : Nat) (m : KV) : codeW Try.prog 13 none 2000 none (bodyOf Try.f15) (.reg [.sem []] (.reg [.sem [], .calln [0, 1] [52] keys_Keys_raw70_C, .sem [], .sem [], .sem [], .sem [.rd 0], .calln [1] [53] maps_Clone70_C, .sem [.nw 50], .sem [.nw 51], .specw [50] [50] F_put, .sem [.wr 51]] (.reg [.sem [], .sem []] (.done))))
    (init #[.pointer (some ⟨b, 0, none⟩)] [.blk b (.cells #[.map (some r), .pointer (some ⟨bj, 0, none⟩), .func (.func 9) #[] #[]] 70 (0, 0)), (mo r m)]) (finW Try.prog Try.f15 [] [0, 1, 50, 52, 51, 53] (X := Nat × Nat × Nat × Row) (fun zx => .func (.func 34) #[] #[.pointer (some ⟨zx.1, 0, none⟩), .pointer (some ⟨zx.2.1, 0, none⟩)]) (fun zx => [.blk b (.cells #[.map (some r), .pointer (some ⟨bj, 0, none⟩), .func (.func 9) #[] #[]] 70 (0, 0)), (mo r m), .blk zx.1 (.cells #[sv zx.2.2.2] 41 (0, 0)), (ss 3 zx.2.2.2), .blk zx.2.1 (.cells #[.map (some zx.2.2.1)] 68 (0, 0)), (mo zx.2.2.1 m)]) (fun zx => (KeysOf .i64 m (vals zx.2.2.2)))) =
    ((CallT Try.prog 18 #[.pointer (some ⟨b, 0, none⟩)] [.blk b (.cells #[.map (some r), .pointer (some ⟨bj, 0, none⟩), .func (.func 9) #[] #[]] 70 (0, 0)), (mo r m)] Row (fun zx => sv zx) (fun zx => [.blk b (.cells #[.map (some r), .pointer (some ⟨bj, 0, none⟩), .func (.func 9) #[] #[]] 70 (0, 0)), (mo r m), (ss 3 zx)]) (fun zx => KeysOf .i64 m (vals zx))) ∧ (∃ zx : Row, (fun zx => KeysOf .i64 m (vals zx)) zx) ∧ ∀ x1 : Row, (KeysOf .i64 m (vals x1)) → b = b ∧ (none : Option Nat) = none ∧ (CallT Try.prog 33 #[.map (some r)] [(mo r m)] Nat (fun zx => .map (some zx)) (fun zx => [(mo r m), (mo zx m)]) (fun zx => True)) ∧ (∃ zx : Nat, (fun zx => True) zx) ∧ ∀ x2 : Nat, (True) → ∀ b3 : Nat, ∀ b4 : Nat, (OpT Try.prog (do Instr.storeAt 41 (.pointer (some ⟨b3, 0, none⟩)) (sv x1); pure .skip) [.blk b3 (.cells #[.slice none 0 0] 41 (0, 0))] Unit (fun _ => .tuple #[]) (fun _ => [.blk b3 (.cells #[sv x1] 41 (0, 0))]) (fun _ => True)) ∧ (∃ zx : Unit, (fun _ => True) zx) ∧ ∀ _ : Unit, (True) → b4 = b4 ∧ (none : Option Nat) = none ∧ ∃ zx : Nat × Nat × Nat × Row, (KeysOf .i64 m (vals zx.2.2.2)) ∧ Value.func (.func 34) #[] #[.pointer (some ⟨b3, 0, none⟩), .pointer (some ⟨b4, 0, none⟩)] = .func (.func 34) #[] #[.pointer (some ⟨zx.1, 0, none⟩), .pointer (some ⟨zx.2.1, 0, none⟩)] ∧ Slot.blk b (.cells #[.map (some r), .pointer (some ⟨bj, 0, none⟩), .func (.func 9) #[] #[]] 70 (0, 0)) = .blk b (.cells #[.map (some r), .pointer (some ⟨bj, 0, none⟩), .func (.func 9) #[] #[]] 70 (0, 0)) ∧ (mo r m) = (mo r m) ∧ Slot.blk b3 (.cells #[sv x1] 41 (0, 0)) = .blk zx.1 (.cells #[sv zx.2.2.2] 41 (0, 0)) ∧ (ss 3 x1) = (ss 3 zx.2.2.2) ∧ Slot.blk b4 (.cells #[.map (some x2)] 68 (0, 0)) = .blk zx.2.1 (.cells #[.map (some zx.2.2.1)] 68 (0, 0)) ∧ (mo x2 m) = (mo zx.2.2.1 m) ∧ True) := by kernel_rfl
set_option maxRecDepth 100000 in
theorem keys_All_raw70 (b : Nat) (r : Nat) (bj : Nat) (m : KV) (hk : KOK Try.mk70 m) (hl : m.length ≤ 1048576) : CallT Try.prog 15 #[.pointer (some ⟨b, 0, none⟩)] [.blk b (.cells #[.map (some r), .pointer (some ⟨bj, 0, none⟩), .func (.func 9) #[] #[]] 70 (0, 0)), (mo r m)] (Nat × Nat × Nat × Row) (fun zx => .func (.func 34) #[] #[.pointer (some ⟨zx.1, 0, none⟩), .pointer (some ⟨zx.2.1, 0, none⟩)]) (fun zx => [.blk b (.cells #[.map (some r), .pointer (some ⟨bj, 0, none⟩), .func (.func 9) #[] #[]] 70 (0, 0)), (mo r m), .blk zx.1 (.cells #[sv zx.2.2.2] 41 (0, 0)), (ss 3 zx.2.2.2), .blk zx.2.1 (.cells #[.map (some zx.2.2.1)] 68 (0, 0)), (mo zx.2.2.1 m)]) (fun zx => (KeysOf .i64 m (vals zx.2.2.2))) := by
  refine call_of (c := bodyOf Try.f15) (n := 13) (fn := Try.f15) Try.mixed Try.func15 (by kernel_rfl) (by kernel_rfl) (by kernel_rfl) 2000 _ [] [0, 1, 50, 52, 51, 53] rfl rfl (Eq.mpr (keys_All_raw70_vc b r bj m) ?_)
  refine ⟨keys_Keys_raw70 b r bj m (hk) (hl), keysOf_wit (fun v hv => key_int70 hk hv) hk.once, ?_⟩
  intro x1
  intro h1
  refine ⟨rfl, rfl, maps_Clone70 r m, ⟨0, trivial⟩, ?_⟩
  intro x2
  intro h2
  intro b3
  intro b4
  refine ⟨xputv (b := b3) (cs := #[.slice none 0 0]) (ty := 41) (te := 41) (fun w => by kernel_rfl) 0 (sv x1) (cells_sv _) (one_sv _) (by show 0 < 1; decide), ⟨(), trivial⟩, ?_⟩
  intro _
  intro _
  refine ⟨rfl, rfl, ?_⟩
  exact ⟨(b3, b4, x2, x1), h1, rfl, rfl, rfl, rfl, rfl, rfl, rfl, trivial⟩

def keys_All70_C : List Value → List Slot → Ctr := fun vs hs => ⟨Nat × Nat × Nat × Row, fun zx => .func (.func 34) #[] #[.pointer (some ⟨zx.1, 0, none⟩), .pointer (some ⟨zx.2.1, 0, none⟩)], fun zx => [.blk zx.1 (.cells #[sv zx.2.2.2] 41 (0, 0)), (ss 3 zx.2.2.2), .blk zx.2.1 (.cells #[.map (some zx.2.2.1)] 68 (0, 0)), (mo zx.2.2.1 (skv (sarg hs 0)))], fun zx => KeysOf .i64 (skv (sarg hs 0)) (vals zx.2.2.2)⟩
theorem keys_All70 (b : Nat) (bj : Nat) (m : KV) (hi : IntKeys .i64 m) (hl : m.length ≤ 1048576) : CallT Try.prog 15 #[.pointer (some ⟨b, 0, none⟩)] [(mS Try.mk70 b bj m)] (Nat × Nat × Nat × Row) (fun zx => .func (.func 34) #[] #[.pointer (some ⟨zx.1, 0, none⟩), .pointer (some ⟨zx.2.1, 0, none⟩)]) (fun zx => [(mS Try.mk70 b bj m), .blk zx.1 (.cells #[sv zx.2.2.2] 41 (0, 0)), (ss 3 zx.2.2.2), .blk zx.2.1 (.cells #[.map (some zx.2.2.1)] 68 (0, 0)), (mo zx.2.2.1 m)]) (fun zx => (KeysOf .i64 m (vals zx.2.2.2))) := by
  refine mS_call (m' := fun _ => m) (us := fun x : Nat × Nat × Nat × Row => [.blk x.1 (.cells #[sv x.2.2.2] 41 (0, 0)), (ss 3 x.2.2.2), .blk x.2.1 (.cells #[.map (some x.2.2.1)] 68 (0, 0)), (mo x.2.2.1 m)]) (enterOK (c := bodyOf Try.f15) Try.func15 (by kernel_rfl) (by kernel_rfl)) (fun r hk => ?_) (fun _ _ h => h)
  exact keys_All_raw70 b r bj m hk hl

set_option maxRecDepth 100000 in
theorem keys_All1_70_vc (l : Nat) (rec : Loop) (c1 : Nat) (c2 : Nat) (n : Nat) (x : Rw) (m : KV) (T : Nat → Slot) : codeW Try.prog 20 none 2000 none (bodyOf Try.f34) (.reg [.sem [.rd 1], .eq (f_len), .sem []] (.inv Nat (fun zx => [(0, .func (.yield l) #[] #[]), (1, .pointer (some ⟨c1, 0, none⟩)), (2, .pointer (some ⟨c2, 0, none⟩)), (6, sv x), (7, .int .i64 ((vlen (sv x) : Nat) : Int)), (8, .int .i64 ((zx : Nat) : Int))]) (fun zx => [(0, (loopB l rec)), (1, .blk c1 (.cells #[sv x] 41 (0, 0))), (2, (ss 3 x)), (3, .blk c2 (.cells #[.map (some n)] 68 (0, 0))), (4, (mo n m)), (5, (T zx))]) (fun zx => zx ≤ (vals x).length) (fun zx => (vals x).length - zx) (fun x1 => .reg [.sem []] (.cond (.reg [.eq (f_idx), .specr [2] (fun _ hs => ⟨Unit, fun _ => ((vals x).getD (Int.toNat ((x1 : Nat) : Int)) undef), fun _ => hs, fun _ => True⟩), .sem []] (.reg [.sem [], .sem [], .sem [.rd 3], .sem [], .specr [4] (fun _ hs => ⟨Unit, fun _ => ((mget m (((vals x).getD (Int.toNat ((x1 : Nat) : Int)) undef))).getD (Value.int .i64 0)), fun _ => hs, fun _ => True⟩), .callw [0, 5] [0, 5] (fun _ _ => ⟨Unit, fun _ => .bool true, fun _ => [loopB l rec, T (x1 + 1)], fun _ => True⟩), .sem []] (.condF (.reg [.sem [], .sem []] (.done))))) (.done)))))
    (init #[.func (.yield l) #[] #[], .pointer (some ⟨c1, 0, none⟩), .pointer (some ⟨c2, 0, none⟩)] [(loopB l rec), .blk c1 (.cells #[sv x] 41 (0, 0)), (ss 3 x), .blk c2 (.cells #[.map (some n)] 68 (0, 0)), (mo n m), (T 0)]) (finW Try.prog Try.f34 [] [0, 1, 2, 3, 4, 5] (X := Unit) (fun _ => .tuple #[]) (fun _ => [(loopB l rec), .blk c1 (.cells #[sv x] 41 (0, 0)), (ss 3 x), .blk c2 (.cells #[.map (some n)] 68 (0, 0)), (mo n m), (T (vals x).length)]) (fun _ => True)) =
    (c1 = c1 ∧ (none : Option Nat) = none ∧ (PureRun Try.prog (do pure (.value (← Builtin.len_ #[41] 3 #[sv x]))) (.int .i64 ((vlen (sv x) : Nat) : Int))) ∧ (∃ zx : Nat, (zx ≤ (vals x).length) ∧ Value.func (.yield l) #[] #[] = .func (.yield l) #[] #[] ∧ Value.pointer (some ⟨c1, 0, none⟩) = .pointer (some ⟨c1, 0, none⟩) ∧ Value.pointer (some ⟨c2, 0, none⟩) = .pointer (some ⟨c2, 0, none⟩) ∧ sv x = sv x ∧ Value.int .i64 ((vlen (sv x) : Nat) : Int) = .int .i64 ((vlen (sv x) : Nat) : Int) ∧ Value.int .i64 0 = .int .i64 ((zx : Nat) : Int) ∧ (loopB l rec) = (loopB l rec) ∧ Slot.blk c1 (.cells #[sv x] 41 (0, 0)) = .blk c1 (.cells #[sv x] 41 (0, 0)) ∧ (ss 3 x) = (ss 3 x) ∧ Slot.blk c2 (.cells #[.map (some n)] 68 (0, 0)) = .blk c2 (.cells #[.map (some n)] 68 (0, 0)) ∧ (mo n m) = (mo n m) ∧ (T 0) = (T zx) ∧ True) ∧ ∀ x1 : Nat, ∀ jx1 : Nat → Value, (x1 ≤ (vals x).length) → ((decide (((x1 : Nat) : Int) < ((vlen (sv x) : Nat) : Int))) = true → (PureRun Try.prog (do pure (.value (← Instr.indexAt 41 (sv x) (.int .i64 ((x1 : Nat) : Int))))) (.pointer (some ⟨(vblk (sv x)), (Int.toNat ((x1 : Nat) : Int)), none⟩))) ∧ (OpT Try.prog (do pure (.value (← Instr.loadAt 3 (.pointer (some ⟨(vblk (sv x)), (Int.toNat ((x1 : Nat) : Int)), none⟩))))) [(ss 3 x)] Unit (fun _ => ((vals x).getD (Int.toNat ((x1 : Nat) : Int)) undef)) (fun _ => [(ss 3 x)]) (fun _ => True)) ∧ (∃ zx : Unit, (fun _ => True) zx) ∧ ∀ _ : Unit, (True) → c2 = c2 ∧ (none : Option Nat) = none ∧ (OpT Try.prog (do pure (.value (← Instr.lookup 68 (.map (some n)) (((vals x).getD (Int.toNat ((x1 : Nat) : Int)) undef)) false))) [(mo n m)] Unit (fun _ => ((mget m (((vals x).getD (Int.toNat ((x1 : Nat) : Int)) undef))).getD (Value.int .i64 0))) (fun _ => [(mo n m)]) (fun _ => True)) ∧ (∃ zx : Unit, (fun _ => True) zx) ∧ ∀ _ : Unit, (True) → (RoundT Try.prog l #[((vals x).getD (Int.toNat ((x1 : Nat) : Int)) undef), ((mget m (((vals x).getD (Int.toNat ((x1 : Nat) : Int)) undef))).getD (Value.int .i64 0))] [(loopB l rec), (T x1)] Unit (fun _ => .bool true) (fun _ => [(loopB l rec), (T (x1 + 1))]) (fun _ => True)) ∧ (∃ zx : Unit, (fun _ => True) zx) ∧ ∀ _ : Unit, (True) → (false = false) ∧ ∃ zy : Nat, (zy ≤ (vals x).length) ∧ (vals x).length - zy < (vals x).length - x1 ∧ Value.func (.yield l) #[] #[] = .func (.yield l) #[] #[] ∧ Value.pointer (some ⟨c1, 0, none⟩) = .pointer (some ⟨c1, 0, none⟩) ∧ Value.pointer (some ⟨c2, 0, none⟩) = .pointer (some ⟨c2, 0, none⟩) ∧ sv x = sv x ∧ Value.int .i64 ((vlen (sv x) : Nat) : Int) = .int .i64 ((vlen (sv x) : Nat) : Int) ∧ Value.int .i64 (IntKind.i64.wrap (((x1 : Nat) : Int) + 1)) = .int .i64 ((zy : Nat) : Int) ∧ (loopB l rec) = (loopB l rec) ∧ Slot.blk c1 (.cells #[sv x] 41 (0, 0)) = .blk c1 (.cells #[sv x] 41 (0, 0)) ∧ (ss 3 x) = (ss 3 x) ∧ Slot.blk c2 (.cells #[.map (some n)] 68 (0, 0)) = .blk c2 (.cells #[.map (some n)] 68 (0, 0)) ∧ (mo n m) = (mo n m) ∧ (T (x1 + 1)) = (T zy) ∧ True) ∧ ((decide (((x1 : Nat) : Int) < ((vlen (sv x) : Nat) : Int))) = false → ∃ _ : Unit, (True) ∧ Value.tuple #[] = .tuple #[] ∧ (loopB l rec) = (loopB l rec) ∧ Slot.blk c1 (.cells #[sv x] 41 (0, 0)) = .blk c1 (.cells #[sv x] 41 (0, 0)) ∧ (ss 3 x) = (ss 3 x) ∧ Slot.blk c2 (.cells #[.map (some n)] 68 (0, 0)) = .blk c2 (.cells #[.map (some n)] 68 (0, 0)) ∧ (mo n m) = (mo n m) ∧ (T x1) = (T (vals x).length) ∧ True)) := by kernel_rfl
set_option maxRecDepth 100000 in
theorem keys_All1_70 (l : Nat) (rec : Loop) (c1 : Nat) (c2 : Nat) (n : Nat) (x : Rw) (m : KV) (T : Nat → Slot) (hk : KOK Try.mk70 m) (hl : m.length ≤ 1048576) (hx : KeysOf .i64 m (vals x)) (hT : ∀ i, i < (vals x).length → RoundT Try.prog l #[(vals x).getD i undef, (mget m ((vals x).getD i undef)).getD (Value.int .i64 0)] [loopB l rec, T i] Unit (fun _ => .bool true) (fun _ => [loopB l rec, T (i + 1)]) (fun _ => True)) : CallT Try.prog 34 #[.func (.yield l) #[] #[], .pointer (some ⟨c1, 0, none⟩), .pointer (some ⟨c2, 0, none⟩)] [(loopB l rec), .blk c1 (.cells #[sv x] 41 (0, 0)), (ss 3 x), .blk c2 (.cells #[.map (some n)] 68 (0, 0)), (mo n m), (T 0)] Unit (fun _ => .tuple #[]) (fun _ => [(loopB l rec), .blk c1 (.cells #[sv x] 41 (0, 0)), (ss 3 x), .blk c2 (.cells #[.map (some n)] 68 (0, 0)), (mo n m), (T (vals x).length)]) (fun _ => True) := by
  refine call_of (c := bodyOf Try.f34) (n := 20) (fn := Try.f34) Try.mixed Try.func34 (by kernel_rfl) (by kernel_rfl) (by kernel_rfl) 2000 _ [] [0, 1, 2, 3, 4, 5] rfl rfl (Eq.mpr (keys_All1_70_vc l rec c1 c2 n x m T) ?_)
  have hL : (vals x).length ≤ 1048576 := by have := hx.1.length_eq; simp at this; omega
  refine ⟨rfl, rfl, xlen Try.sl41 3 x, ?_⟩
  refine ⟨?_, fun x1 jx1 h1 => ?_⟩
  · exact ⟨0, Nat.zero_le _, rfl, rfl, rfl, rfl, rfl, rfl, rfl, rfl, rfl, rfl, rfl, rfl, trivial⟩
  · have hlen := vlen_sv x
    refine ⟨fun h2 => ?_, fun h2 => ?_⟩
    · refine ⟨xidx Try.sl41 x .i64 ((x1 : Nat) : Int) (by omega) (by have := (ilt_of hlen h2); omega), xget x 3 (fun w => by kernel_rfl) (Int.toNat ((x1 : Nat) : Int)) _ (getD_some (by have := (ilt_of hlen h2); omega)), ⟨(), trivial⟩, ?_⟩
      intro _
      intro _
      refine ⟨rfl, rfl, xlookup1 Try.kl70.tm hk.keys (hx.2.2 _ (getD_mem (by have := (ilt_of hlen h2); omega))), ⟨(), trivial⟩, ?_⟩
      intro _
      intro _
      refine ⟨hT x1 (ilt_of hlen h2), ⟨(), trivial⟩, ?_⟩
      intro _
      intro _
      refine ⟨rfl, ?_⟩
      simp only [decide_eq_true_eq] at h2
      refine ⟨x1 + 1, by omega, by omega, rfl, rfl, rfl, rfl, rfl, ?_, rfl, rfl, rfl, rfl, rfl, rfl, trivial⟩
      exact congrArg (Value.int .i64) (wrap_succ (n := x1) (N := (vals x).length) (by omega) (by omega))
    · simp only [decide_eq_false_iff_not] at h2
      have he : x1 = (vals x).length := by omega
      rw [he]
      exact ⟨(), trivial, rfl, rfl, rfl, rfl, rfl, rfl, rfl, trivial⟩

theorem Try.sk35 : SkT Try.prog 35 45 2 (Value.agg #[.int .i64 0, .int .i64 0]) := SkT.of (by kernel_rfl) (by kernel_rfl) (by kernel_rfl) rfl (fun w => by kernel_rfl)
noncomputable def Try.rfA14 : Code := ((rfs (bodyOf Try.f14)).getD 0 (.skip, .skip)).1
noncomputable def Try.rfB14 : Code := ((rfs (bodyOf Try.f14)).getD 0 (.skip, .skip)).2
set_option maxRecDepth 100000 in
theorem pairs_round14_vc (l D : Nat) (fn : FuncId) (tmps : Array Value) (b bm : Nat) (y : RK 2) (kx vx : Int) (fr : Nat → Value) : roundW Try.prog 29 l 400 Try.rfA14 Try.rfB14 (.reg [.sem []] (.reg [.sem []] (.reg [.sem [.rd 1], .sem [], .sem [], .sem [], .sem [.nw 4], .specw [3, 4] [3, 4] (F_appK 2 45), .specw [1] [1] F_put] (.reg [.sem [.rd 1], .eq (f_len), .sem [.rd 2], .gen [] (Sx.one (.bool false))] (.condF (.done)))))) (recOf fn tmps #[16, 17] Try.rfA14 Try.rfB14 D) ⟨putFr (upd (upd fr 5 (Value.pointer (some ⟨b, 0, none⟩))) 3 (Value.pointer (some ⟨bm, 0, none⟩))) [(16, .int .i64 kx), (17, .int .i64 vx)], ofList (loopB l (recOf fn tmps #[16, 17] Try.rfA14 Try.rfB14 D) :: [.blk b (.cells #[sv y.1] 35 (0, 0)), .blk bm (.cells #[.int .i64 100] 3 (0, 0)), (sk 45 y.1)]), []⟩ [1, 2, 3] (X := RK 2) (fun zx : RK 2 => [.blk b (.cells #[sv zx.1] 35 (0, 0)), .blk bm (.cells #[.int .i64 100] 3 (0, 0)), (sk 45 zx.1)]) (fun zx : RK 2 => vals zx.1 = vals y.1 ++ [.agg #[.int .i64 kx, .int .i64 vx]]) =
    ((loopB l (recOf fn tmps #[16, 17] Try.rfA14 Try.rfB14 D)) = loopB l (recOf fn tmps #[16, 17] Try.rfA14 Try.rfB14 D) ∧ b = b ∧ (none : Option Nat) = none ∧ ∀ b1 : Nat, (OpT Try.prog (do pure (.value (← Builtin.append_ #[35, 35] 35 #[sv y.1, .slice (some ⟨b1, 0, none⟩) 1 1]))) [(sk 45 y.1), .blk b1 (.cells #[.int .i64 kx, .int .i64 vx] 45 (0, 0))] (RK 2) (fun zx => sv zx.1) (fun zx => [(sk 45 zx.1), .blk b1 (.cells #[.int .i64 kx, .int .i64 vx] 45 (0, 0))]) (fun zx => vals zx.1 = kvals 2 (sv y.1) (sk 45 y.1) ++ [.agg #[.int .i64 kx, .int .i64 vx]])) ∧ (∃ zx : RK 2, (fun zx => vals zx.1 = kvals 2 (sv y.1) (sk 45 y.1) ++ [.agg #[.int .i64 kx, .int .i64 vx]]) zx) ∧ ∀ x2 : RK 2, (vals x2.1 = kvals 2 (sv y.1) (sk 45 y.1) ++ [.agg #[.int .i64 kx, .int .i64 vx]]) → (OpT Try.prog (do Instr.storeAt 35 (.pointer (some ⟨b, 0, none⟩)) (sv x2.1); pure .skip) [.blk b (.cells #[sv y.1] 35 (0, 0))] Unit (fun _ => .tuple #[]) (fun _ => [.blk b (.cells #[sv x2.1] 35 (0, 0))]) (fun _ => True)) ∧ (∃ zx : Unit, (fun _ => True) zx) ∧ ∀ _ : Unit, (True) → b = b ∧ (none : Option Nat) = none ∧ (PureRun Try.prog (do pure (.value (← Builtin.len_ #[35] 3 #[sv x2.1]))) (.int .i64 ((vlen (sv x2.1) : Nat) : Int))) ∧ bm = bm ∧ (none : Option Nat) = none ∧ (∃ _ : Unit, True ∧ Value.bool (decide (((vlen (sv x2.1) : Nat) : Int) ≥ (100 : Int))) = .bool false) ∧ ∀ _ : Unit, (True) → (false = false) ∧ (loopB l { (recOf fn tmps #[16, 17] Try.rfA14 Try.rfB14 D) with state := .busy }) = loopB l { (recOf fn tmps #[16, 17] Try.rfA14 Try.rfB14 D) with state := .busy } ∧ ∃ zx : RK 2, (vals zx.1 = vals y.1 ++ [.agg #[.int .i64 kx, .int .i64 vx]]) ∧ Slot.blk b (.cells #[sv x2.1] 35 (0, 0)) = .blk b (.cells #[sv zx.1] 35 (0, 0)) ∧ Slot.blk bm (.cells #[.int .i64 100] 3 (0, 0)) = .blk bm (.cells #[.int .i64 100] 3 (0, 0)) ∧ (sk 45 x2.1) = (sk 45 zx.1) ∧ True) := by kernel_rfl
set_option maxRecDepth 100000 in
theorem pairs_round14 (l D : Nat) (fn : FuncId) (tmps : Array Value) (b bm : Nat) (y : RK 2) (kx vx : Int) (hz : tmps.size = 29) (t5 : tmps.getD 5 undef = Value.pointer (some ⟨b, 0, none⟩)) (t3 : tmps.getD 3 undef = Value.pointer (some ⟨bm, 0, none⟩)) (hy : (vals y.1).length < 99) : RoundT Try.prog l #[.int .i64 kx, .int .i64 vx] (loopB l (recOf fn tmps #[16, 17] Try.rfA14 Try.rfB14 D) :: [.blk b (.cells #[sv y.1] 35 (0, 0)), .blk bm (.cells #[.int .i64 100] 3 (0, 0)), (sk 45 y.1)]) (RK 2) (fun _ => .bool true) (fun zx : RK 2 => loopB l (recOf fn tmps #[16, 17] Try.rfA14 Try.rfB14 D) :: [.blk b (.cells #[sv zx.1] 35 (0, 0)), .blk bm (.cells #[.int .i64 100] 3 (0, 0)), (sk 45 zx.1)]) (fun zx : RK 2 => vals zx.1 = vals y.1 ++ [.agg #[.int .i64 kx, .int .i64 vx]]) := by
  refine round_of (n := 29) (fuel := 400) (fr := (upd (upd (fun i => tmps.getD i undef) 5 (Value.pointer (some ⟨b, 0, none⟩))) 3 (Value.pointer (some ⟨bm, 0, none⟩)))) (Hs := [.blk b (.cells #[sv y.1] 35 (0, 0)), .blk bm (.cells #[.int .i64 100] 3 (0, 0)), (sk 45 y.1)]) (us := (fun zx : RK 2 => [.blk b (.cells #[sv zx.1] 35 (0, 0)), .blk bm (.cells #[.int .i64 100] 3 (0, 0)), (sk 45 zx.1)])) Try.mixed hz (fun i => congrFun ((upd_known (f := (fun i => tmps.getD i undef)) (t := 5) (v := Value.pointer (some ⟨b, 0, none⟩)) (t5)).trans (upd_known (f := (upd (fun i => tmps.getD i undef) 5 (Value.pointer (some ⟨b, 0, none⟩)))) (t := 3) (v := Value.pointer (some ⟨bm, 0, none⟩)) ((upd_other _ _ (by decide)).trans (t3)))) i) rfl rfl _ [1, 2, 3] rfl (Eq.mpr (pairs_round14_vc l D fn tmps b bm y kx vx (fun i => tmps.getD i undef)) ?_)
  refine ⟨rfl, ?_⟩
  refine ⟨rfl, rfl, ?_⟩
  intro b1
  refine ⟨xappendK Try.sk35 35 y (by omega) b1 1 #[.int .i64 kx, .int .i64 vx] rfl (List.all_eq_true.1 rfl), wit_appK (kvals_all y _) rfl, ?_⟩
  intro x2
  intro h1
  rw [kvals_eq] at h1
  have ha := h1
  refine ⟨xputv (b := b) (cs := #[sv y.1]) (ty := 35) (te := 35) (fun w => by kernel_rfl) 0 (sv x2.1) (cells_sv _) (one_sv _) (by show 0 < 1; decide), ⟨(), trivial⟩, ?_⟩
  intro _
  intro _
  refine ⟨rfl, rfl, xlenK Try.sk35 3 x2.1, rfl, rfl, ⟨(), trivial, congrArg Value.bool (by rw [vlen_sv, ha]; simp; omega)⟩, ?_⟩
  intro _
  intro _
  refine ⟨rfl, ?_⟩
  exact ⟨rfl, x2, ha, rfl, rfl, rfl, trivial⟩

def law_pairs14_100_C : List Value → List Slot → Ctr := fun vs hs => ⟨RK 2, fun zx => sv zx.1, fun zx => [(sk 45 zx.1)], fun zx => vals zx.1 = pairsOf (Value.int .i64 0) (skv (sarg hs 3)) (vals (rrow (scell (sarg hs 0) 0) (sarg hs 1)))⟩
set_option maxRecDepth 100000 in
theorem law_pairs14_100_vc (c1 : Nat) (c2 : Nat) (n : Nat) (x : Row) (m : KV) : codeW Try.prog 29 none 2000 none (bodyOf Try.f14) (.reg [.sem [.nw 4], .sem []] (.reg [.sem [.nw 5]] (.reg [.sem [], .sem [], .sem [], .sem [.rd 4], .sem [], .sem []] (.condF (.reg [.sem []] (.rf [15, 5, 3] [0, 1, 2, 3, 5, 4] [50, 0, 1, 2, 3, 5, 4, 61] (fun _ hs => ⟨RK 2, fun _ => undef, fun zx => [(sarg hs 0), (sarg hs 1), (sarg hs 2), (sarg hs 3), .blk (sblk (sarg hs 4)) (.cells #[sv zx.1] 35 (0, 0)), .blk (sblk (sarg hs 5)) (.cells #[.int .i64 100] 3 (0, 0)), (sk 45 zx.1)], fun zx => vals zx.1 = pairsOf (Value.int .i64 0) m ((vals x).take (vals x).length)⟩) (.reg [.sem [.rd 5], .sem []] (.done))))))))
    (init #[.func (.func 34) #[] #[.pointer (some ⟨c1, 0, none⟩), .pointer (some ⟨c2, 0, none⟩)], .int .i64 100] [.blk c1 (.cells #[sv x] 41 (0, 0)), (ss 3 x), .blk c2 (.cells #[.map (some n)] 68 (0, 0)), (mo n m)]) (finM Try.prog Try.f14 [] [0, 1, 2, 3, 61] 50 (X := RK 2) (fun zx => sv zx.1) (fun zx => [.blk c1 (.cells #[sv x] 41 (0, 0)), (ss 3 x), .blk c2 (.cells #[.map (some n)] 68 (0, 0)), (mo n m), (sk 45 zx.1)]) (fun zx => (vals zx.1 = pairsOf (Value.int .i64 0) m (vals (rrow (sv x) (ss 3 x)))))) =
    (∀ b1 : Nat, ∀ b2 : Nat, false = false ∧ b1 = b1 ∧ (none : Option Nat) = none ∧ false = false ∧ (false = false) ∧ (∀ fr' : Nat → Value, fr' 15 = Value.func (.func 34) #[] #[.pointer (some ⟨c1, 0, none⟩), .pointer (some ⟨c2, 0, none⟩)] → fr' 5 = Value.pointer (some ⟨b2, 0, none⟩) → fr' 3 = Value.pointer (some ⟨b1, 0, none⟩) → RangeT Try.prog 29 (Operand.tmp 15) #[16, 17] Try.rfA14 Try.rfB14 fr' [.blk c1 (.cells #[sv x] 41 (0, 0)), (ss 3 x), .blk c2 (.cells #[.map (some n)] 68 (0, 0)), (mo n m), .blk b2 (.cells #[.slice none 0 0] 35 (0, 0)), .blk b1 (.cells #[.int .i64 100] 3 (0, 0))] (RK 2) (fun zx => [.blk c1 (.cells #[sv x] 41 (0, 0)), (ss 3 x), .blk c2 (.cells #[.map (some n)] 68 (0, 0)), (mo n m), .blk b2 (.cells #[sv zx.1] 35 (0, 0)), .blk b1 (.cells #[.int .i64 100] 3 (0, 0)), (sk 45 zx.1)]) (fun zx => vals zx.1 = pairsOf (Value.int .i64 0) m ((vals x).take (vals x).length))) ∧ (∃ zx : RK 2, vals zx.1 = pairsOf (Value.int .i64 0) m ((vals x).take (vals x).length)) ∧ ∀ (d3 : Nat) (x4 : RK 2), (vals x4.1 = pairsOf (Value.int .i64 0) m ((vals x).take (vals x).length)) → b2 = b2 ∧ (none : Option Nat) = none ∧ Slot.blk d3 (.deferred (some [])) = .blk d3 (.deferred (some [])) ∧ ∃ zx : RK 2, (vals zx.1 = pairsOf (Value.int .i64 0) m (vals (rrow (sv x) (ss 3 x)))) ∧ sv x4.1 = sv zx.1 ∧ Slot.blk c1 (.cells #[sv x] 41 (0, 0)) = .blk c1 (.cells #[sv x] 41 (0, 0)) ∧ (ss 3 x) = (ss 3 x) ∧ Slot.blk c2 (.cells #[.map (some n)] 68 (0, 0)) = .blk c2 (.cells #[.map (some n)] 68 (0, 0)) ∧ (mo n m) = (mo n m) ∧ (sk 45 x4.1) = (sk 45 zx.1) ∧ True) := by kernel_rfl
set_option maxRecDepth 100000 in
theorem law_pairs14_100 (c1 : Nat) (c2 : Nat) (n : Nat) (x : Row) (m : KV) (r_x : AOK x) (hk : KOK Try.mk70 m) (hl : m.length < 100) (hx : KeysOf .i64 m (vals x)) : CallT Try.prog 14 #[.func (.func 34) #[] #[.pointer (some ⟨c1, 0, none⟩), .pointer (some ⟨c2, 0, none⟩)], .int .i64 100] [.blk c1 (.cells #[sv x] 41 (0, 0)), (ss 3 x), .blk c2 (.cells #[.map (some n)] 68 (0, 0)), (mo n m)] (RK 2) (fun zx => sv zx.1) (fun zx => [.blk c1 (.cells #[sv x] 41 (0, 0)), (ss 3 x), .blk c2 (.cells #[.map (some n)] 68 (0, 0)), (mo n m), (sk 45 zx.1)]) (fun zx => (vals zx.1 = pairsOf (Value.int .i64 0) m (vals (rrow (sv x) (ss 3 x))))) := by
  refine call_of_mark (c := bodyOf Try.f14) (n := 29) (fn := Try.f14) Try.mixed Try.func14 (by kernel_rfl) (by kernel_rfl) (by kernel_rfl) 2000 _ [] [0, 1, 2, 3, 61] 50 rfl rfl (Eq.mpr (law_pairs14_100_vc c1 c2 n x m) ?_)
  have d_x := rrow_vals x 3
  have hL : (vals x).length < 100 := by have := hx.1.length_eq; simp at this; omega
  intro b1
  intro b2
  refine ⟨rfl, rfl, rfl, rfl, ?_⟩
  refine ⟨rfl, ?_⟩
  refine ⟨fun fr' ht hb hc => range_all [.blk c1 (.cells #[sv x] 41 (0, 0)), (ss 3 x), .blk c2 (.cells #[.map (some n)] 68 (0, 0)), (mo n m)] (len := (vals x).length) (fun i => #[(vals x).getD i undef, (mget m ((vals x).getD i undef)).getD (Value.int .i64 0)]) (by exact ht) (fun l rec T hT => keys_All1_70 l rec c1 c2 n x m T hk (by omega) hx hT) (fun y => [.blk b2 (.cells #[sv y.1] 35 (0, 0)), .blk b1 (.cells #[.int .i64 100] 3 (0, 0)), (sk 45 y.1)]) (fun i y => vals y.1 = pairsOf (Value.int .i64 0) m ((vals x).take i)) (fun l D fn tmps i y hi hy hz hf => by
    obtain ⟨kx, hkx⟩ := hx.2.2 _ (getD_mem (d := undef) hi)
    obtain ⟨vx, _, hvx⟩ := kok_val hk (z := (Value.int .i64 0)) ⟨0, rfl, rfl⟩ ((vals x).getD i undef)
    exact round_conv (pairs_round14 l D fn tmps b2 b1 y kx vx hz ((hf 5).trans hb) ((hf 3).trans hc) (by rw [hy]; unfold pairsOf; simp; omega)) (by show #[_, _] = _; rw [hvx, hkx]) (fun z hz => by rw [hz, hy, pairsOf_take hi, hvx, hkx])) (RK.nil 2) rfl imp_free2, wit_pairs _ _ _, fun d3 x4 h1 => ?_⟩
  refine ⟨rfl, rfl, ?_⟩
  refine ⟨rfl, ?_⟩
  exact ⟨x4, by rw [d_x, h1, List.take_length], rfl, rfl, rfl, rfl, rfl, rfl, trivial⟩

noncomputable def Try.rfA12 : Code := ((rfs (bodyOf Try.f12)).getD 0 (.skip, .skip)).1
noncomputable def Try.rfB12 : Code := ((rfs (bodyOf Try.f12)).getD 0 (.skip, .skip)).2
set_option maxRecDepth 100000 in
theorem slices_Backward_1_vc (l : Nat) (rec : Loop) (row : Rw) (m : Nat) (c : Nat) (T : Nat → List Slot) : codeW Try.prog 19 none 2000 none (bodyOf Try.f48) (.reg [.sem [.rd 2], .eq (f_len), .gen [] (fun vs => Sx.one (.int .i64 (ci (varg vs 0) - ci (varg vs 1))) vs), .sem []] (.inv Nat (fun zx => [(0, .func (.yield l) #[] #[]), (1, .pointer (some ⟨c, 0, none⟩)), (3, .int .i64 (((zx : Nat) : Int) - 1))]) (fun zx => [(0, (loopB l rec)), (1, (ss 1 row)), (2, .blk c (.cells #[vdrop (sv row) m] 25 (0, 0))), (3, (bunL (T zx)))]) (fun zx => zx ≤ vlen (vdrop (sv row) m)) (fun zx => zx) (fun x1 => .reg [.sem [], .sem []] (.cond (.reg [.sem [], .sem [], .sem [.rd 2], .sem [], .eq (fun _ => .pointer (some ⟨(vblk (sv row)), (m + Int.toNat (((x1 : Nat) : Int) - 1)), none⟩)), .specr [1] (fun _ hs => ⟨Unit, fun _ => ((vals row).getD (m + Int.toNat (((x1 : Nat) : Int) - 1)) undef), fun _ => hs, fun _ => True⟩), .callw [0, 3] [0, 3] (fun _ _ => ⟨Unit, fun _ => .bool true, fun _ => [(loopB l rec), (bunL (T (x1 - 1)))], fun _ => True⟩), .sem []] (.condF (.reg [.sem [], .gen [] (fun vs => Sx.one (.int .i64 (ci (varg vs 0) - ci (varg vs 1))) vs), .sem []] (.done)))) (.done)))))
    (init #[.func (.yield l) #[] #[], .pointer (some ⟨c, 0, none⟩)] [(loopB l rec), (ss 1 row), .blk c (.cells #[vdrop (sv row) m] 25 (0, 0)), (bunL (T (vlen (vdrop (sv row) m))))]) (finW Try.prog Try.f48 [] [0, 1, 3] (X := Unit) (fun _ => .tuple #[]) (fun _ => [(loopB l rec), (ss 1 row), (bunL (T 0))]) (fun _ => True)) =
    (c = c ∧ (none : Option Nat) = none ∧ (PureRun Try.prog (do pure (.value (← Builtin.len_ #[25] 3 #[vdrop (sv row) m]))) (.int .i64 ((vlen (vdrop (sv row) m) : Nat) : Int))) ∧ (∃ _ : Unit, True ∧ Value.int .i64 (IntKind.i64.wrap (((vlen (vdrop (sv row) m) : Nat) : Int) - 1)) = .int .i64 (((vlen (vdrop (sv row) m) : Nat) : Int) - 1)) ∧ ∀ _ : Unit, (True) → (∃ zx : Nat, (zx ≤ vlen (vdrop (sv row) m)) ∧ Value.func (.yield l) #[] #[] = .func (.yield l) #[] #[] ∧ Value.pointer (some ⟨c, 0, none⟩) = .pointer (some ⟨c, 0, none⟩) ∧ Value.int .i64 (((vlen (vdrop (sv row) m) : Nat) : Int) - 1) = .int .i64 (((zx : Nat) : Int) - 1) ∧ (loopB l rec) = (loopB l rec) ∧ (ss 1 row) = (ss 1 row) ∧ Slot.blk c (.cells #[vdrop (sv row) m] 25 (0, 0)) = .blk c (.cells #[vdrop (sv row) m] 25 (0, 0)) ∧ (bunL (T (vlen (vdrop (sv row) m)))) = (bunL (T zx)) ∧ True) ∧ ∀ x1 : Nat, ∀ jx1 : Nat → Value, (x1 ≤ vlen (vdrop (sv row) m)) → ((decide ((((x1 : Nat) : Int) - 1) ≥ (0 : Int))) = true → c = c ∧ (none : Option Nat) = none ∧ (PureRun Try.prog (do pure (.value (← Instr.indexAt 25 (vdrop (sv row) m) (.int .i64 (((x1 : Nat) : Int) - 1))))) (.pointer (some ⟨(vblk (sv row)), (m + Int.toNat (((x1 : Nat) : Int) - 1)), none⟩))) ∧ (OpT Try.prog (do pure (.value (← Instr.loadAt 1 (.pointer (some ⟨(vblk (sv row)), (m + Int.toNat (((x1 : Nat) : Int) - 1)), none⟩))))) [(ss 1 row)] Unit (fun _ => ((vals row).getD (m + Int.toNat (((x1 : Nat) : Int) - 1)) undef)) (fun _ => [(ss 1 row)]) (fun _ => True)) ∧ (∃ zx : Unit, (fun _ => True) zx) ∧ ∀ _ : Unit, (True) → (RoundT Try.prog l #[.int .i64 (((x1 : Nat) : Int) - 1), ((vals row).getD (m + Int.toNat (((x1 : Nat) : Int) - 1)) undef)] [(loopB l rec), (bunL (T x1))] Unit (fun _ => .bool true) (fun _ => [(loopB l rec), (bunL (T (x1 - 1)))]) (fun _ => True)) ∧ (∃ zx : Unit, (fun _ => True) zx) ∧ ∀ _ : Unit, (True) → (false = false) ∧ (∃ _ : Unit, True ∧ Value.int .i64 (IntKind.i64.wrap ((((x1 : Nat) : Int) - 1) - 1)) = .int .i64 ((((x1 : Nat) : Int) - 1) - 1)) ∧ ∀ _ : Unit, (True) → ∃ zy : Nat, (zy ≤ vlen (vdrop (sv row) m)) ∧ zy < x1 ∧ Value.func (.yield l) #[] #[] = .func (.yield l) #[] #[] ∧ Value.pointer (some ⟨c, 0, none⟩) = .pointer (some ⟨c, 0, none⟩) ∧ Value.int .i64 ((((x1 : Nat) : Int) - 1) - 1) = .int .i64 (((zy : Nat) : Int) - 1) ∧ (loopB l rec) = (loopB l rec) ∧ (ss 1 row) = (ss 1 row) ∧ Slot.blk c (.cells #[vdrop (sv row) m] 25 (0, 0)) = .blk c (.cells #[vdrop (sv row) m] 25 (0, 0)) ∧ (bunL (T (x1 - 1))) = (bunL (T zy)) ∧ True) ∧ ((decide ((((x1 : Nat) : Int) - 1) ≥ (0 : Int))) = false → ∃ _ : Unit, (True) ∧ Value.tuple #[] = .tuple #[] ∧ (loopB l rec) = (loopB l rec) ∧ (ss 1 row) = (ss 1 row) ∧ (bunL (T x1)) = (bunL (T 0)) ∧ True)) := by kernel_rfl
set_option maxRecDepth 100000 in
theorem slices_Backward_1 (l : Nat) (rec : Loop) (row : Rw) (m : Nat) (c : Nat) (T : Nat → List Slot) (hm : m ≤ (vals row).length) (hl : (vals row).length ≤ 1073741824) (hT : ∀ x, 0 < x → x ≤ vlen (vdrop (sv row) m) → RoundT Try.prog l #[.int .i64 (((x : Nat) : Int) - 1), (vals row).getD (m + Int.toNat (((x : Nat) : Int) - 1)) undef] [loopB l rec, bunL (T x)] Unit (fun _ => .bool true) (fun _ => [loopB l rec, bunL (T (x - 1))]) (fun _ => True)) : CallT Try.prog 48 #[.func (.yield l) #[] #[], .pointer (some ⟨c, 0, none⟩)] [(loopB l rec), (ss 1 row), .blk c (.cells #[vdrop (sv row) m] 25 (0, 0)), (bunL (T (vlen (vdrop (sv row) m))))] Unit (fun _ => .tuple #[]) (fun _ => [(loopB l rec), (ss 1 row), (bunL (T 0))]) (fun _ => True) := by
  refine call_of (c := bodyOf Try.f48) (n := 19) (fn := Try.f48) Try.mixed Try.func48 (by kernel_rfl) (by kernel_rfl) (by kernel_rfl) 2000 _ [] [0, 1, 3] rfl rfl (Eq.mpr (slices_Backward_1_vc l rec row m c T) ?_)
  have hv0 := vlen_drop row m
  refine ⟨rfl, rfl, xdlen Try.sl25 3 row m, ⟨(), trivial, congrArg (Value.int .i64) (wrap_i64 _ (by first | omega | ((try simp (disch := first | assumption | exact R4_zero | exact R4_one) only [num_vI, decide_eq_true_eq, decide_eq_false_iff_not, gt_iff_lt, ge_iff_le, beq_iff_eq, beq_eq_false_iff_ne, bne_iff_ne, bne_eq_false_iff_eq, ne_eq] at *); omega)) (by first | omega | ((try simp (disch := first | assumption | exact R4_zero | exact R4_one) only [num_vI, decide_eq_true_eq, decide_eq_false_iff_not, gt_iff_lt, ge_iff_le, beq_iff_eq, beq_eq_false_iff_ne, bne_iff_ne, bne_eq_false_iff_eq, ne_eq] at *); omega)))⟩, ?_⟩
  intro _
  intro _
  refine ⟨?_, fun x1 jx1 h1 => ?_⟩
  · exact ⟨vlen (vdrop (sv row) m), Nat.le_refl _, rfl, rfl, rfl, rfl, rfl, rfl, rfl, trivial⟩
  · have hv := vlen_drop row m
    refine ⟨fun h2 => ?_, fun h2 => ?_⟩
    · refine ⟨rfl, rfl, xdidx Try.sl25 row m .i64 (((x1 : Nat) : Int) - 1) (by (try simp (disch := first | assumption | exact R4_zero | exact R4_one) only [num_vI, decide_eq_true_eq, decide_eq_false_iff_not, gt_iff_lt, ge_iff_le, beq_iff_eq, beq_eq_false_iff_ne, bne_iff_ne, bne_eq_false_iff_eq, ne_eq] at *); omega) (by (try simp (disch := first | assumption | exact R4_zero | exact R4_one) only [num_vI, decide_eq_true_eq, decide_eq_false_iff_not, gt_iff_lt, ge_iff_le, beq_iff_eq, beq_eq_false_iff_ne, bne_iff_ne, bne_eq_false_iff_eq, ne_eq] at *); omega), xget row 1 (fun w => by kernel_rfl) (m + Int.toNat (((x1 : Nat) : Int) - 1)) _ (getD_some (by (try simp (disch := first | assumption | exact R4_zero | exact R4_one) only [num_vI, decide_eq_true_eq, decide_eq_false_iff_not, gt_iff_lt, ge_iff_le, beq_iff_eq, beq_eq_false_iff_ne, bne_iff_ne, bne_eq_false_iff_eq, ne_eq] at *); omega)), ⟨(), trivial⟩, ?_⟩
      intro _
      intro _
      refine ⟨hT x1 (by (try simp (disch := first | assumption | exact R4_zero | exact R4_one) only [num_vI, decide_eq_true_eq, decide_eq_false_iff_not, gt_iff_lt, ge_iff_le, beq_iff_eq, beq_eq_false_iff_ne, bne_iff_ne, bne_eq_false_iff_eq, ne_eq] at *); omega) h1, ⟨(), trivial⟩, ?_⟩
      intro _
      intro _
      refine ⟨rfl, ?_⟩
      refine ⟨⟨(), trivial, congrArg (Value.int .i64) (wrap_i64 _ (by first | omega | ((try simp (disch := first | assumption | exact R4_zero | exact R4_one) only [num_vI, decide_eq_true_eq, decide_eq_false_iff_not, gt_iff_lt, ge_iff_le, beq_iff_eq, beq_eq_false_iff_ne, bne_iff_ne, bne_eq_false_iff_eq, ne_eq] at *); omega)) (by first | omega | ((try simp (disch := first | assumption | exact R4_zero | exact R4_one) only [num_vI, decide_eq_true_eq, decide_eq_false_iff_not, gt_iff_lt, ge_iff_le, beq_iff_eq, beq_eq_false_iff_ne, bne_iff_ne, bne_eq_false_iff_eq, ne_eq] at *); omega)))⟩, ?_⟩
      intro _
      intro _
      have hx0 : 0 < x1 := by (try simp (disch := first | assumption | exact R4_zero | exact R4_one) only [num_vI, decide_eq_true_eq, decide_eq_false_iff_not, gt_iff_lt, ge_iff_le, beq_iff_eq, beq_eq_false_iff_ne, bne_iff_ne, bne_eq_false_iff_eq, ne_eq] at *); omega
      exact ⟨x1 - 1, by omega, by omega, rfl, rfl, congrArg (Value.int .i64) (by omega), rfl, rfl, rfl, rfl, trivial⟩
    · exact ⟨(), trivial, rfl, rfl, rfl, congrArg (fun k => bunL (T k)) (by (try simp (disch := first | assumption | exact R4_zero | exact R4_one) only [num_vI, decide_eq_true_eq, decide_eq_false_iff_not, gt_iff_lt, ge_iff_le, beq_iff_eq, beq_eq_false_iff_ne, bne_iff_ne, bne_eq_false_iff_eq, ne_eq] at *); omega), trivial⟩

def slices_Backward_C : List Value → List Slot → Ctr := fun vs hs => ⟨Nat, fun zx => .func (.func 48) #[] #[.pointer (some ⟨zx, 0, none⟩)], fun zx => [.blk zx (.cells #[(varg vs 1)] 25 (0, 0))], fun zx => True⟩
set_option maxRecDepth 100000 in
theorem slices_Backward_vc (v : Value) : codeW Try.prog 4 none 2000 none (bodyOf Try.f32) (.reg [.sem [.nw 20], .sem []] (.reg [.sem [], .sem []] (.done)))
    (init #[v] []) (finW Try.prog Try.f32 [] [20] (X := Nat) (fun zx => .func (.func 48) #[] #[.pointer (some ⟨zx, 0, none⟩)]) (fun zx => [.blk zx (.cells #[v] 25 (0, 0))]) (fun zx => (True))) =
    (∀ b1 : Nat, ∃ zx : Nat, (True) ∧ Value.func (.func 48) #[] #[.pointer (some ⟨b1, 0, none⟩)] = .func (.func 48) #[] #[.pointer (some ⟨zx, 0, none⟩)] ∧ Slot.blk b1 (.cells ((v).cells) 25 (0, 0)) = .blk zx (.cells #[v] 25 (0, 0)) ∧ True) := by kernel_rfl
set_option maxRecDepth 100000 in
theorem slices_Backward (v : Value) (hv : v.cells = #[v]) : CallT Try.prog 32 #[v] [] Nat (fun zx => .func (.func 48) #[] #[.pointer (some ⟨zx, 0, none⟩)]) (fun zx => [.blk zx (.cells #[v] 25 (0, 0))]) (fun zx => (True)) := by
  refine call_of (c := bodyOf Try.f32) (n := 4) (fn := Try.f32) Try.mixed Try.func32 (by kernel_rfl) (by kernel_rfl) (by kernel_rfl) 2000 _ [] [20] rfl rfl (Eq.mpr (slices_Backward_vc v) ?_)
  intro b1
  exact ⟨b1, trivial, rfl, congrArg (fun q => Slot.blk b1 (.cells q 25 (0, 0))) hv, trivial⟩

set_option maxRecDepth 100000 in
theorem stage_Back_raw_vc (bj : Nat) (row : Rw) (mark : Int) (T : Nat → List Slot) : codeW Try.prog 38 none 2000 none (bodyOf Try.f12) (.reg [.sem []] (.reg [.sem [], .gen [] (Sx.one (.bool false)), .sem [], .sem [], .sem [], .sem [], .sem [], .sem [.rd 0], .eq (f_len), .gen [] (Sx.one (.bool false)), .sem []] (.condF (.reg [.sem [], .sem [], .sem [], .sem [.rd 0], .sem [], .eq (fun _ => vdrop (sv row) (Int.toNat mark)), .callw [] [3] slices_Backward_C] (.rf [24] [1, 3, 2] [50, 1, 2] (fun _ hs => ⟨Unit, fun _ => undef, fun _ => [(ss 1 row), (bunL (T 0))], fun _ => True⟩) (.reg [.sem [], .sem [], .sem [], .sem [], .sem [.rd 0], .sem [], .eq (f_take), .sem [], .sem [], .specw [0] [0] F_put] (.reg [.sem []] (.done))))))))
    (init #[.pointer (some ⟨bj, 0, none⟩), .int .i64 mark] [.blk bj (.cells #[sv row] 27 (0, 0)), (ss 1 row), (bunL (T (vlen (vdrop (sv row) (Int.toNat mark)))))]) (finM Try.prog Try.f12 [] [0, 1, 2] 50 (X := Unit) (fun _ => .bool true) (fun _ => [.blk bj (.cells #[(vtake (sv row) (Int.toNat mark))] 27 (0, 0)), (ss 1 row), (bunL (T 0))]) (fun _ => True)) =
    ((∃ _ : Unit, True ∧ Value.bool (decide (mark < (0 : Int))) = .bool false) ∧ ∀ _ : Unit, (True) → false = false ∧ false = false ∧ false = false ∧ false = false ∧ false = false ∧ bj = bj ∧ (none : Option Nat) = none ∧ false = false ∧ (PureRun Try.prog (do pure (.value (← Builtin.len_ #[25] 3 #[sv row]))) (.int .i64 ((vlen (sv row) : Nat) : Int))) ∧ false = false ∧ (∃ _ : Unit, True ∧ Value.bool (decide (mark > ((vlen (sv row) : Nat) : Int))) = .bool false) ∧ ∀ _ : Unit, (True) → (false = false) ∧ bj = bj ∧ (none : Option Nat) = none ∧ (PureRun Try.prog (do pure (.value (← Instr.sliceAt 25 (sv row) (some (.int .i64 mark)) none none))) (vdrop (sv row) (Int.toNat mark))) ∧ (CallT Try.prog 32 #[vdrop (sv row) (Int.toNat mark)] [] Nat (fun zx => .func (.func 48) #[] #[.pointer (some ⟨zx, 0, none⟩)]) (fun zx => [.blk zx (.cells #[(vdrop (sv row) (Int.toNat mark))] 25 (0, 0))]) (fun zx => True)) ∧ (∃ zx : Nat, (fun zx => True) zx) ∧ ∀ x1 : Nat, (True) → (∀ fr' : Nat → Value, fr' 24 = Value.func (.func 48) #[] #[.pointer (some ⟨x1, 0, none⟩)] → RangeT Try.prog 38 (Operand.tmp 24) #[25, 26] Try.rfA12 Try.rfB12 fr' [(ss 1 row), .blk x1 (.cells #[(vdrop (sv row) (Int.toNat mark))] 25 (0, 0)), (bunL (T (vlen (vdrop (sv row) (Int.toNat mark)))))] Unit (fun _ => [(ss 1 row), (bunL (T 0))]) (fun _ => True)) ∧ (∃ _ : Unit, True) ∧ ∀ (d2 : Nat) (_ : Unit), (True) → bj = bj ∧ (none : Option Nat) = none ∧ (PureRun Try.prog (do pure (.value (← Instr.sliceAt 25 (sv row) none (some (.int .i64 mark)) none))) ((vtake (sv row) (Int.toNat mark)))) ∧ (OpT Try.prog (do Instr.storeAt 25 (.pointer (some ⟨bj, 0, none⟩)) ((vtake (sv row) (Int.toNat mark))); pure .skip) [.blk bj (.cells #[sv row] 27 (0, 0))] Unit (fun _ => .tuple #[]) (fun _ => [.blk bj (.cells #[(vtake (sv row) (Int.toNat mark))] 27 (0, 0))]) (fun _ => True)) ∧ (∃ zx : Unit, (fun _ => True) zx) ∧ ∀ _ : Unit, (True) → Slot.blk d2 (.deferred (some [])) = .blk d2 (.deferred (some [])) ∧ ∃ _ : Unit, (True) ∧ Value.bool true = .bool true ∧ Slot.blk bj (.cells #[(vtake (sv row) (Int.toNat mark))] 27 (0, 0)) = .blk bj (.cells #[(vtake (sv row) (Int.toNat mark))] 27 (0, 0)) ∧ (ss 1 row) = (ss 1 row) ∧ (bunL (T 0)) = (bunL (T 0)) ∧ True) := by kernel_rfl
set_option maxRecDepth 100000 in
theorem stage_Back_raw (bj : Nat) (row : Rw) (mark : Int) (T : Nat → List Slot) (h0 : 0 ≤ mark) (hm : mark ≤ ((vals row).length : Nat)) (hl : (vals row).length ≤ 1073741824) (hT : ∀ (l D : Nat) (fn : FuncId) (tmps : Array Value), tmps.size = 38 → ∀ x, 0 < x → x ≤ vlen (vdrop (sv row) (Int.toNat mark)) → RoundT Try.prog l #[.int .i64 (((x : Nat) : Int) - 1), (vals row).getD (Int.toNat mark + Int.toNat (((x : Nat) : Int) - 1)) undef] [loopB l (recOf fn tmps #[25, 26] Try.rfA12 Try.rfB12 D), bunL (T x)] Unit (fun _ => .bool true) (fun _ => [loopB l (recOf fn tmps #[25, 26] Try.rfA12 Try.rfB12 D), bunL (T (x - 1))]) (fun _ => True)) : CallT Try.prog 12 #[.pointer (some ⟨bj, 0, none⟩), .int .i64 mark] [.blk bj (.cells #[sv row] 27 (0, 0)), (ss 1 row), (bunL (T (vlen (vdrop (sv row) (Int.toNat mark)))))] Unit (fun _ => .bool true) (fun _ => [.blk bj (.cells #[(vtake (sv row) (Int.toNat mark))] 27 (0, 0)), (ss 1 row), (bunL (T 0))]) (fun _ => True) := by
  refine call_of_mark (c := bodyOf Try.f12) (n := 38) (fn := Try.f12) Try.mixed Try.func12 (by kernel_rfl) (by kernel_rfl) (by kernel_rfl) 2000 _ [] [0, 1, 2] 50 rfl rfl (Eq.mpr (stage_Back_raw_vc bj row mark T) ?_)
  have hv1 := vlen_sv row
  refine ⟨⟨(), trivial, congrArg Value.bool (decide_eq_false (by omega))⟩, ?_⟩
  intro _
  intro _
  refine ⟨rfl, rfl, rfl, rfl, rfl, rfl, rfl, rfl, xlen Try.sl25 3 row, rfl, ⟨(), trivial, congrArg Value.bool (decide_eq_false (by omega))⟩, ?_⟩
  intro _
  intro _
  refine ⟨rfl, ?_⟩
  refine ⟨rfl, rfl, xdrop Try.sl25 row .i64 mark (by omega) (by omega), slices_Backward (vdrop (sv row) (Int.toNat mark)) (cells_vdrop _ _), ⟨0, trivial⟩, ?_⟩
  intro x1
  intro h1
  refine ⟨fun fr' h24 => range_of (val := fun _ => undef) (cap := #[.pointer (some ⟨x1, 0, none⟩)]) h24 fun l D fn tmps hz _ => slices_Backward_1 l (recOf fn tmps #[25, 26] Try.rfA12 Try.rfB12 D) row (Int.toNat mark) x1 T (by omega) hl (hT l D fn tmps hz), ⟨(), trivial⟩, fun d2 _ _ => ?_⟩
  refine ⟨rfl, rfl, xtake Try.sl25 row .i64 mark (by omega) (by omega), xputv (b := bj) (cs := #[sv row]) (ty := 27) (te := 25) (fun w => by kernel_rfl) 0 ((vtake (sv row) (Int.toNat mark))) (cells_vtake _ _) (one_vtake _ _) (by show 0 < 1; decide), ⟨(), trivial⟩, ?_⟩
  intro _
  intro _
  refine ⟨rfl, ?_⟩
  exact ⟨(), trivial, rfl, rfl, rfl, rfl, trivial⟩

set_option maxRecDepth 100000 in
theorem stage_round_vc (l D : Nat) (fn : FuncId) (tmps : Array Value) (i : Int) (e : Ent) (a : N4) (S1 S0 : List Slot) (fr : Nat → Value) : roundW Try.prog 38 l 200 Try.rfA12 Try.rfB12 (.reg [.sem []] (.reg [.sem [], .callw [1] [1] (fun _ _ => ⟨Unit, fun _ => undef, fun _ => [bunL S0], fun _ => True⟩)] .done)) (recOf fn tmps #[25, 26] Try.rfA12 Try.rfB12 D) ⟨putFr fr [(25, .int .i64 i), (26, e.fn a)], ofList (loopB l (recOf fn tmps #[25, 26] Try.rfA12 Try.rfB12 D) :: [bunL S1]), []⟩ [1] (fun _ : Unit => [bunL S0]) (fun _ => True) = (loopB l (recOf fn tmps #[25, 26] Try.rfA12 Try.rfB12 D) = loopB l (recOf fn tmps #[25, 26] Try.rfA12 Try.rfB12 D) ∧ (CallT Try.prog e.g #[ptr a.1, ptr a.2.1, ptr a.2.2.1, ptr a.2.2.2] [bunL S1] Unit (fun _ => undef) (fun _ => [bunL S0]) (fun _ => True)) ∧ (∃ _ : Unit, True) ∧ ∀ _ : Unit, True → loopB l { (recOf fn tmps #[25, 26] Try.rfA12 Try.rfB12 D) with state := .busy } = loopB l { (recOf fn tmps #[25, 26] Try.rfA12 Try.rfB12 D) with state := .busy } ∧ ∃ _ : Unit, True ∧ bunL S0 = bunL S0 ∧ True) := by kernel_rfl
theorem stage_round (l D : Nat) (fn : FuncId) (tmps : Array Value) (i : Int) (e : Ent) (a : N4) (S1 S0 : List Slot) (hz : tmps.size = 38) (hc : CallT Try.prog e.g #[ptr a.1, ptr a.2.1, ptr a.2.2.1, ptr a.2.2.2] [bunL S1] Unit (fun _ => undef) (fun _ => [bunL S0]) (fun _ => True)) : RoundT Try.prog l #[.int .i64 i, Ent.fn e a] [loopB l (recOf fn tmps #[25, 26] Try.rfA12 Try.rfB12 D), bunL S1] Unit (fun _ => .bool true) (fun _ => [loopB l (recOf fn tmps #[25, 26] Try.rfA12 Try.rfB12 D), bunL S0]) (fun _ => True) :=
  round_of (n := 38) (fuel := 200) (Hs := [bunL S1]) (us := fun _ => [bunL S0]) Try.mixed hz (fun _ => rfl) rfl rfl (.reg [.sem []] (.reg [.sem [], .callw [1] [1] (fun _ _ => ⟨Unit, fun _ => undef, fun _ => [bunL S0], fun _ => True⟩)] .done)) [1] rfl (Eq.mpr (stage_round_vc l D fn tmps i e a S1 S0 (fun i => tmps.getD i undef)) ⟨rfl, hc, ⟨(), trivial⟩, fun _ _ => ⟨rfl, (), trivial, rfl, trivial⟩⟩)
set_option maxRecDepth 100000 in
theorem stage_undo_raw70_vc (b : Nat) (bj : Nat) (r : Nat) (m : KV) (c0 : Nat) (c1 : Nat) (c2 : Nat) (c3 : Nat) (is : Bool) (v : Int) (k : Int) : codeW Try.prog 16 none 2000 none (bodyOf Try.f50) (.reg [.sem [.rd 2]] (.cond (.reg [.sem [.rd 4], .sem [], .sem [], .sem [.rd 0], .sem [.rd 5], .sem [.rd 3], .specw [1] [1] F_upd] (.done)) (.reg [.sem [.rd 4], .sem [], .sem [], .sem [.rd 0], .sem [.rd 5], .specw [1] [1] F_del] (.done))))
    (init #[.pointer (some ⟨c0, 0, none⟩), .pointer (some ⟨c1, 0, none⟩), .pointer (some ⟨c2, 0, none⟩), .pointer (some ⟨c3, 0, none⟩)] [.blk b (.cells #[.map (some r), .pointer (some ⟨bj, 0, none⟩), .func (.func 9) #[] #[]] 70 (0, 0)), (mo r m), .blk c0 (.cells #[.bool is] 4 (0, 0)), .blk c1 (.cells #[.int .i64 v] 3 (0, 0)), .blk c2 (.cells #[.pointer (some ⟨b, 0, none⟩)] 28 (0, 0)), .blk c3 (.cells #[.int .i64 k] 3 (0, 0))]) (finW Try.prog Try.f50 [] [0, 1, 2, 3, 4, 5] (X := KV) (fun zx => .tuple #[]) (fun zx => [.blk b (.cells #[.map (some r), .pointer (some ⟨bj, 0, none⟩), .func (.func 9) #[] #[]] 70 (0, 0)), (mo r zx), .blk c0 (.cells #[.bool is] 4 (0, 0)), .blk c1 (.cells #[.int .i64 v] 3 (0, 0)), .blk c2 (.cells #[.pointer (some ⟨b, 0, none⟩)] 28 (0, 0)), .blk c3 (.cells #[.int .i64 k] 3 (0, 0))]) (fun zx => (zx = bif is then mset m (Value.int .i64 k) (Value.int .i64 v) else mdel m (Value.int .i64 k)))) =
    (c0 = c0 ∧ (none : Option Nat) = none ∧ (is = true → c2 = c2 ∧ (none : Option Nat) = none ∧ b = b ∧ (none : Option Nat) = none ∧ c3 = c3 ∧ (none : Option Nat) = none ∧ c1 = c1 ∧ (none : Option Nat) = none ∧ (OpT Try.prog (do Instr.mapUpdate 68 (.map (some r)) (.int .i64 k) (.int .i64 v); pure .skip) [(mo r m)] KV (fun zx => .tuple #[]) (fun zx => [(mo r zx)]) (fun zx => zx = mset m (Value.int .i64 k) (Value.int .i64 v))) ∧ (∃ zx : KV, (fun zx => zx = mset m (Value.int .i64 k) (Value.int .i64 v)) zx) ∧ ∀ x1 : KV, (x1 = mset m (Value.int .i64 k) (Value.int .i64 v)) → ∃ zx : KV, (zx = bif is then mset m (Value.int .i64 k) (Value.int .i64 v) else mdel m (Value.int .i64 k)) ∧ Value.tuple #[] = .tuple #[] ∧ Slot.blk b (.cells #[.map (some r), .pointer (some ⟨bj, 0, none⟩), .func (.func 9) #[] #[]] 70 (0, 0)) = .blk b (.cells #[.map (some r), .pointer (some ⟨bj, 0, none⟩), .func (.func 9) #[] #[]] 70 (0, 0)) ∧ (mo r x1) = (mo r zx) ∧ Slot.blk c0 (.cells #[.bool is] 4 (0, 0)) = .blk c0 (.cells #[.bool is] 4 (0, 0)) ∧ Slot.blk c1 (.cells #[.int .i64 v] 3 (0, 0)) = .blk c1 (.cells #[.int .i64 v] 3 (0, 0)) ∧ Slot.blk c2 (.cells #[.pointer (some ⟨b, 0, none⟩)] 28 (0, 0)) = .blk c2 (.cells #[.pointer (some ⟨b, 0, none⟩)] 28 (0, 0)) ∧ Slot.blk c3 (.cells #[.int .i64 k] 3 (0, 0)) = .blk c3 (.cells #[.int .i64 k] 3 (0, 0)) ∧ True) ∧ (is = false → c2 = c2 ∧ (none : Option Nat) = none ∧ b = b ∧ (none : Option Nat) = none ∧ c3 = c3 ∧ (none : Option Nat) = none ∧ (OpT Try.prog (do pure (.value (← Builtin.delete_ #[68, 3] 0 #[.map (some r), .int .i64 k]))) [(mo r m)] KV (fun zx => .tuple #[]) (fun zx => [(mo r zx)]) (fun zx => zx = mdel m (Value.int .i64 k))) ∧ (∃ zx : KV, (fun zx => zx = mdel m (Value.int .i64 k)) zx) ∧ ∀ x2 : KV, (x2 = mdel m (Value.int .i64 k)) → ∃ zx : KV, (zx = bif is then mset m (Value.int .i64 k) (Value.int .i64 v) else mdel m (Value.int .i64 k)) ∧ Value.tuple #[] = .tuple #[] ∧ Slot.blk b (.cells #[.map (some r), .pointer (some ⟨bj, 0, none⟩), .func (.func 9) #[] #[]] 70 (0, 0)) = .blk b (.cells #[.map (some r), .pointer (some ⟨bj, 0, none⟩), .func (.func 9) #[] #[]] 70 (0, 0)) ∧ (mo r x2) = (mo r zx) ∧ Slot.blk c0 (.cells #[.bool is] 4 (0, 0)) = .blk c0 (.cells #[.bool is] 4 (0, 0)) ∧ Slot.blk c1 (.cells #[.int .i64 v] 3 (0, 0)) = .blk c1 (.cells #[.int .i64 v] 3 (0, 0)) ∧ Slot.blk c2 (.cells #[.pointer (some ⟨b, 0, none⟩)] 28 (0, 0)) = .blk c2 (.cells #[.pointer (some ⟨b, 0, none⟩)] 28 (0, 0)) ∧ Slot.blk c3 (.cells #[.int .i64 k] 3 (0, 0)) = .blk c3 (.cells #[.int .i64 k] 3 (0, 0)) ∧ True)) := by kernel_rfl
set_option maxRecDepth 100000 in
theorem stage_undo_raw70 (b : Nat) (bj : Nat) (r : Nat) (m : KV) (c0 : Nat) (c1 : Nat) (c2 : Nat) (c3 : Nat) (is : Bool) (v : Int) (k : Int) (hk : KOK Try.mk70 m) : CallT Try.prog 50 #[.pointer (some ⟨c0, 0, none⟩), .pointer (some ⟨c1, 0, none⟩), .pointer (some ⟨c2, 0, none⟩), .pointer (some ⟨c3, 0, none⟩)] [.blk b (.cells #[.map (some r), .pointer (some ⟨bj, 0, none⟩), .func (.func 9) #[] #[]] 70 (0, 0)), (mo r m), .blk c0 (.cells #[.bool is] 4 (0, 0)), .blk c1 (.cells #[.int .i64 v] 3 (0, 0)), .blk c2 (.cells #[.pointer (some ⟨b, 0, none⟩)] 28 (0, 0)), .blk c3 (.cells #[.int .i64 k] 3 (0, 0))] KV (fun zx => .tuple #[]) (fun zx => [.blk b (.cells #[.map (some r), .pointer (some ⟨bj, 0, none⟩), .func (.func 9) #[] #[]] 70 (0, 0)), (mo r zx), .blk c0 (.cells #[.bool is] 4 (0, 0)), .blk c1 (.cells #[.int .i64 v] 3 (0, 0)), .blk c2 (.cells #[.pointer (some ⟨b, 0, none⟩)] 28 (0, 0)), .blk c3 (.cells #[.int .i64 k] 3 (0, 0))]) (fun zx => (zx = bif is then mset m (Value.int .i64 k) (Value.int .i64 v) else mdel m (Value.int .i64 k))) := by
  refine call_of (c := bodyOf Try.f50) (n := 16) (fn := Try.f50) Try.mixed Try.func50 (by kernel_rfl) (by kernel_rfl) (by kernel_rfl) 2000 _ [] [0, 1, 2, 3, 4, 5] rfl rfl (Eq.mpr (stage_undo_raw70_vc b bj r m c0 c1 c2 c3 is v k) ?_)
  refine ⟨rfl, rfl, ?_⟩
  refine ⟨fun h1 => ?_, fun h1 => ?_⟩
  · refine ⟨rfl, rfl, rfl, rfl, rfl, rfl, rfl, rfl, xupd Try.kl70 hk ⟨_, rfl⟩ (Value.int .i64 v), ⟨_, rfl⟩, ?_⟩
    intro x1
    intro h2
    have hu := h2
    have his : is = true := by assumption
    exact ⟨_, by rw [hu, his]; rfl, rfl, rfl, rfl, rfl, rfl, rfl, rfl, trivial⟩
  · refine ⟨rfl, rfl, rfl, rfl, rfl, rfl, xdel Try.kl70 0 3 hk ⟨_, rfl⟩, ⟨_, rfl⟩, ?_⟩
    intro x2
    intro h3
    have hu := h3
    have his : is = false := by assumption
    exact ⟨_, by rw [hu, his]; rfl, rfl, rfl, rfl, rfl, rfl, rfl, rfl, trivial⟩

theorem Try.eok70 {b bj : Nat} {m0 : KV} {k : Int} (h0 : KOK Try.mk70 m0) : EOK Try.prog bj Try.mk70 (Try.ent70 b m0 (Value.int .i64 k)) := by
  refine ⟨fun a m => ?_⟩
  cases hg : mget m0 (Value.int .i64 k) with
  | none =>
    rw [show Ent.undo (Try.ent70 b m0 (Value.int .i64 k)) m = (mdel m (Value.int .i64 k)) from by show (match mget m0 (Value.int .i64 k) with | some v => mset m (Value.int .i64 k) v | none => mdel m (Value.int .i64 k)) = _; rw [hg]]
    have hsl : Ent.sl (Try.ent70 b m0 (Value.int .i64 k)) a = [.blk a.1 (.cells #[.bool false] 4 (0, 0)), .blk a.2.1 (.cells #[.int .i64 0] 3 (0, 0)), .blk a.2.2.1 (.cells #[.pointer (some ⟨b, 0, none⟩)] 28 (0, 0)), .blk a.2.2.2 (.cells #[.int .i64 k] 3 (0, 0))] := by
      show ([.blk a.1 (.cells #[.bool (mget m0 (Value.int .i64 k)).isSome] 4 (0, 0)), .blk a.2.1 (.cells ((mget m0 (Value.int .i64 k)).getD (.int .i64 0)).cells 3 (0, 0)), .blk a.2.2.1 (.cells #[ptr b] 28 (0, 0)), .blk a.2.2.2 (.cells ((Value.int .i64 k) : Value).cells 3 (0, 0))] : List Slot) = _
      rw [hg]; rfl
    rw [hsl]
    exact (mS_call (K := Try.mk70) (b := b) (bj := bj) (m := m) (m' := fun x : KV => x) (us := fun _ => [.blk a.1 (.cells #[.bool false] 4 (0, 0)), .blk a.2.1 (.cells #[.int .i64 0] 3 (0, 0)), .blk a.2.2.1 (.cells #[.pointer (some ⟨b, 0, none⟩)] 28 (0, 0)), .blk a.2.2.2 (.cells #[.int .i64 k] 3 (0, 0))]) (enterOK (c := bodyOf Try.f50) Try.func50 (by kernel_rfl) (by kernel_rfl)) (fun r hk => stage_undo_raw70 b bj r m a.1 a.2.1 a.2.2.1 a.2.2.2 false 0 k hk) (fun x hx hk => hx ▸ hk.del _)).exists fun x hx => ⟨(), trivial, rfl, by rw [hx]; exact Imp.refl _⟩
  | some w =>
    obtain ⟨v, hv, rfl⟩ := h0.val hg
    rw [show Ent.undo (Try.ent70 b m0 (Value.int .i64 k)) m = (mset m (Value.int .i64 k) (Value.int .i64 v)) from by show (match mget m0 (Value.int .i64 k) with | some v => mset m (Value.int .i64 k) v | none => mdel m (Value.int .i64 k)) = _; rw [hg]]
    have hsl : Ent.sl (Try.ent70 b m0 (Value.int .i64 k)) a = [.blk a.1 (.cells #[.bool true] 4 (0, 0)), .blk a.2.1 (.cells #[.int .i64 v] 3 (0, 0)), .blk a.2.2.1 (.cells #[.pointer (some ⟨b, 0, none⟩)] 28 (0, 0)), .blk a.2.2.2 (.cells #[.int .i64 k] 3 (0, 0))] := by
      show ([.blk a.1 (.cells #[.bool (mget m0 (Value.int .i64 k)).isSome] 4 (0, 0)), .blk a.2.1 (.cells ((mget m0 (Value.int .i64 k)).getD (.int .i64 0)).cells 3 (0, 0)), .blk a.2.2.1 (.cells #[ptr b] 28 (0, 0)), .blk a.2.2.2 (.cells ((Value.int .i64 k) : Value).cells 3 (0, 0))] : List Slot) = _
      rw [hg]; rfl
    rw [hsl]
    exact (mS_call (K := Try.mk70) (b := b) (bj := bj) (m := m) (m' := fun x : KV => x) (us := fun _ => [.blk a.1 (.cells #[.bool true] 4 (0, 0)), .blk a.2.1 (.cells #[.int .i64 v] 3 (0, 0)), .blk a.2.2.1 (.cells #[.pointer (some ⟨b, 0, none⟩)] 28 (0, 0)), .blk a.2.2.2 (.cells #[.int .i64 k] 3 (0, 0))]) (enterOK (c := bodyOf Try.f50) Try.func50 (by kernel_rfl) (by kernel_rfl)) (fun r hk => stage_undo_raw70 b bj r m a.1 a.2.1 a.2.2.1 a.2.2.2 true v k hk) (fun x hx hk => hx ▸ hk.set (⟨_, rfl⟩) ⟨v, hv, rfl⟩)).exists fun x hx => ⟨(), trivial, rfl, by rw [hx]; exact Imp.refl _⟩
theorem undo_shape1 {K0 : MK} {b0 : Nat} {m0 : KV} {l : List MS3} (h : l.map (fun x => (x.1, x.2.1)) = ([(K0, b0, m0)] : List MS3).map (fun x => (x.1, x.2.1))) : ∃ y0, l = [(K0, b0, y0)] := by
  match l, h with
  | [x0], h =>
    simp only [List.map_cons, List.map_nil, List.cons.injEq, Prod.mk.injEq, and_true] at h
    obtain ⟨p0, q0⟩ := h
    exact ⟨x0.2.2, congrArg (fun z => [z]) (Prod.ext p0 (Prod.ext q0 rfl))⟩
def stage_Back_70_C : List Value → List Slot → Ctr := fun vs hs => ⟨KV, fun zx => .bool true, fun zx => [(jS Try.jk (vblk (varg vs 1)) (List.take (Int.toNat (ci (varg vs 2))) (sents (sarg hs 0)))), (mS Try.mk70 (snum (sarg hs 1) 0) (vblk (varg vs 1)) zx)], fun zx => undoAll (List.drop (Int.toNat (ci (varg vs 2))) (sents (sarg hs 0))) [(Try.mk70, (snum (sarg hs 1) 0), (skv (sarg hs 1)))] = [(Try.mk70, (snum (sarg hs 1) 0), zx)]⟩
theorem stage_Back_70 (bj : Nat) (L : List Ent) (mark : Int) (b0 : Nat) (m0 : KV) (h0 : 0 ≤ mark) (h1 : mark ≤ ((List.length L : Nat) : Int)) (hl : List.length L ≤ 1000000) (hE : ∀ e ∈ List.drop (Int.toNat mark) L, ∃ y ∈ ([(Try.mk70, b0, m0)] : List MS3), y.2.1 = e.b ∧ EOK Try.prog bj y.1 e) : CallT Try.prog 12 #[.pointer (some ⟨bj, 0, none⟩), .int .i64 mark] [(jS Try.jk bj L), (mS Try.mk70 b0 bj m0)] KV (fun zx => .bool true) (fun zx => [(jS Try.jk bj (List.take (Int.toNat mark) L)), (mS Try.mk70 b0 bj zx)]) (fun zx => (undoAll (List.drop (Int.toNat mark) L) [(Try.mk70, b0, m0)] = [(Try.mk70, b0, zx)])) := by
  have c := back_of (K := Try.jk) (bj := bj) (L := L) (mark := mark) (Ms := [(Try.mk70, b0, m0)]) (enterOK (c := bodyOf Try.f12) Try.func12 (by kernel_rfl) (by kernel_rfl)) (A := Try.rfA12) (B := Try.rfB12) (ps := #[25, 26]) (n := 38) (fun row T h1 h2 h3 => stage_Back_raw bj row mark T h0 h1 h2 h3) (fun l D fn tmps i e a S1 S0 hz hc => stage_round l D fn tmps i e a S1 S0 hz hc) h0 h1 hl hE
  have hk := undoAll_ks (List.drop (Int.toNat mark) L) [(Try.mk70, b0, m0)]
  obtain ⟨y0, hu⟩ := undo_shape1 hk
  rw [hu] at c
  exact c.exists fun _ hn => ⟨y0, hu, rfl, Imp.refl _⟩

theorem Try.entOK70 (b : Nat) : EntOK b (Try.ent70 b) := ⟨fun _ _ => rfl, fun _ _ => rfl, fun _ _ => rfl⟩
theorem Try.intK70 : IntK Try.mk70 := ⟨fun n => ⟨n, rfl⟩, fun v h => h, fun n h => ⟨n, h, rfl⟩, fun v h => h⟩
theorem Try.eoks70 {b bj : Nat} {hs : List KV} {L : List Ent} {m m1 : KV} (h : Jr Try.mk70 (Try.ent70 b) hs L m) (n : Nat) : ∀ e ∈ List.drop n L, ∃ y ∈ ([(Try.mk70, b, m1)] : List MS3), y.2.1 = e.b ∧ EOK Try.prog bj y.1 e := by
  intro e he
  obtain ⟨m0, key, rfl, ⟨q, rfl⟩, hk⟩ := h.ent (List.mem_of_mem_drop he)
  exact ⟨_, List.mem_cons_self .., rfl, Try.eok70 hk⟩
def law12_lives_C : List Value → List Slot → Ctr := fun vs hs => ⟨Unit, fun _ => .bool true, fun _ => hs, fun _ => True⟩
set_option maxRecDepth 100000 in
theorem law12_lives_vc  : codeW Try.prog 35 none 2000 none (bodyOf Try.f7) (.reg [.sem []] (.reg [.specw [] [20] (F_newj Try.jk)] (.reg [.callw [] [21] stage_New70_C, .sem []] (.reg [.sem [], .sem []] (.condF (.reg [.sem [], .callw [21, 20] [21, 20] stage_Set70_C] (.reg [.callr [20] stage_Mark_C, .sem []] (.reg [.sem [], .callw [21, 20] [21, 20] stage_Set70_C] (.reg [.sem [], .callw [21, 20] [21, 20] stage_Drop70_C] (.reg [.callw [20, 21] [20, 21] stage_Back_70_C, .sem []] (.reg [.sem [], .callr [21] stage_Get70_C, .sem [], .sem [], .sem [], .sem [], .sem []] (.reg [.sem [], .gen [] (Sx.one (.bool true)), .sem [], .sem [], .sem [], .sem [], .sem [], .gen [] (Sx.one (.bool true)), .sem [], .sem [], .sem [], .sem [], .sem []] (.done)))))))))))))
    (init #[] []) (finW Try.prog Try.f7 [] [] (X := Unit) (fun _ => .bool true) (fun _ => []) (fun _ => True)) =
    ((OpT Try.prog (do pure (Next.value (← Instr.alloc 27 true (.tuple #[])))) [] Nat (fun zx => .pointer (some ⟨zx, 0, none⟩)) (fun zx => [(jS Try.jk zx ([]))]) (fun zx => True)) ∧ (∃ zx : Nat, (fun zx => True) zx) ∧ ∀ x1 : Nat, (True) → (CallT Try.prog 8 #[.pointer (some ⟨x1, 0, none⟩), .func (.func 9) #[] #[]] [] Nat (fun zx => .pointer (some ⟨zx, 0, none⟩)) (fun zx => [(mS Try.mk70 zx x1 ([]))]) (fun zx => True)) ∧ (∃ zx : Nat, (fun zx => True) zx) ∧ ∀ x2 : Nat, (True) → (false = false) ∧ (CallT Try.prog 17 #[.pointer (some ⟨x2, 0, none⟩), .int .i64 1, .int .i64 5] [(mS Try.mk70 x2 x1 ([])), (jS Try.jk x1 ([]))] (KV × List Ent) (fun zx => .tuple #[]) (fun zx => [(mS Try.mk70 x2 x1 zx.1), (jS Try.jk x1 zx.2)]) (fun zx => zx.1 = mset ([]) (Value.int .i64 1) (Value.int .i64 5) ∧ zx.2 = ([]) ++ [(Try.ent70 x2 ([]) (Value.int .i64 1))])) ∧ (∃ zx : KV × List Ent, (fun zx => zx.1 = mset ([]) (Value.int .i64 1) (Value.int .i64 5) ∧ zx.2 = ([]) ++ [(Try.ent70 x2 ([]) (Value.int .i64 1))]) zx) ∧ ∀ x3 : KV × List Ent, (x3.1 = mset ([]) (Value.int .i64 1) (Value.int .i64 5) ∧ x3.2 = ([]) ++ [(Try.ent70 x2 ([]) (Value.int .i64 1))]) → (CallT Try.prog 11 #[.pointer (some ⟨x1, 0, none⟩)] [(jS Try.jk x1 x3.2)] Int (fun zx => .int .i64 zx) (fun _ => [(jS Try.jk x1 x3.2)]) (fun zx => zx = (((x3.2 : List Ent).length : Nat) : Int))) ∧ (∃ zx : Int, (fun zx => zx = (((x3.2 : List Ent).length : Nat) : Int)) zx) ∧ ∀ x4 : Int, (x4 = (((x3.2 : List Ent).length : Nat) : Int)) → (CallT Try.prog 17 #[.pointer (some ⟨x2, 0, none⟩), .int .i64 1, .int .i64 6] [(mS Try.mk70 x2 x1 x3.1), (jS Try.jk x1 x3.2)] (KV × List Ent) (fun zx => .tuple #[]) (fun zx => [(mS Try.mk70 x2 x1 zx.1), (jS Try.jk x1 zx.2)]) (fun zx => zx.1 = mset x3.1 (Value.int .i64 1) (Value.int .i64 6) ∧ zx.2 = x3.2 ++ [(Try.ent70 x2 x3.1 (Value.int .i64 1))])) ∧ (∃ zx : KV × List Ent, (fun zx => zx.1 = mset x3.1 (Value.int .i64 1) (Value.int .i64 6) ∧ zx.2 = x3.2 ++ [(Try.ent70 x2 x3.1 (Value.int .i64 1))]) zx) ∧ ∀ x5 : KV × List Ent, (x5.1 = mset x3.1 (Value.int .i64 1) (Value.int .i64 6) ∧ x5.2 = x3.2 ++ [(Try.ent70 x2 x3.1 (Value.int .i64 1))]) → (CallT Try.prog 19 #[.pointer (some ⟨x2, 0, none⟩), .int .i64 1] [(mS Try.mk70 x2 x1 x5.1), (jS Try.jk x1 x5.2)] (KV × List Ent × Bool) (fun zx => .bool zx.2.2) (fun zx => [(mS Try.mk70 x2 x1 zx.1), (jS Try.jk x1 zx.2.1)]) (fun zx => zx.2.2 = (mget x5.1 (Value.int .i64 1)).isSome ∧ zx.1 = mdel x5.1 (Value.int .i64 1) ∧ zx.2.1 = if (mget x5.1 (Value.int .i64 1)).isSome then x5.2 ++ [(Try.ent70 x2 x5.1 (Value.int .i64 1))] else x5.2)) ∧ (∃ zx : KV × List Ent × Bool, (fun zx => zx.2.2 = (mget x5.1 (Value.int .i64 1)).isSome ∧ zx.1 = mdel x5.1 (Value.int .i64 1) ∧ zx.2.1 = if (mget x5.1 (Value.int .i64 1)).isSome then x5.2 ++ [(Try.ent70 x2 x5.1 (Value.int .i64 1))] else x5.2) zx) ∧ ∀ x6 : KV × List Ent × Bool, (x6.2.2 = (mget x5.1 (Value.int .i64 1)).isSome ∧ x6.1 = mdel x5.1 (Value.int .i64 1) ∧ x6.2.1 = if (mget x5.1 (Value.int .i64 1)).isSome then x5.2 ++ [(Try.ent70 x2 x5.1 (Value.int .i64 1))] else x5.2) → (CallT Try.prog 12 #[.pointer (some ⟨x1, 0, none⟩), .int .i64 1] [(jS Try.jk x1 x6.2.1), (mS Try.mk70 x2 x1 x6.1)] KV (fun zx => .bool true) (fun zx => [(jS Try.jk x1 (List.take (Int.toNat (1 : Int)) x6.2.1)), (mS Try.mk70 x2 x1 zx)]) (fun zx => undoAll (List.drop (Int.toNat (1 : Int)) x6.2.1) [(Try.mk70, x2, x6.1)] = [(Try.mk70, x2, zx)])) ∧ (∃ zx : KV, (fun zx => undoAll (List.drop (Int.toNat (1 : Int)) x6.2.1) [(Try.mk70, x2, x6.1)] = [(Try.mk70, x2, zx)]) zx) ∧ ∀ x7 : KV, (undoAll (List.drop (Int.toNat (1 : Int)) x6.2.1) [(Try.mk70, x2, x6.1)] = [(Try.mk70, x2, x7)]) → (CallT Try.prog 24 #[.pointer (some ⟨x2, 0, none⟩), .int .i64 1] [(mS Try.mk70 x2 x1 x7)] (Int × Bool) (fun zx => .tuple #[.int .i64 zx.1, .bool zx.2]) (fun _ => [(mS Try.mk70 x2 x1 x7)]) (fun zx => zx.1 = ci ((mget x7 (Value.int .i64 1)).getD (.int .i64 0)) ∧ zx.2 = (mget x7 (Value.int .i64 1)).isSome)) ∧ (∃ zx : Int × Bool, (fun zx => zx.1 = ci ((mget x7 (Value.int .i64 1)).getD (.int .i64 0)) ∧ zx.2 = (mget x7 (Value.int .i64 1)).isSome) zx) ∧ ∀ x8 : Int × Bool, (x8.1 = ci ((mget x7 (Value.int .i64 1)).getD (.int .i64 0)) ∧ x8.2 = (mget x7 (Value.int .i64 1)).isSome) → (∃ _ : Unit, True ∧ Value.bool (x4 == (1 : Int)) = .bool true) ∧ ∀ _ : Unit, (True) → true = true ∧ true = true ∧ true = true ∧ (∃ _ : Unit, True ∧ Value.bool (x8.1 == (5 : Int)) = .bool true) ∧ ∀ _ : Unit, (True) → true = true ∧ ∃ _ : Unit, (True) ∧ Value.bool x8.2 = .bool true ∧ True) := by kernel_rfl
set_option maxRecDepth 100000 in
theorem law12_lives   : CallT Try.prog 7 #[] [] Unit (fun _ => .bool true) (fun _ => []) (fun _ => True) := by
  refine call_of (c := bodyOf Try.f7) (n := 35) (fn := Try.f7) Try.mixed Try.func7 (by kernel_rfl) (by kernel_rfl) (by kernel_rfl) 2000 _ [] [] rfl rfl (Eq.mpr (law12_lives_vc ) ?_)
  refine ⟨xnewj (K := Try.jk) (Eq.mpr (by kernel_rfl : symW Try.prog (do pure (Next.value (← Instr.alloc 27 true (.tuple #[])))) [.nw 0] (ofList []) (fun nx H _ => ∃ b, nx = Next.value (ptr b) ∧ H = upd (ofList []) 0 (.blk b (.cells #[.slice none 0 0] (JK.tj Try.jk) (0, 0)))) = (∀ b, ∃ b', Next.value (ptr b) = .value (ptr b') ∧ upd (ofList []) 0 (.blk b (.cells #[.slice none 0 0] 27 (0, 0))) = upd (ofList []) 0 (.blk b' (.cells #[.slice none 0 0] (JK.tj Try.jk) (0, 0))))) fun b => ⟨b, rfl, rfl⟩), ⟨0, trivial⟩, ?_⟩
  intro x1
  intro h1
  refine ⟨stage_New70 x1, ⟨0, trivial⟩, ?_⟩
  intro x2
  intro h2
  have J0 : Jr Try.mk70 (Try.ent70 x2) [] [] [] := Jr.nil []
  have K0 : KOK Try.mk70 [] := KOK.nil
  refine ⟨rfl, ?_⟩
  refine ⟨stage_Set70 x2 x1 ([]) ([]) (1 : Int) (5 : Int) (by decide) (by simp), ⟨(_, _), rfl, rfl⟩, ?_⟩
  intro x3
  intro h3
  have l1 : List.length x3.2 = 1 := by rw [h3.2]; simp
  obtain ⟨J1, K1⟩ := J0.set K0 (Try.intK70.k 1) (Try.intK70.v 5 rfl)
  rw [← h3.1, ← h3.2] at J1
  rw [← h3.1] at K1
  have G1 : mget x3.1 (iv 1) = some (iv 5) := by rw [h3.1, mget_set, if_pos rfl]
  refine ⟨stage_Mark x1 x3.2, ⟨_, rfl⟩, ?_⟩
  intro x4
  intro h4
  have hM := h4
  refine ⟨stage_Set70 x2 x1 x3.1 x3.2 (1 : Int) (6 : Int) (by decide) (by omega), ⟨(_, _), rfl, rfl⟩, ?_⟩
  intro x5
  intro h5
  have l2 : List.length x5.2 = 2 := by rw [h5.2]; simp [l1]
  obtain ⟨J2, K2⟩ := J1.set K1 (Try.intK70.k 1) (Try.intK70.v 6 rfl)
  rw [← h5.1, ← h5.2] at J2
  rw [← h5.1] at K2
  have G2 : mget x5.1 (iv 1) = some (iv 6) := by rw [h5.1, mget_set, if_pos rfl]
  refine ⟨stage_Drop70 x2 x1 x5.1 x5.2 (1 : Int) (by omega), ⟨(_, _, _), rfl, rfl, rfl⟩, ?_⟩
  intro x6
  intro h6
  obtain ⟨J3, K3⟩ := J2.del K2 (Try.intK70.k 1)
  have hS : (mget x5.1 (iv 1)).isSome = true := by rw [G2]; rfl
  have hD := h6.2.2
  rw [if_pos hS] at hD
  rw [← h6.2.1, ← hD] at J3
  rw [← h6.2.1] at K3
  have l3 : List.length x6.2.1 = 3 := by rw [hD]; simp [l2]
  refine ⟨stage_Back_70 x1 x6.2.1 (1 : Int) x2 x6.1 (by decide) (by omega) (by omega) (Try.eoks70 J3 _), (undo_shape1 (undoAll_ks _ _)).elim fun y0 h => ⟨y0, h⟩, ?_⟩
  intro x7
  intro h7
  have hu := undoAll_one _ _ _ _ _ h7
  have hB := (J3.back (Try.entOK70 x2) K3 (n := 1) (h0 := x3.1) (by omega) rfl).2.1
  rw [show (Int.toNat 1) = 1 from rfl] at hu
  rw [← hu] at hB
  refine ⟨stage_Get70 x2 x1 x7 (1 : Int), ⟨(_, _), rfl, rfl⟩, ?_⟩
  intro x8
  intro h8
  have hg1 : x8.1 = 5 := by rw [h8.1, hB, G1]; rfl
  have hg2 : x8.2 = true := by rw [h8.2, hB, G1]; rfl
  refine ⟨⟨(), trivial, congrArg Value.bool (by rw [hM, l1]; rfl)⟩, ?_⟩
  intro _
  intro _
  refine ⟨rfl, rfl, rfl, ⟨(), trivial, congrArg Value.bool (by rw [hg1]; rfl)⟩, ?_⟩
  intro _
  intro _
  refine ⟨rfl, ?_⟩
  exact ⟨(), trivial, congrArg Value.bool hg2, trivial⟩

theorem Try.xneP45 (x y : Int × Int) : PureRun Try.prog (xBin .neq 45 (p2V x) (p2V y)) (.bool (!decide (x = y))) := xne_p2 (e := 3) (f0 := Go.Field.mk "K" 3 0 false "" "" 0) (f1 := Go.Field.mk "V" 3 1 false "" "" 8) (by kernel_rfl) (by kernel_rfl) (by kernel_rfl) (by kernel_rfl) (fun w => by kernel_rfl) (by kernel_rfl) (by decide) rfl rfl (by decide) rfl rfl x y
set_option maxRecDepth 100000 in
theorem law12_same_vc (a : RK 2) (b : RK 2) : codeW Try.prog 26 none 2000 none (bodyOf Try.f13) (.reg [.sem []] (.reg [.sem [], .eq (f_len), .sem [], .eq (f_len), .gen [] (Sx.one (.bool false))] (.condF (.reg [.sem [], .eq (f_len), .sem []] (.inv Nat (fun zx => [(0, sv a.1), (1, sv b.1), (11, sv a.1), (12, .int .i64 ((vlen (sv a.1) : Nat) : Int)), (13, .int .i64 ((zx : Nat) : Int))]) (fun zx => [(0, (sk 45 a.1)), (1, (sk 45 b.1))]) (fun zx => zx ≤ (vals a.1).length) (fun zx => (vals a.1).length - zx) (fun x1 => .reg [.sem []] (.cond (.reg [.sem [], .sem []] (.reg [.sem [], .sem [], .eq (f_idxK 2), .specr [0] (F_getK 2 p2V), .sem [], .sem [], .eq (f_idxK 2), .specr [1] (F_getK 2 p2V), .specr [] (fun _ hs => ⟨Unit, fun _ => .bool false, fun _ => hs, fun _ => True⟩)] (.condF (.reg [.gen [] (fun vs => Sx.one (.int .i64 (ci (varg vs 0) + ci (varg vs 1))) vs), .sem []] (.done))))) (.reg [.sem []] (.done)))))))))
    (init #[sv a.1, sv b.1] [(sk 45 a.1), (sk 45 b.1)]) (finW Try.prog Try.f13 [] [0, 1] (X := Unit) (fun _ => .bool true) (fun _ => [(sk 45 a.1), (sk 45 b.1)]) (fun _ => True)) =
    ((PureRun Try.prog (do pure (.value (← Builtin.len_ #[35] 3 #[sv a.1]))) (.int .i64 ((vlen (sv a.1) : Nat) : Int))) ∧ (PureRun Try.prog (do pure (.value (← Builtin.len_ #[35] 3 #[sv b.1]))) (.int .i64 ((vlen (sv b.1) : Nat) : Int))) ∧ (∃ _ : Unit, True ∧ Value.bool (((vlen (sv a.1) : Nat) : Int) != ((vlen (sv b.1) : Nat) : Int)) = .bool false) ∧ ∀ _ : Unit, (True) → (false = false) ∧ (PureRun Try.prog (do pure (.value (← Builtin.len_ #[35] 3 #[sv a.1]))) (.int .i64 ((vlen (sv a.1) : Nat) : Int))) ∧ (∃ zx : Nat, (zx ≤ (vals a.1).length) ∧ sv a.1 = sv a.1 ∧ sv b.1 = sv b.1 ∧ sv a.1 = sv a.1 ∧ Value.int .i64 ((vlen (sv a.1) : Nat) : Int) = .int .i64 ((vlen (sv a.1) : Nat) : Int) ∧ Value.int .i64 0 = .int .i64 ((zx : Nat) : Int) ∧ (sk 45 a.1) = (sk 45 a.1) ∧ (sk 45 b.1) = (sk 45 b.1) ∧ True) ∧ ∀ x1 : Nat, ∀ jx1 : Nat → Value, (x1 ≤ (vals a.1).length) → ((decide (((x1 : Nat) : Int) < ((vlen (sv a.1) : Nat) : Int))) = true → (PureRun Try.prog (do pure (.value (← Instr.indexAt 35 (sv a.1) (.int .i64 ((x1 : Nat) : Int))))) (.pointer (some ⟨(vblk (sv a.1)), (Int.toNat ((x1 : Nat) : Int) * 2), none⟩))) ∧ (OpT Try.prog (do pure (.value (← Instr.loadAt 45 (.pointer (some ⟨(vblk (sv a.1)), (Int.toNat ((x1 : Nat) : Int) * 2), none⟩))))) [(sk 45 a.1)] (Int × Int) (fun zx => .agg #[.int .i64 zx.1, .int .i64 zx.2]) (fun _ => [(sk 45 a.1)]) (fun zx => rdK 2 (scells (sk 45 a.1)) (Int.toNat ((x1 : Nat) : Int) * 2) = p2V zx)) ∧ (∃ zx : Int × Int, (fun zx => rdK 2 (scells (sk 45 a.1)) (Int.toNat ((x1 : Nat) : Int) * 2) = p2V zx) zx) ∧ ∀ x2 : Int × Int, (rdK 2 (scells (sk 45 a.1)) (Int.toNat ((x1 : Nat) : Int) * 2) = p2V x2) → (PureRun Try.prog (do pure (.value (← Instr.indexAt 35 (sv b.1) (.int .i64 ((x1 : Nat) : Int))))) (.pointer (some ⟨(vblk (sv b.1)), (Int.toNat ((x1 : Nat) : Int) * 2), none⟩))) ∧ (OpT Try.prog (do pure (.value (← Instr.loadAt 45 (.pointer (some ⟨(vblk (sv b.1)), (Int.toNat ((x1 : Nat) : Int) * 2), none⟩))))) [(sk 45 b.1)] (Int × Int) (fun zx => .agg #[.int .i64 zx.1, .int .i64 zx.2]) (fun _ => [(sk 45 b.1)]) (fun zx => rdK 2 (scells (sk 45 b.1)) (Int.toNat ((x1 : Nat) : Int) * 2) = p2V zx)) ∧ (∃ zx : Int × Int, (fun zx => rdK 2 (scells (sk 45 b.1)) (Int.toNat ((x1 : Nat) : Int) * 2) = p2V zx) zx) ∧ ∀ x3 : Int × Int, (rdK 2 (scells (sk 45 b.1)) (Int.toNat ((x1 : Nat) : Int) * 2) = p2V x3) → (OpT Try.prog (xBin .neq 45 (p2V x2) (p2V x3)) [] Unit (fun _ => .bool false) (fun _ => []) (fun _ => True)) ∧ (∃ zx : Unit, (fun _ => True) zx) ∧ ∀ _ : Unit, (True) → (false = false) ∧ (∃ _ : Unit, True ∧ Value.int .i64 (IntKind.i64.wrap (((x1 : Nat) : Int) + 1)) = .int .i64 (((x1 : Nat) : Int) + 1)) ∧ ∀ _ : Unit, (True) → ∃ zy : Nat, (zy ≤ (vals a.1).length) ∧ (vals a.1).length - zy < (vals a.1).length - x1 ∧ sv a.1 = sv a.1 ∧ sv b.1 = sv b.1 ∧ sv a.1 = sv a.1 ∧ Value.int .i64 ((vlen (sv a.1) : Nat) : Int) = .int .i64 ((vlen (sv a.1) : Nat) : Int) ∧ Value.int .i64 (((x1 : Nat) : Int) + 1) = .int .i64 ((zy : Nat) : Int) ∧ (sk 45 a.1) = (sk 45 a.1) ∧ (sk 45 b.1) = (sk 45 b.1) ∧ True) ∧ ((decide (((x1 : Nat) : Int) < ((vlen (sv a.1) : Nat) : Int))) = false → ∃ _ : Unit, (True) ∧ Value.bool true = .bool true ∧ (sk 45 a.1) = (sk 45 a.1) ∧ (sk 45 b.1) = (sk 45 b.1) ∧ True)) := by kernel_rfl
set_option maxRecDepth 100000 in
theorem law12_same (a : RK 2) (b : RK 2) (ha : ∀ i, i < (vals a.1).length → ∃ x0, (vals a.1)[i]? = some (p2V x0)) (hv : vals a.1 = vals b.1) (hl : (vals a.1).length ≤ 1048576) : CallT Try.prog 13 #[sv a.1, sv b.1] [(sk 45 a.1), (sk 45 b.1)] Unit (fun _ => .bool true) (fun _ => [(sk 45 a.1), (sk 45 b.1)]) (fun _ => True) := by
  refine call_of (c := bodyOf Try.f13) (n := 26) (fn := Try.f13) Try.mixed Try.func13 (by kernel_rfl) (by kernel_rfl) (by kernel_rfl) 2000 _ [] [0, 1] rfl rfl (Eq.mpr (law12_same_vc a b) ?_)
  have hv1 := vlen_sv a.1; have hv2 := vlen_sv b.1; have hl2 : (vals b.1).length = (vals a.1).length := by rw [hv]
  refine ⟨xlenK Try.sk35 3 a.1, xlenK Try.sk35 3 b.1, ⟨(), trivial, congrArg Value.bool (by rw [hv1, hv2, hl2]; exact bne_self_eq_false _)⟩, ?_⟩
  intro _
  intro _
  refine ⟨rfl, ?_⟩
  refine ⟨xlenK Try.sk35 3 a.1, ?_⟩
  refine ⟨?_, fun x1 jx1 h1 => ?_⟩
  · exact ⟨0, Nat.zero_le _, rfl, rfl, rfl, rfl, rfl, rfl, rfl, trivial⟩
  · skip
    refine ⟨fun h2 => ?_, fun h2 => ?_⟩
    · refine ⟨xidxK Try.sk35 a.1 .i64 ((x1 : Nat) : Int) (by (try simp (disch := first | assumption | exact R4_zero | exact R4_one) only [num_vI, decide_eq_true_eq, decide_eq_false_iff_not, gt_iff_lt, ge_iff_le, beq_iff_eq, beq_eq_false_iff_ne, bne_iff_ne, bne_eq_false_iff_eq, ne_eq] at *); omega) (by (try simp (disch := first | assumption | exact R4_zero | exact R4_one) only [num_vI, decide_eq_true_eq, decide_eq_false_iff_not, gt_iff_lt, ge_iff_le, beq_iff_eq, beq_eq_false_iff_ne, bne_iff_ne, bne_eq_false_iff_eq, ne_eq] at *); omega), xgetKV Try.sk35 p2V a (Int.toNat ((x1 : Nat) : Int)) (ha _ (by rw [Int.toNat_natCast]; (try simp (disch := first | assumption | exact R4_zero | exact R4_one) only [num_vI, decide_eq_true_eq, decide_eq_false_iff_not, gt_iff_lt, ge_iff_le, beq_iff_eq, beq_eq_false_iff_ne, bne_iff_ne, bne_eq_false_iff_eq, ne_eq] at *); omega)), wgetKV (ha _ (by rw [Int.toNat_natCast]; (try simp (disch := first | assumption | exact R4_zero | exact R4_one) only [num_vI, decide_eq_true_eq, decide_eq_false_iff_not, gt_iff_lt, ge_iff_le, beq_iff_eq, beq_eq_false_iff_ne, bne_iff_ne, bne_eq_false_iff_eq, ne_eq] at *); omega)), ?_⟩
      intro x2
      intro h3
      replace h3 := egetKV (ha _ (by rw [Int.toNat_natCast]; (try simp (disch := first | assumption | exact R4_zero | exact R4_one) only [num_vI, decide_eq_true_eq, decide_eq_false_iff_not, gt_iff_lt, ge_iff_le, beq_iff_eq, beq_eq_false_iff_ne, bne_iff_ne, bne_eq_false_iff_eq, ne_eq] at *); omega)) h3
      have q1 := h3
      refine ⟨xidxK Try.sk35 b.1 .i64 ((x1 : Nat) : Int) (by (try simp (disch := first | assumption | exact R4_zero | exact R4_one) only [num_vI, decide_eq_true_eq, decide_eq_false_iff_not, gt_iff_lt, ge_iff_le, beq_iff_eq, beq_eq_false_iff_ne, bne_iff_ne, bne_eq_false_iff_eq, ne_eq] at *); omega) (by (try simp (disch := first | assumption | exact R4_zero | exact R4_one) only [num_vI, decide_eq_true_eq, decide_eq_false_iff_not, gt_iff_lt, ge_iff_le, beq_iff_eq, beq_eq_false_iff_ne, bne_iff_ne, bne_eq_false_iff_eq, ne_eq] at *); omega), xgetKV Try.sk35 p2V b (Int.toNat ((x1 : Nat) : Int)) (by rw [← hv]; exact (ha _ (by rw [Int.toNat_natCast]; (try simp (disch := first | assumption | exact R4_zero | exact R4_one) only [num_vI, decide_eq_true_eq, decide_eq_false_iff_not, gt_iff_lt, ge_iff_le, beq_iff_eq, beq_eq_false_iff_ne, bne_iff_ne, bne_eq_false_iff_eq, ne_eq] at *); omega))), wgetKV (by rw [← hv]; exact (ha _ (by rw [Int.toNat_natCast]; (try simp (disch := first | assumption | exact R4_zero | exact R4_one) only [num_vI, decide_eq_true_eq, decide_eq_false_iff_not, gt_iff_lt, ge_iff_le, beq_iff_eq, beq_eq_false_iff_ne, bne_iff_ne, bne_eq_false_iff_eq, ne_eq] at *); omega))), ?_⟩
      intro x3
      intro h4
      replace h4 := egetKV (by rw [← hv]; exact (ha _ (by rw [Int.toNat_natCast]; (try simp (disch := first | assumption | exact R4_zero | exact R4_one) only [num_vI, decide_eq_true_eq, decide_eq_false_iff_not, gt_iff_lt, ge_iff_le, beq_iff_eq, beq_eq_false_iff_ne, bne_iff_ne, bne_eq_false_iff_eq, ne_eq] at *); omega))) h4
      have q2 := h4
      refine ⟨OpT.ofPure (Try.xneP45 x2 x3) (congrArg Value.bool (by rw [← hv, q1] at q2; have e := p2V_inj (Option.some.inj q2); simp [e])), ⟨(), trivial⟩, ?_⟩
      intro _
      intro _
      refine ⟨rfl, ?_⟩
      refine ⟨⟨(), trivial, congrArg (Value.int .i64) (wrap_i64 _ (by omega) (by omega))⟩, ?_⟩
      intro _
      intro _
      exact ⟨x1 + 1, by (try simp (disch := first | assumption | exact R4_zero | exact R4_one) only [num_vI, decide_eq_true_eq, decide_eq_false_iff_not, gt_iff_lt, ge_iff_le, beq_iff_eq, beq_eq_false_iff_ne, bne_iff_ne, bne_eq_false_iff_eq, ne_eq] at *); omega, by (try simp (disch := first | assumption | exact R4_zero | exact R4_one) only [num_vI, decide_eq_true_eq, decide_eq_false_iff_not, gt_iff_lt, ge_iff_le, beq_iff_eq, beq_eq_false_iff_ne, bne_iff_ne, bne_eq_false_iff_eq, ne_eq] at *); omega, rfl, rfl, rfl, rfl, congrArg (Value.int .i64) (by (try dsimp only); omega), rfl, rfl, trivial⟩
    · exact ⟨(), trivial, rfl, rfl, rfl, trivial⟩

def Try.el51 : Int × Int × Int × Int → Value := fun x => .agg #[.int .u8 x.1, .int .i64 x.2.1, .int .i64 x.2.2.1, .int .i64 x.2.2.2]
def Try.el51_ok : Int × Int × Int × Int → Prop := fun x => (Lit.int .u8 x.1).wf = true ∧ (Lit.int .i64 x.2.1).wf = true ∧ (Lit.int .i64 x.2.2.1).wf = true ∧ (Lit.int .i64 x.2.2.2).wf = true
theorem Try.elt22 : ElT Try.prog 22 51 4 := ⟨by kernel_rfl, fun w => by kernel_rfl⟩
theorem Try.elk51 : ElK Try.prog 51 4 (X := Int × Int × Int × Int) Try.el51 Try.el51_ok := by
  refine ⟨.inl ⟨fun w => by kernel_rfl, fun x => ⟨_, rfl⟩⟩, fun w => by kernel_rfl, fun _ => rfl, fun x y hx hy h => ?_⟩
  have e := fun (i : Nat) => congrArg (fun l : List Value => l.getD i undef) h
  have e0 : x.1 = y.1 := congrArg ci (e 0)
  have e1 : x.2.1 = y.2.1 := congrArg ci (e 1)
  have e2 : x.2.2.1 = y.2.2.1 := congrArg ci (e 2)
  have e3 : x.2.2.2 = y.2.2.2 := congrArg ci (e 3)
  exact (Prod.ext e0 (Prod.ext e1 (Prod.ext e2 e3)))
def law12_deeds_C : List Value → List Slot → Ctr := fun vs hs => ⟨KV × List Ent, fun zx => .tuple #[], fun zx => [(old (swld (sarg hs 0))), (mS Try.mk70 (vblk (varg vs 1)) (snum (sarg hs 1) 1) zx.1), (jS Try.jk (snum (sarg hs 1) 1) zx.2)], fun zx => zx = doD (Try.ent70 (vblk (varg vs 1))) (rdSl 4 Try.el51 Try.el51_ok (sarg hs 0) (varg vs 2)) ((skv (sarg hs 1)), (sents (sarg hs 2)))⟩
set_option maxRecDepth 100000 in
theorem law12_deeds_vc (w : World) (l : Value) (ls : List A4) (b : Nat) (bj : Nat) (m : KV) (L : List Ent) : codeW Try.prog 27 none 2000 none (bodyOf Try.f10) (.reg [.sem [], .eq (f_len), .sem []] (.inv (Nat × KV × List Ent) (fun zx => [(0, .pointer (some ⟨b, 0, none⟩)), (1, l), (6, l), (7, .int .i64 ((vlen l : Nat) : Int)), (8, .int .i64 ((zx.1 : Nat) : Int))]) (fun zx => [(0, (old w)), (1, (mS Try.mk70 b bj zx.2.1)), (2, (jS Try.jk bj zx.2.2))]) (fun zx => zx.1 ≤ ls.length ∧ zx.2 = doD (Try.ent70 b) (List.take zx.1 ls) (m, L) ∧ List.length zx.2.2 ≤ 1000 + zx.1) (fun zx => ls.length - zx.1) (fun x1 => .reg [.sem []] (.cond (.reg [.eq (f_oidx 4), .specr [0] (F_old Try.el51 Try.el51_ok), .sem [.nw 3], .sem [.wr 3, .wr 3, .wr 3, .wr 3]] (.reg [.sem [], .sem [.rd 3], .sem [], .sem []] (.cond (.reg [.sem [], .sem [], .sem [.rd 3], .callw [1, 2] [1, 2] stage_Drop70_C] (.reg [.gen [] (fun vs => Sx.one (.int .i64 (ci (varg vs 0) + ci (varg vs 1))) vs), .sem []] (.done))) (.reg [.sem [], .sem [], .sem [.rd 3], .sem [], .sem [.rd 3], .callw [1, 2] [1, 2] stage_Set70_C] (.reg [.gen [] (fun vs => Sx.one (.int .i64 (ci (varg vs 0) + ci (varg vs 1))) vs), .sem []] (.done)))))) (.done)))))
    (init #[.pointer (some ⟨b, 0, none⟩), l] [(old w), (mS Try.mk70 b bj m), (jS Try.jk bj L)]) (finW Try.prog Try.f10 [] [0, 1, 2] (X := KV × List Ent) (fun zx => .tuple #[]) (fun zx => [(old w), (mS Try.mk70 b bj zx.1), (jS Try.jk bj zx.2)]) (fun zx => (zx = doD (Try.ent70 b) (rdSl 4 Try.el51 Try.el51_ok (old w) (l)) (m, L)))) =
    ((PureRun Try.prog (do pure (.value (← Builtin.len_ #[22] 3 #[l]))) (.int .i64 ((vlen l : Nat) : Int))) ∧ (∃ zx : Nat × KV × List Ent, (zx.1 ≤ ls.length ∧ zx.2 = doD (Try.ent70 b) (List.take zx.1 ls) (m, L) ∧ List.length zx.2.2 ≤ 1000 + zx.1) ∧ Value.pointer (some ⟨b, 0, none⟩) = .pointer (some ⟨b, 0, none⟩) ∧ l = l ∧ l = l ∧ Value.int .i64 ((vlen l : Nat) : Int) = .int .i64 ((vlen l : Nat) : Int) ∧ Value.int .i64 0 = .int .i64 ((zx.1 : Nat) : Int) ∧ (old w) = (old w) ∧ (mS Try.mk70 b bj m) = (mS Try.mk70 b bj zx.2.1) ∧ (jS Try.jk bj L) = (jS Try.jk bj zx.2.2) ∧ True) ∧ ∀ x1 : Nat × KV × List Ent, ∀ jx1 : Nat → Value, (x1.1 ≤ ls.length ∧ x1.2 = doD (Try.ent70 b) (List.take x1.1 ls) (m, L) ∧ List.length x1.2.2 ≤ 1000 + x1.1) → ((decide (((x1.1 : Nat) : Int) < ((vlen l : Nat) : Int))) = true → (PureRun Try.prog (do pure (.value (← Instr.indexAt 22 l (.int .i64 ((x1.1 : Nat) : Int))))) (.pointer (some ⟨(vblk l), (voff l + (Int.toNat ((x1.1 : Nat) : Int)) * 4), none⟩))) ∧ (OpT Try.prog (do pure (.value (← Instr.loadAt 51 (.pointer (some ⟨(vblk l), (voff l + (Int.toNat ((x1.1 : Nat) : Int)) * 4), none⟩))))) [(old w)] (Int × Int × Int × Int) (fun zx => .agg #[.int .u8 zx.1, .int .i64 zx.2.1, .int .i64 zx.2.2.1, .int .i64 zx.2.2.2]) (fun _ => [(old w)]) (fun zx => (Try.el51_ok) zx ∧ ∃ w', old w = old w' ∧ At w' (.pointer (some ⟨(vblk l), (voff l + (Int.toNat ((x1.1 : Nat) : Int)) * 4), none⟩)) ((Try.el51) zx).cells.toList)) ∧ (∃ zx : Int × Int × Int × Int, (fun zx => (Try.el51_ok) zx ∧ ∃ w', old w = old w' ∧ At w' (.pointer (some ⟨(vblk l), (voff l + (Int.toNat ((x1.1 : Nat) : Int)) * 4), none⟩)) ((Try.el51) zx).cells.toList) zx) ∧ ∀ x2 : Int × Int × Int × Int, ((Try.el51_ok) x2 ∧ ∃ w', old w = old w' ∧ At w' (.pointer (some ⟨(vblk l), (voff l + (Int.toNat ((x1.1 : Nat) : Int)) * 4), none⟩)) ((Try.el51) x2).cells.toList) → ∀ b3 : Nat, b3 = b3 ∧ (none : Option Nat) = none ∧ b3 = b3 ∧ (none : Option Nat) = none ∧ b3 = b3 ∧ (none : Option Nat) = none ∧ b3 = b3 ∧ (none : Option Nat) = none ∧ b3 = b3 ∧ (none : Option Nat) = none ∧ (((Int.tmod x2.1 3) == (0 : Int)) = true → b3 = b3 ∧ (none : Option Nat) = none ∧ (CallT Try.prog 19 #[.pointer (some ⟨b, 0, none⟩), .int .i64 x2.2.1] [(mS Try.mk70 b bj x1.2.1), (jS Try.jk bj x1.2.2)] (KV × List Ent × Bool) (fun zx => .bool zx.2.2) (fun zx => [(mS Try.mk70 b bj zx.1), (jS Try.jk bj zx.2.1)]) (fun zx => zx.2.2 = (mget x1.2.1 (Value.int .i64 x2.2.1)).isSome ∧ zx.1 = mdel x1.2.1 (Value.int .i64 x2.2.1) ∧ zx.2.1 = if (mget x1.2.1 (Value.int .i64 x2.2.1)).isSome then x1.2.2 ++ [(Try.ent70 b x1.2.1 (Value.int .i64 x2.2.1))] else x1.2.2)) ∧ (∃ zx : KV × List Ent × Bool, (fun zx => zx.2.2 = (mget x1.2.1 (Value.int .i64 x2.2.1)).isSome ∧ zx.1 = mdel x1.2.1 (Value.int .i64 x2.2.1) ∧ zx.2.1 = if (mget x1.2.1 (Value.int .i64 x2.2.1)).isSome then x1.2.2 ++ [(Try.ent70 b x1.2.1 (Value.int .i64 x2.2.1))] else x1.2.2) zx) ∧ ∀ x4 : KV × List Ent × Bool, (x4.2.2 = (mget x1.2.1 (Value.int .i64 x2.2.1)).isSome ∧ x4.1 = mdel x1.2.1 (Value.int .i64 x2.2.1) ∧ x4.2.1 = if (mget x1.2.1 (Value.int .i64 x2.2.1)).isSome then x1.2.2 ++ [(Try.ent70 b x1.2.1 (Value.int .i64 x2.2.1))] else x1.2.2) → (∃ _ : Unit, True ∧ Value.int .i64 (IntKind.i64.wrap (((x1.1 : Nat) : Int) + 1)) = .int .i64 (((x1.1 : Nat) : Int) + 1)) ∧ ∀ _ : Unit, (True) → ∃ zy : Nat × KV × List Ent, (zy.1 ≤ ls.length ∧ zy.2 = doD (Try.ent70 b) (List.take zy.1 ls) (m, L) ∧ List.length zy.2.2 ≤ 1000 + zy.1) ∧ ls.length - zy.1 < ls.length - x1.1 ∧ Value.pointer (some ⟨b, 0, none⟩) = .pointer (some ⟨b, 0, none⟩) ∧ l = l ∧ l = l ∧ Value.int .i64 ((vlen l : Nat) : Int) = .int .i64 ((vlen l : Nat) : Int) ∧ Value.int .i64 (((x1.1 : Nat) : Int) + 1) = .int .i64 ((zy.1 : Nat) : Int) ∧ (old w) = (old w) ∧ (mS Try.mk70 b bj x4.1) = (mS Try.mk70 b bj zy.2.1) ∧ (jS Try.jk bj x4.2.1) = (jS Try.jk bj zy.2.2) ∧ True) ∧ (((Int.tmod x2.1 3) == (0 : Int)) = false → b3 = b3 ∧ (none : Option Nat) = none ∧ b3 = b3 ∧ (none : Option Nat) = none ∧ (CallT Try.prog 17 #[.pointer (some ⟨b, 0, none⟩), .int .i64 x2.2.1, .int .i64 x2.2.2.1] [(mS Try.mk70 b bj x1.2.1), (jS Try.jk bj x1.2.2)] (KV × List Ent) (fun zx => .tuple #[]) (fun zx => [(mS Try.mk70 b bj zx.1), (jS Try.jk bj zx.2)]) (fun zx => zx.1 = mset x1.2.1 (Value.int .i64 x2.2.1) (Value.int .i64 x2.2.2.1) ∧ zx.2 = x1.2.2 ++ [(Try.ent70 b x1.2.1 (Value.int .i64 x2.2.1))])) ∧ (∃ zx : KV × List Ent, (fun zx => zx.1 = mset x1.2.1 (Value.int .i64 x2.2.1) (Value.int .i64 x2.2.2.1) ∧ zx.2 = x1.2.2 ++ [(Try.ent70 b x1.2.1 (Value.int .i64 x2.2.1))]) zx) ∧ ∀ x5 : KV × List Ent, (x5.1 = mset x1.2.1 (Value.int .i64 x2.2.1) (Value.int .i64 x2.2.2.1) ∧ x5.2 = x1.2.2 ++ [(Try.ent70 b x1.2.1 (Value.int .i64 x2.2.1))]) → (∃ _ : Unit, True ∧ Value.int .i64 (IntKind.i64.wrap (((x1.1 : Nat) : Int) + 1)) = .int .i64 (((x1.1 : Nat) : Int) + 1)) ∧ ∀ _ : Unit, (True) → ∃ zy : Nat × KV × List Ent, (zy.1 ≤ ls.length ∧ zy.2 = doD (Try.ent70 b) (List.take zy.1 ls) (m, L) ∧ List.length zy.2.2 ≤ 1000 + zy.1) ∧ ls.length - zy.1 < ls.length - x1.1 ∧ Value.pointer (some ⟨b, 0, none⟩) = .pointer (some ⟨b, 0, none⟩) ∧ l = l ∧ l = l ∧ Value.int .i64 ((vlen l : Nat) : Int) = .int .i64 ((vlen l : Nat) : Int) ∧ Value.int .i64 (((x1.1 : Nat) : Int) + 1) = .int .i64 ((zy.1 : Nat) : Int) ∧ (old w) = (old w) ∧ (mS Try.mk70 b bj x5.1) = (mS Try.mk70 b bj zy.2.1) ∧ (jS Try.jk bj x5.2) = (jS Try.jk bj zy.2.2) ∧ True)) ∧ ((decide (((x1.1 : Nat) : Int) < ((vlen l : Nat) : Int))) = false → ∃ zx : KV × List Ent, (zx = doD (Try.ent70 b) (rdSl 4 Try.el51 Try.el51_ok (old w) (l)) (m, L)) ∧ Value.tuple #[] = .tuple #[] ∧ (old w) = (old w) ∧ (mS Try.mk70 b bj x1.2.1) = (mS Try.mk70 b bj zx.1) ∧ (jS Try.jk bj x1.2.2) = (jS Try.jk bj zx.2) ∧ True)) := by kernel_rfl
set_option maxRecDepth 100000 in
theorem law12_deeds (w : World) (l : Value) (ls : List A4) (b : Nat) (bj : Nat) (m : KV) (L : List Ent) (h_l : SlX w 4 (X := Int × Int × Int × Int) Try.el51 Try.el51_ok l ls) (hl : ls.length ≤ 100) (hL : L.length ≤ 1000) : CallT Try.prog 10 #[.pointer (some ⟨b, 0, none⟩), l] [(old w), (mS Try.mk70 b bj m), (jS Try.jk bj L)] (KV × List Ent) (fun zx => .tuple #[]) (fun zx => [(old w), (mS Try.mk70 b bj zx.1), (jS Try.jk bj zx.2)]) (fun zx => (zx = doD (Try.ent70 b) (rdSl 4 Try.el51 Try.el51_ok (old w) (l)) (m, L))) := by
  refine call_of (c := bodyOf Try.f10) (n := 27) (fn := Try.f10) Try.mixed Try.func10 (by kernel_rfl) (by kernel_rfl) (by kernel_rfl) 2000 _ [] [0, 1, 2] rfl rfl (Eq.mpr (law12_deeds_vc w l ls b bj m L) ?_)
  have vl := h_l.vlen
  refine ⟨xolen Try.elt22 h_l.sl 3, ?_⟩
  refine ⟨?_, fun x1 jx1 h1 => ?_⟩
  · exact ⟨(0, m, L), ⟨Nat.zero_le _, rfl, hL⟩, rfl, rfl, rfl, rfl, rfl, rfl, rfl, rfl, trivial⟩
  · obtain ⟨hi, hD, hn⟩ := h1
    refine ⟨fun h2 => ?_, fun h2 => ?_⟩
    · refine ⟨xoidx Try.elt22 h_l.sl .i64 ((x1.1 : Nat) : Int) (by omega) (by rw [List.length_map]; (try simp (disch := first | assumption | exact R4_zero | exact R4_one) only [num_vI, decide_eq_true_eq, decide_eq_false_iff_not, gt_iff_lt, ge_iff_le, beq_iff_eq, beq_eq_false_iff_ne, bne_iff_ne, bne_eq_false_iff_eq, ne_eq] at *); omega), xold Try.elk51 h_l (Int.toNat ((x1.1 : Nat) : Int)) (gx_some (xs := ls) (i := (Int.toNat ((x1.1 : Nat) : Int))) (by (try simp (disch := first | assumption | exact R4_zero | exact R4_one) only [num_vI, decide_eq_true_eq, decide_eq_false_iff_not, gt_iff_lt, ge_iff_le, beq_iff_eq, beq_eq_false_iff_ne, bne_iff_ne, bne_eq_false_iff_eq, ne_eq] at *); omega)), wold h_l (Int.toNat ((x1.1 : Nat) : Int)) (gx_some (xs := ls) (i := (Int.toNat ((x1.1 : Nat) : Int))) (by (try simp (disch := first | assumption | exact R4_zero | exact R4_one) only [num_vI, decide_eq_true_eq, decide_eq_false_iff_not, gt_iff_lt, ge_iff_le, beq_iff_eq, beq_eq_false_iff_ne, bne_iff_ne, bne_eq_false_iff_eq, ne_eq] at *); omega)), ?_⟩
      intro x2
      intro h3
      have kh3 := h3.1
      replace h3 := eold Try.elk51 h_l (Int.toNat ((x1.1 : Nat) : Int)) (gx_some (xs := ls) (i := (Int.toNat ((x1.1 : Nat) : Int))) (by (try simp (disch := first | assumption | exact R4_zero | exact R4_one) only [num_vI, decide_eq_true_eq, decide_eq_false_iff_not, gt_iff_lt, ge_iff_le, beq_iff_eq, beq_eq_false_iff_ne, bne_iff_ne, bne_eq_false_iff_eq, ne_eq] at *); omega)) h3
      have hlt : x1.1 < ls.length := by (try simp (disch := first | assumption | exact R4_zero | exact R4_one) only [num_vI, decide_eq_true_eq, decide_eq_false_iff_not, gt_iff_lt, ge_iff_le, beq_iff_eq, beq_eq_false_iff_ne, bne_iff_ne, bne_eq_false_iff_eq, ne_eq] at *); omega
      have hz : ls[x1.1]? = some x2 := by rw [h3, Int.toNat_natCast]; exact gx_some hlt
      have hok := h_l.ok _ (List.mem_of_getElem? hz)
      intro b3
      refine ⟨rfl, rfl, rfl, rfl, rfl, rfl, rfl, rfl, ?_⟩
      refine ⟨rfl, rfl, ?_⟩
      refine ⟨fun h4 => ?_, fun h4 => ?_⟩
      · have hkd :  (Int.tmod x2.1 3 = 0) := by simpa using h4
        refine ⟨rfl, rfl, stage_Drop70 b bj x1.2.1 x1.2.2 x2.2.1 (by omega), ⟨(_, _, _), rfl, rfl, rfl⟩, ?_⟩
        intro x4
        intro h5
        have hd := h5
        refine ⟨⟨(), trivial, congrArg (Value.int .i64) (wrap_i64 _ (by omega) (by omega))⟩, ?_⟩
        intro _
        intro _
        have hstep := doD_snoc (ent := Try.ent70 b) hz (m, L)
        rw [← hD] at hstep
        have hA : (x4.1, x4.2.1) = doD (Try.ent70 b) (List.take (x1.1 + 1) ls) (m, L) := by
          rw [hstep]; unfold actD; rw [if_pos hkd, hd.2.1, hd.2.2]
          split
          · rfl
          · rename_i hno; rw [mdel_none (by simpa using hno)]
        have hn2 : List.length x4.2.1 ≤ 1000 + (x1.1 + 1) := by rw [hd.2.2]; split <;> (try simp only [List.length_append, List.length_singleton]) <;> omega
        exact ⟨(x1.1 + 1, x4.1, x4.2.1), ⟨by dsimp only; omega, hA, hn2⟩, by dsimp only; omega, rfl, rfl, rfl, rfl, congrArg (Value.int .i64) (by (try dsimp only); omega), rfl, rfl, rfl, trivial⟩
      · have hkd : ¬ (Int.tmod x2.1 3 = 0) := by simpa using h4
        refine ⟨rfl, rfl, rfl, rfl, stage_Set70 b bj x1.2.1 x1.2.2 x2.2.1 x2.2.2.1 (hok.2.2.1) (by omega), ⟨(_, _), rfl, rfl⟩, ?_⟩
        intro x5
        intro h6
        have hs := h6
        refine ⟨⟨(), trivial, congrArg (Value.int .i64) (wrap_i64 _ (by omega) (by omega))⟩, ?_⟩
        intro _
        intro _
        have hstep := doD_snoc (ent := Try.ent70 b) hz (m, L)
        rw [← hD] at hstep
        have hA : (x5.1, x5.2) = doD (Try.ent70 b) (List.take (x1.1 + 1) ls) (m, L) := by rw [hstep]; unfold actD; rw [if_neg hkd, hs.1, hs.2]
        have hn2 : List.length x5.2 ≤ 1000 + (x1.1 + 1) := by rw [hs.2]; simp; omega
        exact ⟨(x1.1 + 1, x5.1, x5.2), ⟨by dsimp only; omega, hA, hn2⟩, by dsimp only; omega, rfl, rfl, rfl, rfl, congrArg (Value.int .i64) (by (try dsimp only); omega), rfl, rfl, rfl, trivial⟩
    · have he : x1.1 = ls.length := by (try simp (disch := first | assumption | exact R4_zero | exact R4_one) only [num_vI, decide_eq_true_eq, decide_eq_false_iff_not, gt_iff_lt, ge_iff_le, beq_iff_eq, beq_eq_false_iff_ne, bne_iff_ne, bne_eq_false_iff_eq, ne_eq] at *); omega
      rw [he, List.take_length] at hD
      exact ⟨x1.2, by rw [rdSl_eq Try.elk51 h_l]; exact hD, rfl, rfl, rfl, rfl, trivial⟩

set_option maxRecDepth 100000 in
set_option maxHeartbeats 8000000 in
theorem law12_StageBack_vc (w : World) (l : Value) (g : Value) (r : Value) (ls : List A4) (gs : List A4) (rs : List A4) : codeW Try.prog 103 none 2000 none (bodyOf Try.f3) (.reg [.sem []] (.caseP (fun s => decide (((vlen (s.fr 0) : Nat) : Int) > (30 : Int))) (.reg [.callr [] law12_lives_C, .sem [], .sem [], .sem [], .eq (f_len), .gen [] (Sx.one (.bool true)), .sem [], .sem [], .no, .no, .no, .sem [], .sem [], .no, .no, .no, .sem []] (.condT (.reg [.callr [] law12_lives_C, .sem []] (.done)))) (.caseP (fun s => decide (((vlen (s.fr 1) : Nat) : Int) > (30 : Int))) (.reg [.callr [] law12_lives_C, .sem [], .sem [], .sem [], .eq (f_len), .gen [] (Sx.one (.bool false)), .sem [], .sem [], .sem [], .eq (f_len), .gen [] (Sx.one (.bool true)), .sem [], .sem [], .no, .no, .no, .sem []] (.condT (.reg [.callr [] law12_lives_C, .sem []] (.done)))) (.reg [.callr [] law12_lives_C, .sem [], .sem [], .sem [], .eq (f_len), .gen [] (Sx.one (.bool false)), .sem [], .sem [], .sem [], .eq (f_len), .gen [] (Sx.one (.bool false)), .sem [], .sem [], .sem [], .eq (f_len), .sem [], .sem []] (.cond (.reg [.callr [] law12_lives_C, .sem []] (.done)) (.reg [.sem [], .specw [] [20] (F_newj Try.jk), .sem [], .specw [] [21] (F_newj Try.jk), .sem [], .sem []] (.reg [.sem [], .callw [] [22] stage_New70_C, .sem [], .callw [] [23] stage_New70_C, .sem [], .sem []] (.reg [.sem [], .sem [], .callw [0, 22, 20] [0, 22, 20] law12_deeds_C] (.reg [.sem [], .sem [], .callw [0, 23, 21] [0, 23, 21] law12_deeds_C] (.reg [.sem [], .callr [20] stage_Mark_C, .sem []] (.reg [.sem [], .sem [], .callw [0, 22, 20] [0, 22, 20] law12_deeds_C] (.reg [.sem [], .sem [], .callw [20, 22] [20, 22] stage_Back_70_C, .sem [], .sem [], .sem [], .callr [20] stage_Mark_C, .sem [], .gen [] (Sx.one (.bool false)), .sem [], .sem [], .sem [], .calln [22] [30, 31, 32, 33] keys_All70_C, .calln [30, 31, 32, 33] [34] law_pairs14_100_C, .sem [], .calln [23] [35, 36, 37, 38] keys_All70_C, .calln [35, 36, 37, 38] [39] law_pairs14_100_C, .callr [34, 39] (fun _ hs => ⟨Unit, fun _ => .bool true, fun _ => hs, fun _ => True⟩), .sem [], .sem []] (.condF (.reg [.sem [], .sem [], .callw [0, 22, 20] [0, 22, 20] law12_deeds_C] (.reg [.sem [], .sem [], .callw [0, 23, 21] [0, 23, 21] law12_deeds_C] (.reg [.sem [], .callr [20] stage_Mark_C, .sem [], .callr [21] stage_Mark_C, .gen [] (Sx.one (.bool false)), .sem [], .sem [], .calln [22] [40, 41, 42, 43] keys_All70_C, .calln [40, 41, 42, 43] [44] law_pairs14_100_C, .sem [], .calln [23] [45, 46, 47, 48] keys_All70_C, .calln [45, 46, 47, 48] [49] law_pairs14_100_C, .callr [44, 49] (fun _ hs => ⟨Unit, fun _ => .bool true, fun _ => hs, fun _ => True⟩), .sem [], .sem [], .sem [], .sem [], .callw [20, 22] [20, 22] stage_Back_70_C, .sem [], .sem []] (.condF (.reg [.sem [], .callr [22] stage_Len70_C, .gen [] (Sx.one (.bool true)), .sem [], .sem [], .callr [20] stage_Mark_C, .gen [] (Sx.one (.bool true)), .sem [], .sem []] (.done)))))))))))))))))))
    (init #[l, g, r] [(old w)]) (finW Try.prog Try.f3 [] [0] (X := Unit) (fun _ => .bool true) (fun _ => [(old w)]) (fun _ => True)) =
    (((decide (((vlen l : Nat) : Int) > (30 : Int))) = true → (CallT Try.prog 7 #[] [] Unit (fun _ => .bool true) (fun _ => []) (fun _ => True)) ∧ (∃ zx : Unit, (fun _ => True) zx) ∧ ∀ _ : Unit, (True) → false = false ∧ false = false ∧ (PureRun Try.prog (do pure (.value (← Builtin.len_ #[22] 3 #[l]))) (.int .i64 ((vlen l : Nat) : Int))) ∧ false = false ∧ (∃ _ : Unit, True ∧ Value.bool (decide (((vlen l : Nat) : Int) > (30 : Int))) = .bool true) ∧ ∀ _ : Unit, (True) → true = !false ∧ true = !false ∧ true = !false ∧ true = !false ∧ true = !false ∧ true = !false ∧ (true = true) ∧ (CallT Try.prog 7 #[] [] Unit (fun _ => .bool true) (fun _ => []) (fun _ => True)) ∧ (∃ zx : Unit, (fun _ => True) zx) ∧ ∀ _ : Unit, (True) → ∃ _ : Unit, (True) ∧ Value.bool true = .bool true ∧ (old w) = (old w) ∧ True) ∧ ((decide (((vlen l : Nat) : Int) > (30 : Int))) = false → ((decide (((vlen g : Nat) : Int) > (30 : Int))) = true → (CallT Try.prog 7 #[] [] Unit (fun _ => .bool true) (fun _ => []) (fun _ => True)) ∧ (∃ zx : Unit, (fun _ => True) zx) ∧ ∀ _ : Unit, (True) → false = false ∧ false = false ∧ (PureRun Try.prog (do pure (.value (← Builtin.len_ #[22] 3 #[l]))) (.int .i64 ((vlen l : Nat) : Int))) ∧ false = false ∧ (∃ _ : Unit, True ∧ Value.bool (decide (((vlen l : Nat) : Int) > (30 : Int))) = .bool false) ∧ ∀ _ : Unit, (True) → false = false ∧ false = false ∧ (PureRun Try.prog (do pure (.value (← Builtin.len_ #[22] 3 #[g]))) (.int .i64 ((vlen g : Nat) : Int))) ∧ false = false ∧ (∃ _ : Unit, True ∧ Value.bool (decide (((vlen g : Nat) : Int) > (30 : Int))) = .bool true) ∧ ∀ _ : Unit, (True) → true = !false ∧ true = !false ∧ true = !false ∧ (true = true) ∧ (CallT Try.prog 7 #[] [] Unit (fun _ => .bool true) (fun _ => []) (fun _ => True)) ∧ (∃ zx : Unit, (fun _ => True) zx) ∧ ∀ _ : Unit, (True) → ∃ _ : Unit, (True) ∧ Value.bool true = .bool true ∧ (old w) = (old w) ∧ True) ∧ ((decide (((vlen g : Nat) : Int) > (30 : Int))) = false → (CallT Try.prog 7 #[] [] Unit (fun _ => .bool true) (fun _ => []) (fun _ => True)) ∧ (∃ zx : Unit, (fun _ => True) zx) ∧ ∀ _ : Unit, (True) → false = false ∧ false = false ∧ (PureRun Try.prog (do pure (.value (← Builtin.len_ #[22] 3 #[l]))) (.int .i64 ((vlen l : Nat) : Int))) ∧ false = false ∧ (∃ _ : Unit, True ∧ Value.bool (decide (((vlen l : Nat) : Int) > (30 : Int))) = .bool false) ∧ ∀ _ : Unit, (True) → false = false ∧ false = false ∧ (PureRun Try.prog (do pure (.value (← Builtin.len_ #[22] 3 #[g]))) (.int .i64 ((vlen g : Nat) : Int))) ∧ false = false ∧ (∃ _ : Unit, True ∧ Value.bool (decide (((vlen g : Nat) : Int) > (30 : Int))) = .bool false) ∧ ∀ _ : Unit, (True) → false = false ∧ false = false ∧ (PureRun Try.prog (do pure (.value (← Builtin.len_ #[22] 3 #[r]))) (.int .i64 ((vlen r : Nat) : Int))) ∧ false = false ∧ ((decide (((vlen r : Nat) : Int) > (30 : Int))) = true → (CallT Try.prog 7 #[] [] Unit (fun _ => .bool true) (fun _ => []) (fun _ => True)) ∧ (∃ zx : Unit, (fun _ => True) zx) ∧ ∀ _ : Unit, (True) → ∃ _ : Unit, (True) ∧ Value.bool true = .bool true ∧ (old w) = (old w) ∧ True) ∧ ((decide (((vlen r : Nat) : Int) > (30 : Int))) = false → (OpT Try.prog (do pure (Next.value (← Instr.box 27 (.agg #[.slice none 0 0])))) [] Nat (fun zx => .pointer (some ⟨zx, 0, none⟩)) (fun zx => [(jS Try.jk zx ([]))]) (fun zx => True)) ∧ (∃ zx : Nat, (fun zx => True) zx) ∧ ∀ x1 : Nat, (True) → (OpT Try.prog (do pure (Next.value (← Instr.box 27 (.agg #[.slice none 0 0])))) [] Nat (fun zx => .pointer (some ⟨zx, 0, none⟩)) (fun zx => [(jS Try.jk zx ([]))]) (fun zx => True)) ∧ (∃ zx : Nat, (fun zx => True) zx) ∧ ∀ x2 : Nat, (True) → (CallT Try.prog 8 #[.pointer (some ⟨x1, 0, none⟩), .func (.func 9) #[] #[]] [] Nat (fun zx => .pointer (some ⟨zx, 0, none⟩)) (fun zx => [(mS Try.mk70 zx x1 ([]))]) (fun zx => True)) ∧ (∃ zx : Nat, (fun zx => True) zx) ∧ ∀ x3 : Nat, (True) → (CallT Try.prog 8 #[.pointer (some ⟨x2, 0, none⟩), .func (.func 9) #[] #[]] [] Nat (fun zx => .pointer (some ⟨zx, 0, none⟩)) (fun zx => [(mS Try.mk70 zx x2 ([]))]) (fun zx => True)) ∧ (∃ zx : Nat, (fun zx => True) zx) ∧ ∀ x4 : Nat, (True) → (CallT Try.prog 10 #[.pointer (some ⟨x3, 0, none⟩), l] [(old w), (mS Try.mk70 x3 x1 ([])), (jS Try.jk x1 ([]))] (KV × List Ent) (fun zx => .tuple #[]) (fun zx => [(old w), (mS Try.mk70 x3 x1 zx.1), (jS Try.jk x1 zx.2)]) (fun zx => zx = doD (Try.ent70 x3) (rdSl 4 Try.el51 Try.el51_ok (old w) (l)) (([]), ([])))) ∧ (∃ zx : KV × List Ent, (fun zx => zx = doD (Try.ent70 x3) (rdSl 4 Try.el51 Try.el51_ok (old w) (l)) (([]), ([]))) zx) ∧ ∀ x5 : KV × List Ent, (x5 = doD (Try.ent70 x3) (rdSl 4 Try.el51 Try.el51_ok (old w) (l)) (([]), ([]))) → (CallT Try.prog 10 #[.pointer (some ⟨x4, 0, none⟩), l] [(old w), (mS Try.mk70 x4 x2 ([])), (jS Try.jk x2 ([]))] (KV × List Ent) (fun zx => .tuple #[]) (fun zx => [(old w), (mS Try.mk70 x4 x2 zx.1), (jS Try.jk x2 zx.2)]) (fun zx => zx = doD (Try.ent70 x4) (rdSl 4 Try.el51 Try.el51_ok (old w) (l)) (([]), ([])))) ∧ (∃ zx : KV × List Ent, (fun zx => zx = doD (Try.ent70 x4) (rdSl 4 Try.el51 Try.el51_ok (old w) (l)) (([]), ([]))) zx) ∧ ∀ x6 : KV × List Ent, (x6 = doD (Try.ent70 x4) (rdSl 4 Try.el51 Try.el51_ok (old w) (l)) (([]), ([]))) → (CallT Try.prog 11 #[.pointer (some ⟨x1, 0, none⟩)] [(jS Try.jk x1 x5.2)] Int (fun zx => .int .i64 zx) (fun _ => [(jS Try.jk x1 x5.2)]) (fun zx => zx = (((x5.2 : List Ent).length : Nat) : Int))) ∧ (∃ zx : Int, (fun zx => zx = (((x5.2 : List Ent).length : Nat) : Int)) zx) ∧ ∀ x7 : Int, (x7 = (((x5.2 : List Ent).length : Nat) : Int)) → (CallT Try.prog 10 #[.pointer (some ⟨x3, 0, none⟩), g] [(old w), (mS Try.mk70 x3 x1 x5.1), (jS Try.jk x1 x5.2)] (KV × List Ent) (fun zx => .tuple #[]) (fun zx => [(old w), (mS Try.mk70 x3 x1 zx.1), (jS Try.jk x1 zx.2)]) (fun zx => zx = doD (Try.ent70 x3) (rdSl 4 Try.el51 Try.el51_ok (old w) (g)) (x5.1, x5.2))) ∧ (∃ zx : KV × List Ent, (fun zx => zx = doD (Try.ent70 x3) (rdSl 4 Try.el51 Try.el51_ok (old w) (g)) (x5.1, x5.2)) zx) ∧ ∀ x8 : KV × List Ent, (x8 = doD (Try.ent70 x3) (rdSl 4 Try.el51 Try.el51_ok (old w) (g)) (x5.1, x5.2)) → (CallT Try.prog 12 #[.pointer (some ⟨x1, 0, none⟩), .int .i64 x7] [(jS Try.jk x1 x8.2), (mS Try.mk70 x3 x1 x8.1)] KV (fun zx => .bool true) (fun zx => [(jS Try.jk x1 (List.take (Int.toNat x7) x8.2)), (mS Try.mk70 x3 x1 zx)]) (fun zx => undoAll (List.drop (Int.toNat x7) x8.2) [(Try.mk70, x3, x8.1)] = [(Try.mk70, x3, zx)])) ∧ (∃ zx : KV, (fun zx => undoAll (List.drop (Int.toNat x7) x8.2) [(Try.mk70, x3, x8.1)] = [(Try.mk70, x3, zx)]) zx) ∧ ∀ x9 : KV, (undoAll (List.drop (Int.toNat x7) x8.2) [(Try.mk70, x3, x8.1)] = [(Try.mk70, x3, x9)]) → false = false ∧ false = false ∧ (CallT Try.prog 11 #[.pointer (some ⟨x1, 0, none⟩)] [(jS Try.jk x1 (List.take (Int.toNat x7) x8.2))] Int (fun zx => .int .i64 zx) (fun _ => [(jS Try.jk x1 (List.take (Int.toNat x7) x8.2))]) (fun zx => zx = ((((List.take (Int.toNat x7) x8.2) : List Ent).length : Nat) : Int))) ∧ (∃ zx : Int, (fun zx => zx = ((((List.take (Int.toNat x7) x8.2) : List Ent).length : Nat) : Int)) zx) ∧ ∀ x10 : Int, (x10 = ((((List.take (Int.toNat x7) x8.2) : List Ent).length : Nat) : Int)) → false = false ∧ false = false ∧ (∃ _ : Unit, True ∧ Value.bool (x10 != x7) = .bool false) ∧ ∀ _ : Unit, (True) → false = false ∧ false = false ∧ (CallT Try.prog 15 #[.pointer (some ⟨x3, 0, none⟩)] [(mS Try.mk70 x3 x1 x9)] (Nat × Nat × Nat × Row) (fun zx => .func (.func 34) #[] #[.pointer (some ⟨zx.1, 0, none⟩), .pointer (some ⟨zx.2.1, 0, none⟩)]) (fun zx => [(mS Try.mk70 x3 x1 x9), .blk zx.1 (.cells #[sv zx.2.2.2] 41 (0, 0)), (ss 3 zx.2.2.2), .blk zx.2.1 (.cells #[.map (some zx.2.2.1)] 68 (0, 0)), (mo zx.2.2.1 x9)]) (fun zx => KeysOf .i64 x9 (vals zx.2.2.2))) ∧ (∃ zx : Nat × Nat × Nat × Row, (fun zx => KeysOf .i64 x9 (vals zx.2.2.2)) zx) ∧ ∀ x11 : Nat × Nat × Nat × Row, (KeysOf .i64 x9 (vals x11.2.2.2)) → false = false ∧ (CallT Try.prog 14 #[.func (.func 34) #[] #[.pointer (some ⟨x11.1, 0, none⟩), .pointer (some ⟨x11.2.1, 0, none⟩)], .int .i64 100] [.blk x11.1 (.cells #[sv x11.2.2.2] 41 (0, 0)), (ss 3 x11.2.2.2), .blk x11.2.1 (.cells #[.map (some x11.2.2.1)] 68 (0, 0)), (mo x11.2.2.1 x9)] (RK 2) (fun zx => sv zx.1) (fun zx => [.blk x11.1 (.cells #[sv x11.2.2.2] 41 (0, 0)), (ss 3 x11.2.2.2), .blk x11.2.1 (.cells #[.map (some x11.2.2.1)] 68 (0, 0)), (mo x11.2.2.1 x9), (sk 45 zx.1)]) (fun zx => vals zx.1 = pairsOf (Value.int .i64 0) x9 (vals (rrow (sv x11.2.2.2) (ss 3 x11.2.2.2))))) ∧ (∃ zx : RK 2, (fun zx => vals zx.1 = pairsOf (Value.int .i64 0) x9 (vals (rrow (sv x11.2.2.2) (ss 3 x11.2.2.2)))) zx) ∧ ∀ x12 : RK 2, (vals x12.1 = pairsOf (Value.int .i64 0) x9 (vals (rrow (sv x11.2.2.2) (ss 3 x11.2.2.2)))) → false = false ∧ false = false ∧ (CallT Try.prog 15 #[.pointer (some ⟨x4, 0, none⟩)] [(mS Try.mk70 x4 x2 x6.1)] (Nat × Nat × Nat × Row) (fun zx => .func (.func 34) #[] #[.pointer (some ⟨zx.1, 0, none⟩), .pointer (some ⟨zx.2.1, 0, none⟩)]) (fun zx => [(mS Try.mk70 x4 x2 x6.1), .blk zx.1 (.cells #[sv zx.2.2.2] 41 (0, 0)), (ss 3 zx.2.2.2), .blk zx.2.1 (.cells #[.map (some zx.2.2.1)] 68 (0, 0)), (mo zx.2.2.1 x6.1)]) (fun zx => KeysOf .i64 x6.1 (vals zx.2.2.2))) ∧ (∃ zx : Nat × Nat × Nat × Row, (fun zx => KeysOf .i64 x6.1 (vals zx.2.2.2)) zx) ∧ ∀ x13 : Nat × Nat × Nat × Row, (KeysOf .i64 x6.1 (vals x13.2.2.2)) → false = false ∧ (CallT Try.prog 14 #[.func (.func 34) #[] #[.pointer (some ⟨x13.1, 0, none⟩), .pointer (some ⟨x13.2.1, 0, none⟩)], .int .i64 100] [.blk x13.1 (.cells #[sv x13.2.2.2] 41 (0, 0)), (ss 3 x13.2.2.2), .blk x13.2.1 (.cells #[.map (some x13.2.2.1)] 68 (0, 0)), (mo x13.2.2.1 x6.1)] (RK 2) (fun zx => sv zx.1) (fun zx => [.blk x13.1 (.cells #[sv x13.2.2.2] 41 (0, 0)), (ss 3 x13.2.2.2), .blk x13.2.1 (.cells #[.map (some x13.2.2.1)] 68 (0, 0)), (mo x13.2.2.1 x6.1), (sk 45 zx.1)]) (fun zx => vals zx.1 = pairsOf (Value.int .i64 0) x6.1 (vals (rrow (sv x13.2.2.2) (ss 3 x13.2.2.2))))) ∧ (∃ zx : RK 2, (fun zx => vals zx.1 = pairsOf (Value.int .i64 0) x6.1 (vals (rrow (sv x13.2.2.2) (ss 3 x13.2.2.2)))) zx) ∧ ∀ x14 : RK 2, (vals x14.1 = pairsOf (Value.int .i64 0) x6.1 (vals (rrow (sv x13.2.2.2) (ss 3 x13.2.2.2)))) → false = false ∧ (CallT Try.prog 13 #[sv x12.1, sv x14.1] [(sk 45 x12.1), (sk 45 x14.1)] Unit (fun _ => .bool true) (fun _ => [(sk 45 x12.1), (sk 45 x14.1)]) (fun _ => True)) ∧ (∃ zx : Unit, (fun _ => True) zx) ∧ ∀ _ : Unit, (True) → false = false ∧ (false = false) ∧ (CallT Try.prog 10 #[.pointer (some ⟨x3, 0, none⟩), r] [(old w), (mS Try.mk70 x3 x1 x9), (jS Try.jk x1 (List.take (Int.toNat x7) x8.2))] (KV × List Ent) (fun zx => .tuple #[]) (fun zx => [(old w), (mS Try.mk70 x3 x1 zx.1), (jS Try.jk x1 zx.2)]) (fun zx => zx = doD (Try.ent70 x3) (rdSl 4 Try.el51 Try.el51_ok (old w) (r)) (x9, (List.take (Int.toNat x7) x8.2)))) ∧ (∃ zx : KV × List Ent, (fun zx => zx = doD (Try.ent70 x3) (rdSl 4 Try.el51 Try.el51_ok (old w) (r)) (x9, (List.take (Int.toNat x7) x8.2))) zx) ∧ ∀ x15 : KV × List Ent, (x15 = doD (Try.ent70 x3) (rdSl 4 Try.el51 Try.el51_ok (old w) (r)) (x9, (List.take (Int.toNat x7) x8.2))) → (CallT Try.prog 10 #[.pointer (some ⟨x4, 0, none⟩), r] [(old w), (mS Try.mk70 x4 x2 x6.1), (jS Try.jk x2 x6.2)] (KV × List Ent) (fun zx => .tuple #[]) (fun zx => [(old w), (mS Try.mk70 x4 x2 zx.1), (jS Try.jk x2 zx.2)]) (fun zx => zx = doD (Try.ent70 x4) (rdSl 4 Try.el51 Try.el51_ok (old w) (r)) (x6.1, x6.2))) ∧ (∃ zx : KV × List Ent, (fun zx => zx = doD (Try.ent70 x4) (rdSl 4 Try.el51 Try.el51_ok (old w) (r)) (x6.1, x6.2)) zx) ∧ ∀ x16 : KV × List Ent, (x16 = doD (Try.ent70 x4) (rdSl 4 Try.el51 Try.el51_ok (old w) (r)) (x6.1, x6.2)) → (CallT Try.prog 11 #[.pointer (some ⟨x1, 0, none⟩)] [(jS Try.jk x1 x15.2)] Int (fun zx => .int .i64 zx) (fun _ => [(jS Try.jk x1 x15.2)]) (fun zx => zx = (((x15.2 : List Ent).length : Nat) : Int))) ∧ (∃ zx : Int, (fun zx => zx = (((x15.2 : List Ent).length : Nat) : Int)) zx) ∧ ∀ x17 : Int, (x17 = (((x15.2 : List Ent).length : Nat) : Int)) → (CallT Try.prog 11 #[.pointer (some ⟨x2, 0, none⟩)] [(jS Try.jk x2 x16.2)] Int (fun zx => .int .i64 zx) (fun _ => [(jS Try.jk x2 x16.2)]) (fun zx => zx = (((x16.2 : List Ent).length : Nat) : Int))) ∧ (∃ zx : Int, (fun zx => zx = (((x16.2 : List Ent).length : Nat) : Int)) zx) ∧ ∀ x18 : Int, (x18 = (((x16.2 : List Ent).length : Nat) : Int)) → (∃ _ : Unit, True ∧ Value.bool (x17 != x18) = .bool false) ∧ ∀ _ : Unit, (True) → false = false ∧ false = false ∧ (CallT Try.prog 15 #[.pointer (some ⟨x3, 0, none⟩)] [(mS Try.mk70 x3 x1 x15.1)] (Nat × Nat × Nat × Row) (fun zx => .func (.func 34) #[] #[.pointer (some ⟨zx.1, 0, none⟩), .pointer (some ⟨zx.2.1, 0, none⟩)]) (fun zx => [(mS Try.mk70 x3 x1 x15.1), .blk zx.1 (.cells #[sv zx.2.2.2] 41 (0, 0)), (ss 3 zx.2.2.2), .blk zx.2.1 (.cells #[.map (some zx.2.2.1)] 68 (0, 0)), (mo zx.2.2.1 x15.1)]) (fun zx => KeysOf .i64 x15.1 (vals zx.2.2.2))) ∧ (∃ zx : Nat × Nat × Nat × Row, (fun zx => KeysOf .i64 x15.1 (vals zx.2.2.2)) zx) ∧ ∀ x19 : Nat × Nat × Nat × Row, (KeysOf .i64 x15.1 (vals x19.2.2.2)) → false = false ∧ (CallT Try.prog 14 #[.func (.func 34) #[] #[.pointer (some ⟨x19.1, 0, none⟩), .pointer (some ⟨x19.2.1, 0, none⟩)], .int .i64 100] [.blk x19.1 (.cells #[sv x19.2.2.2] 41 (0, 0)), (ss 3 x19.2.2.2), .blk x19.2.1 (.cells #[.map (some x19.2.2.1)] 68 (0, 0)), (mo x19.2.2.1 x15.1)] (RK 2) (fun zx => sv zx.1) (fun zx => [.blk x19.1 (.cells #[sv x19.2.2.2] 41 (0, 0)), (ss 3 x19.2.2.2), .blk x19.2.1 (.cells #[.map (some x19.2.2.1)] 68 (0, 0)), (mo x19.2.2.1 x15.1), (sk 45 zx.1)]) (fun zx => vals zx.1 = pairsOf (Value.int .i64 0) x15.1 (vals (rrow (sv x19.2.2.2) (ss 3 x19.2.2.2))))) ∧ (∃ zx : RK 2, (fun zx => vals zx.1 = pairsOf (Value.int .i64 0) x15.1 (vals (rrow (sv x19.2.2.2) (ss 3 x19.2.2.2)))) zx) ∧ ∀ x20 : RK 2, (vals x20.1 = pairsOf (Value.int .i64 0) x15.1 (vals (rrow (sv x19.2.2.2) (ss 3 x19.2.2.2)))) → false = false ∧ false = false ∧ (CallT Try.prog 15 #[.pointer (some ⟨x4, 0, none⟩)] [(mS Try.mk70 x4 x2 x16.1)] (Nat × Nat × Nat × Row) (fun zx => .func (.func 34) #[] #[.pointer (some ⟨zx.1, 0, none⟩), .pointer (some ⟨zx.2.1, 0, none⟩)]) (fun zx => [(mS Try.mk70 x4 x2 x16.1), .blk zx.1 (.cells #[sv zx.2.2.2] 41 (0, 0)), (ss 3 zx.2.2.2), .blk zx.2.1 (.cells #[.map (some zx.2.2.1)] 68 (0, 0)), (mo zx.2.2.1 x16.1)]) (fun zx => KeysOf .i64 x16.1 (vals zx.2.2.2))) ∧ (∃ zx : Nat × Nat × Nat × Row, (fun zx => KeysOf .i64 x16.1 (vals zx.2.2.2)) zx) ∧ ∀ x21 : Nat × Nat × Nat × Row, (KeysOf .i64 x16.1 (vals x21.2.2.2)) → false = false ∧ (CallT Try.prog 14 #[.func (.func 34) #[] #[.pointer (some ⟨x21.1, 0, none⟩), .pointer (some ⟨x21.2.1, 0, none⟩)], .int .i64 100] [.blk x21.1 (.cells #[sv x21.2.2.2] 41 (0, 0)), (ss 3 x21.2.2.2), .blk x21.2.1 (.cells #[.map (some x21.2.2.1)] 68 (0, 0)), (mo x21.2.2.1 x16.1)] (RK 2) (fun zx => sv zx.1) (fun zx => [.blk x21.1 (.cells #[sv x21.2.2.2] 41 (0, 0)), (ss 3 x21.2.2.2), .blk x21.2.1 (.cells #[.map (some x21.2.2.1)] 68 (0, 0)), (mo x21.2.2.1 x16.1), (sk 45 zx.1)]) (fun zx => vals zx.1 = pairsOf (Value.int .i64 0) x16.1 (vals (rrow (sv x21.2.2.2) (ss 3 x21.2.2.2))))) ∧ (∃ zx : RK 2, (fun zx => vals zx.1 = pairsOf (Value.int .i64 0) x16.1 (vals (rrow (sv x21.2.2.2) (ss 3 x21.2.2.2)))) zx) ∧ ∀ x22 : RK 2, (vals x22.1 = pairsOf (Value.int .i64 0) x16.1 (vals (rrow (sv x21.2.2.2) (ss 3 x21.2.2.2)))) → false = false ∧ (CallT Try.prog 13 #[sv x20.1, sv x22.1] [(sk 45 x20.1), (sk 45 x22.1)] Unit (fun _ => .bool true) (fun _ => [(sk 45 x20.1), (sk 45 x22.1)]) (fun _ => True)) ∧ (∃ zx : Unit, (fun _ => True) zx) ∧ ∀ _ : Unit, (True) → false = false ∧ false = false ∧ false = false ∧ (CallT Try.prog 12 #[.pointer (some ⟨x1, 0, none⟩), .int .i64 0] [(jS Try.jk x1 x15.2), (mS Try.mk70 x3 x1 x15.1)] KV (fun zx => .bool true) (fun zx => [(jS Try.jk x1 (List.take (Int.toNat (0 : Int)) x15.2)), (mS Try.mk70 x3 x1 zx)]) (fun zx => undoAll (List.drop (Int.toNat (0 : Int)) x15.2) [(Try.mk70, x3, x15.1)] = [(Try.mk70, x3, zx)])) ∧ (∃ zx : KV, (fun zx => undoAll (List.drop (Int.toNat (0 : Int)) x15.2) [(Try.mk70, x3, x15.1)] = [(Try.mk70, x3, zx)]) zx) ∧ ∀ x23 : KV, (undoAll (List.drop (Int.toNat (0 : Int)) x15.2) [(Try.mk70, x3, x15.1)] = [(Try.mk70, x3, x23)]) → false = false ∧ (false = false) ∧ (CallT Try.prog 16 #[.pointer (some ⟨x3, 0, none⟩)] [(mS Try.mk70 x3 x1 x23)] Int (fun zx => .int .i64 zx) (fun _ => [(mS Try.mk70 x3 x1 x23)]) (fun zx => zx = ((x23.length : Nat) : Int))) ∧ (∃ zx : Int, (fun zx => zx = ((x23.length : Nat) : Int)) zx) ∧ ∀ x24 : Int, (x24 = ((x23.length : Nat) : Int)) → (∃ _ : Unit, True ∧ Value.bool (x24 == (0 : Int)) = .bool true) ∧ ∀ _ : Unit, (True) → true = true ∧ true = true ∧ (CallT Try.prog 11 #[.pointer (some ⟨x1, 0, none⟩)] [(jS Try.jk x1 (List.take (Int.toNat (0 : Int)) x15.2))] Int (fun zx => .int .i64 zx) (fun _ => [(jS Try.jk x1 (List.take (Int.toNat (0 : Int)) x15.2))]) (fun zx => zx = ((((List.take (Int.toNat (0 : Int)) x15.2) : List Ent).length : Nat) : Int))) ∧ (∃ zx : Int, (fun zx => zx = ((((List.take (Int.toNat (0 : Int)) x15.2) : List Ent).length : Nat) : Int)) zx) ∧ ∀ x25 : Int, (x25 = ((((List.take (Int.toNat (0 : Int)) x15.2) : List Ent).length : Nat) : Int)) → true = true ∧ (∃ _ : Unit, True ∧ Value.bool (x25 == (0 : Int)) = .bool true) ∧ ∀ _ : Unit, (True) → ∃ _ : Unit, (True) ∧ Value.bool true = .bool true ∧ (old w) = (old w) ∧ True)))) := by kernel_rfl
set_option maxRecDepth 100000 in
set_option maxHeartbeats 8000000 in
theorem law12_StageBack (w : World) (l : Value) (g : Value) (r : Value) (ls : List A4) (gs : List A4) (rs : List A4) (h_l : SlX w 4 (X := Int × Int × Int × Int) Try.el51 Try.el51_ok l ls) (h_g : SlX w 4 (X := Int × Int × Int × Int) Try.el51 Try.el51_ok g gs) (h_r : SlX w 4 (X := Int × Int × Int × Int) Try.el51 Try.el51_ok r rs) (ml : ls.length ≤ 9223372036854775807) (mg : gs.length ≤ 9223372036854775807) (mr : rs.length ≤ 9223372036854775807) : CallT Try.prog 3 #[l, g, r] [(old w)] Unit (fun _ => .bool true) (fun _ => [(old w)]) (fun _ => True) := by
  refine call_of (c := bodyOf Try.f3) (n := 103) (fn := Try.f3) Try.mixed Try.func3 (by kernel_rfl) (by kernel_rfl) (by kernel_rfl) 2000 _ [] [0] rfl rfl (Eq.mpr (law12_StageBack_vc w l g r ls gs rs) ?_)
  have vl := h_l.vlen; have vg := h_g.vlen; have vr := h_r.vlen
  refine ⟨fun h1 => ?_, fun h1 => ?_⟩
  · refine ⟨law12_lives, ⟨(), trivial⟩, ?_⟩
    intro _
    intro _
    refine ⟨rfl, rfl, xolen Try.elt22 h_l.sl 3, rfl, ⟨(), trivial, congrArg Value.bool h1⟩, ?_⟩
    intro _
    intro _
    refine ⟨rfl, rfl, rfl, rfl, rfl, rfl, ?_⟩
    refine ⟨rfl, ?_⟩
    refine ⟨law12_lives, ⟨(), trivial⟩, ?_⟩
    intro _
    intro _
    exact ⟨(), trivial, rfl, rfl, trivial⟩
  · refine ⟨fun h2 => ?_, fun h2 => ?_⟩
    · refine ⟨law12_lives, ⟨(), trivial⟩, ?_⟩
      intro _
      intro _
      refine ⟨rfl, rfl, xolen Try.elt22 h_l.sl 3, rfl, ⟨(), trivial, congrArg Value.bool h1⟩, ?_⟩
      intro _
      intro _
      refine ⟨rfl, rfl, xolen Try.elt22 h_g.sl 3, rfl, ⟨(), trivial, congrArg Value.bool h2⟩, ?_⟩
      intro _
      intro _
      refine ⟨rfl, rfl, rfl, ?_⟩
      refine ⟨rfl, ?_⟩
      refine ⟨law12_lives, ⟨(), trivial⟩, ?_⟩
      intro _
      intro _
      exact ⟨(), trivial, rfl, rfl, trivial⟩
    · refine ⟨law12_lives, ⟨(), trivial⟩, ?_⟩
      intro _
      intro _
      refine ⟨rfl, rfl, xolen Try.elt22 h_l.sl 3, rfl, ⟨(), trivial, congrArg Value.bool h1⟩, ?_⟩
      intro _
      intro _
      refine ⟨rfl, rfl, xolen Try.elt22 h_g.sl 3, rfl, ⟨(), trivial, congrArg Value.bool h2⟩, ?_⟩
      intro _
      intro _
      refine ⟨rfl, rfl, xolen Try.elt22 h_r.sl 3, rfl, ?_⟩
      refine ⟨fun h3 => ?_, fun h3 => ?_⟩
      · refine ⟨law12_lives, ⟨(), trivial⟩, ?_⟩
        intro _
        intro _
        exact ⟨(), trivial, rfl, rfl, trivial⟩
      · have a30 : ls.length ≤ 30 := by (try simp (disch := first | assumption | exact R4_zero | exact R4_one) only [num_vI, decide_eq_true_eq, decide_eq_false_iff_not, gt_iff_lt, ge_iff_le, beq_iff_eq, beq_eq_false_iff_ne, bne_iff_ne, bne_eq_false_iff_eq, ne_eq] at *); omega
        have g30 : gs.length ≤ 30 := by (try simp (disch := first | assumption | exact R4_zero | exact R4_one) only [num_vI, decide_eq_true_eq, decide_eq_false_iff_not, gt_iff_lt, ge_iff_le, beq_iff_eq, beq_eq_false_iff_ne, bne_iff_ne, bne_eq_false_iff_eq, ne_eq] at *); omega
        have r30 : rs.length ≤ 30 := by (try simp (disch := first | assumption | exact R4_zero | exact R4_one) only [num_vI, decide_eq_true_eq, decide_eq_false_iff_not, gt_iff_lt, ge_iff_le, beq_iff_eq, beq_eq_false_iff_ne, bne_iff_ne, bne_eq_false_iff_eq, ne_eq] at *); omega
        refine ⟨xnewj (K := Try.jk) (Eq.mpr (by kernel_rfl : symW Try.prog (do pure (Next.value (← Instr.box 27 (.agg #[.slice none 0 0])))) [.nw 0] (ofList []) (fun nx H _ => ∃ b, nx = Next.value (ptr b) ∧ H = upd (ofList []) 0 (.blk b (.cells #[.slice none 0 0] (JK.tj Try.jk) (0, 0)))) = (∀ b, ∃ b', Next.value (ptr b) = .value (ptr b') ∧ upd (ofList []) 0 (.blk b (.cells #[.slice none 0 0] 27 (0, 0))) = upd (ofList []) 0 (.blk b' (.cells #[.slice none 0 0] (JK.tj Try.jk) (0, 0))))) fun b => ⟨b, rfl, rfl⟩), ⟨0, trivial⟩, ?_⟩
        intro x1
        intro h4
        refine ⟨xnewj (K := Try.jk) (Eq.mpr (by kernel_rfl : symW Try.prog (do pure (Next.value (← Instr.box 27 (.agg #[.slice none 0 0])))) [.nw 0] (ofList []) (fun nx H _ => ∃ b, nx = Next.value (ptr b) ∧ H = upd (ofList []) 0 (.blk b (.cells #[.slice none 0 0] (JK.tj Try.jk) (0, 0)))) = (∀ b, ∃ b', Next.value (ptr b) = .value (ptr b') ∧ upd (ofList []) 0 (.blk b (.cells #[.slice none 0 0] 27 (0, 0))) = upd (ofList []) 0 (.blk b' (.cells #[.slice none 0 0] (JK.tj Try.jk) (0, 0))))) fun b => ⟨b, rfl, rfl⟩), ⟨0, trivial⟩, ?_⟩
        intro x2
        intro h5
        refine ⟨stage_New70 x1, ⟨0, trivial⟩, ?_⟩
        intro x3
        intro h6
        have S1 : SB Try.mk70 (Try.ent70 x3) [] [] [] := SB.start
        refine ⟨stage_New70 x2, ⟨0, trivial⟩, ?_⟩
        intro x4
        intro h7
        have S2 : SB Try.mk70 (Try.ent70 x4) [] [] [] := SB.start
        refine ⟨law12_deeds w l ls x3 x1 ([]) ([]) (h_l) (by omega) (by simp), ⟨_, rfl⟩, ?_⟩
        intro x5
        intro h8
        have da1 := h8
        rw [rdSl_eq Try.elk51 h_l] at da1
        have na1 := doD_len (ent := Try.ent70 x3) ls ([], []) S1.ok.once
        obtain ⟨hsa1, Sa1, ea1⟩ := S1.doD Try.intK70 (l := ls) (fun a ha => (h_l.ok a ha).2.2.1)
        rw [← da1] at Sa1 ea1 na1
        have ja1 := Sa1.jr.1
        try simp only [List.length_nil, Nat.zero_add] at na1
        refine ⟨law12_deeds w l ls x4 x2 ([]) ([]) (h_l) (by omega) (by simp), ⟨_, rfl⟩, ?_⟩
        intro x6
        intro h9
        have da2 := h9
        rw [rdSl_eq Try.elk51 h_l] at da2
        have na2 := doD_len (ent := Try.ent70 x4) ls ([], []) S2.ok.once
        obtain ⟨hsa2, Sa2, ea2⟩ := S2.doD Try.intK70 (l := ls) (fun a ha => (h_l.ok a ha).2.2.1)
        rw [← da2] at Sa2 ea2 na2
        have ja2 := Sa2.jr.1
        try simp only [List.length_nil, Nat.zero_add] at na2
        refine ⟨stage_Mark x1 x5.2, ⟨_, rfl⟩, ?_⟩
        intro x7
        intro h10
        have mk := h10
        refine ⟨law12_deeds w g gs x3 x1 x5.1 x5.2 (h_g) (by omega) (by omega), ⟨_, rfl⟩, ?_⟩
        intro x8
        intro h11
        have dg1 := h11
        rw [rdSl_eq Try.elk51 h_g] at dg1
        have ng1 := doD_len (ent := Try.ent70 x3) gs (x5.1, x5.2) Sa1.ok.once
        obtain ⟨hsg1, Sg1, eg1⟩ := Sa1.doD Try.intK70 (l := gs) (fun a ha => (h_g.ok a ha).2.2.1)
        rw [← dg1] at Sg1 eg1 ng1
        have jg1 := Sg1.jr.1
        try simp only [List.length_nil, Nat.zero_add] at ng1
        refine ⟨stage_Back_70 x1 x8.2 x7 x3 x8.1 (by omega) (by rw [List.length_append] at jg1; have := ja1; simp at this; omega) (by omega) (Try.eoks70 Sg1.jr _), (undo_shape1 (undoAll_ks _ _)).elim fun y0 h => ⟨y0, h⟩, ?_⟩
        intro x9
        intro h12
        have u5 := undoAll_one _ _ _ _ _ h12
        have hmk : Int.toNat x7 = List.length x5.2 := by omega
        obtain ⟨S5, q5⟩ := Sg1.back (Try.entOK70 x3) (n := Int.toNat x7) (h0 := x5.1) (by rw [List.length_append] at jg1; have := ja1; simp at this; omega) (by rw [hmk, ← (show List.length hsa1 = List.length x5.2 by simpa using ja1)]; simpa using eg1)
        rw [← u5] at S5 q5
        have r12 := doD_rel (ent := Try.ent70 x3) (ent' := Try.ent70 x4) ls (s := ([], [])) (t := ([], [])) MOK.nil MOK.nil (EqM.refl _)
        rw [← da1, ← da2] at r12
        have r5 := q5.trans r12.1
        have l5 := q5.len S5.ok.once Sa1.ok.once
        have t5 : List.length (List.take (Int.toNat x7) x8.2) = List.length x5.2 := by rw [List.length_take, hmk]; rw [List.length_append] at jg1; have := ja1; simp at this; omega
        refine ⟨rfl, rfl, stage_Mark x1 (List.take (Int.toNat x7) x8.2), ⟨_, rfl⟩, ?_⟩
        intro x10
        intro h13
        have mk2 := h13
        refine ⟨rfl, rfl, ⟨(), trivial, congrArg Value.bool (by rw [mk2, t5, mk]; exact bne_self_eq_false _)⟩, ?_⟩
        intro _
        intro _
        refine ⟨rfl, rfl, keys_All70 x3 x1 x9 (SO1.int Try.intK70 S5.ok) (by omega), keysOf_wit4 (SO1.int Try.intK70 S5.ok).1 (SO1.int Try.intK70 S5.ok).2, ?_⟩
        intro x11
        intro h14
        have hk1 := h14
        refine ⟨rfl, law_pairs14_100 x11.1 x11.2.1 x11.2.2.1 x11.2.2.2 x9 (trivial) (S5.ok) (by omega) (hk1), wit_pairs _ _ _, ?_⟩
        intro x12
        intro h15
        simp only [rrow_vals] at h15
        have hp1 := h15
        refine ⟨rfl, rfl, keys_All70 x4 x2 x6.1 (SO1.int Try.intK70 Sa2.ok) (by omega), keysOf_wit4 (SO1.int Try.intK70 Sa2.ok).1 (SO1.int Try.intK70 Sa2.ok).2, ?_⟩
        intro x13
        intro h16
        have hk2 := h16
        refine ⟨rfl, law_pairs14_100 x13.1 x13.2.1 x13.2.2.1 x13.2.2.2 x6.1 (trivial) (Sa2.ok) (by omega) (hk2), wit_pairs _ _ _, ?_⟩
        intro x14
        intro h17
        simp only [rrow_vals] at h17
        have hp2 := h17
        refine ⟨rfl, law12_same x12 x14 (fun i hi => pairs_shape Try.intK70 S5.ok hk1 hp1 hi) (by rw [hp1, hp2, keys_eq S5.ok.once Sa2.ok.once r5 hk1 hk2, pairs_eq r5]) (by rw [hp1, pairs_len, hk1.len]; omega), ⟨(), trivial⟩, ?_⟩
        intro _
        intro _
        refine ⟨rfl, ?_⟩
        refine ⟨rfl, ?_⟩
        refine ⟨law12_deeds w r rs x3 x1 x9 (List.take (Int.toNat x7) x8.2) (h_r) (by omega) (by omega), ⟨_, rfl⟩, ?_⟩
        intro x15
        intro h18
        have dr1 := h18
        rw [rdSl_eq Try.elk51 h_r] at dr1
        have nr1 := doD_len (ent := Try.ent70 x3) rs (x9, List.take (Int.toNat x7) x8.2) S5.ok.once
        obtain ⟨hsr1, Sr1, er1⟩ := S5.doD Try.intK70 (l := rs) (fun a ha => (h_r.ok a ha).2.2.1)
        rw [← dr1] at Sr1 er1 nr1
        have jr1 := Sr1.jr.1
        try simp only [List.length_nil, Nat.zero_add] at nr1
        refine ⟨law12_deeds w r rs x4 x2 x6.1 x6.2 (h_r) (by omega) (by omega), ⟨_, rfl⟩, ?_⟩
        intro x16
        intro h19
        have dr2 := h19
        rw [rdSl_eq Try.elk51 h_r] at dr2
        have nr2 := doD_len (ent := Try.ent70 x4) rs (x6.1, x6.2) Sa2.ok.once
        obtain ⟨hsr2, Sr2, er2⟩ := Sa2.doD Try.intK70 (l := rs) (fun a ha => (h_r.ok a ha).2.2.1)
        rw [← dr2] at Sr2 er2 nr2
        have jr2 := Sr2.jr.1
        try simp only [List.length_nil, Nat.zero_add] at nr2
        have rr := doD_rel (ent := Try.ent70 x3) (ent' := Try.ent70 x4) rs (s := (x9, List.take (Int.toNat x7) x8.2)) (t := (x6.1, x6.2)) S5.ok.once Sa2.ok.once r5
        rw [← dr1, ← dr2] at rr
        have rl : List.length x15.2 = List.length x16.2 := by have q1 := rr.2; have q2 := r12.2; simp only [t5, List.length_nil] at q1 q2; omega
        refine ⟨stage_Mark x1 x15.2, ⟨_, rfl⟩, ?_⟩
        intro x17
        intro h20
        have mk3 := h20
        refine ⟨stage_Mark x2 x16.2, ⟨_, rfl⟩, ?_⟩
        intro x18
        intro h21
        have mk4 := h21
        refine ⟨⟨(), trivial, congrArg Value.bool (by rw [mk3, mk4, rl]; exact bne_self_eq_false _)⟩, ?_⟩
        intro _
        intro _
        refine ⟨rfl, rfl, keys_All70 x3 x1 x15.1 (SO1.int Try.intK70 Sr1.ok) (by omega), keysOf_wit4 (SO1.int Try.intK70 Sr1.ok).1 (SO1.int Try.intK70 Sr1.ok).2, ?_⟩
        intro x19
        intro h22
        have hk3 := h22
        refine ⟨rfl, law_pairs14_100 x19.1 x19.2.1 x19.2.2.1 x19.2.2.2 x15.1 (trivial) (Sr1.ok) (by omega) (hk3), wit_pairs _ _ _, ?_⟩
        intro x20
        intro h23
        simp only [rrow_vals] at h23
        have hp3 := h23
        refine ⟨rfl, rfl, keys_All70 x4 x2 x16.1 (SO1.int Try.intK70 Sr2.ok) (by omega), keysOf_wit4 (SO1.int Try.intK70 Sr2.ok).1 (SO1.int Try.intK70 Sr2.ok).2, ?_⟩
        intro x21
        intro h24
        have hk4 := h24
        refine ⟨rfl, law_pairs14_100 x21.1 x21.2.1 x21.2.2.1 x21.2.2.2 x16.1 (trivial) (Sr2.ok) (by omega) (hk4), wit_pairs _ _ _, ?_⟩
        intro x22
        intro h25
        simp only [rrow_vals] at h25
        have hp4 := h25
        refine ⟨rfl, law12_same x20 x22 (fun i hi => pairs_shape Try.intK70 Sr1.ok hk3 hp3 hi) (by rw [hp3, hp4, keys_eq Sr1.ok.once Sr2.ok.once rr.1 hk3 hk4, pairs_eq rr.1]) (by rw [hp3, pairs_len, hk3.len]; omega), ⟨(), trivial⟩, ?_⟩
        intro _
        intro _
        refine ⟨rfl, rfl, rfl, stage_Back_70 x1 x15.2 (0 : Int) x3 x15.1 (by omega) (by omega) (by omega) (Try.eoks70 Sr1.jr _), (undo_shape1 (undoAll_ks _ _)).elim fun y0 h => ⟨y0, h⟩, ?_⟩
        intro x23
        intro h26
        have u9 := undoAll_one _ _ _ _ _ h26
        obtain ⟨z, z1, z2⟩ := Sr1.zero
        obtain ⟨S9, q9⟩ := Sr1.back (Try.entOK70 x3) (n := Int.toNat 0) (Nat.zero_le _) z1
        rw [← u9] at S9 q9
        have l9 := (q9.trans z2).len S9.ok.once MOK.nil
        refine ⟨rfl, ?_⟩
        refine ⟨rfl, ?_⟩
        refine ⟨stage_Len70 x3 x1 x23, ⟨_, rfl⟩, ?_⟩
        intro x24
        intro h27
        have ml := h27
        refine ⟨⟨(), trivial, congrArg Value.bool (by rw [ml, l9]; rfl)⟩, ?_⟩
        intro _
        intro _
        refine ⟨rfl, rfl, stage_Mark x1 (List.take (Int.toNat (0 : Int)) x15.2), ⟨_, rfl⟩, ?_⟩
        intro x25
        intro h28
        have mk5 := h28
        refine ⟨rfl, ⟨(), trivial, congrArg Value.bool (by rw [mk5]; rfl)⟩, ?_⟩
        intro _
        intro _
        exact ⟨(), trivial, rfl, rfl, trivial⟩

theorem Try.list4 {α : Type} {l : List α} (h : l.length = 4) : ∃ a0 a1 a2 a3, l = [a0, a1, a2, a3] := by
  match l, h with
  | [a0, a1, a2, a3], _ => exact ⟨a0, a1, a2, a3, rfl⟩
theorem Try.opens51 : Opens Try.prog 51 4 (X := Int × Int × Int × Int) Try.el51 Try.el51_ok := by
  intro H enc W base sp held fuel cs y hl h
  obtain ⟨c0, c1, c2, c3, rfl⟩ := Try.list4 hl
  obtain ⟨xs, n, hn, hx, hsz, hlen, hf⟩ := DataW.trod_struct (fs := Try.prog.fieldsOf 51) (by kernel_rfl) h
  have t0 : ∃ y, DataW.trod enc Try.prog W base sp held n 5 [c0] = some y := trod_field hlen hf 0 (f := (Try.prog.fieldsOf 51).getD 0 default) (off := 0) (k := 1) (by kernel_rfl) (by kernel_rfl) (by kernel_rfl) (by kernel_rfl)
  obtain ⟨y0, t0⟩ := t0
  obtain ⟨v0, q0, k0⟩ := opens_int (P := Try.prog) (t := 5) (k := .u8) (by kernel_rfl) H enc W base sp held n _ _ rfl t0
  have t1 : ∃ y, DataW.trod enc Try.prog W base sp held n 3 [c1] = some y := trod_field hlen hf 1 (f := (Try.prog.fieldsOf 51).getD 1 default) (off := 1) (k := 1) (by kernel_rfl) (by kernel_rfl) (by kernel_rfl) (by kernel_rfl)
  obtain ⟨y1, t1⟩ := t1
  obtain ⟨v1, q1, k1⟩ := opens_int (P := Try.prog) (t := 3) (k := .i64) (by kernel_rfl) H enc W base sp held n _ _ rfl t1
  have t2 : ∃ y, DataW.trod enc Try.prog W base sp held n 3 [c2] = some y := trod_field hlen hf 2 (f := (Try.prog.fieldsOf 51).getD 2 default) (off := 2) (k := 1) (by kernel_rfl) (by kernel_rfl) (by kernel_rfl) (by kernel_rfl)
  obtain ⟨y2, t2⟩ := t2
  obtain ⟨v2, q2, k2⟩ := opens_int (P := Try.prog) (t := 3) (k := .i64) (by kernel_rfl) H enc W base sp held n _ _ rfl t2
  have t3 : ∃ y, DataW.trod enc Try.prog W base sp held n 3 [c3] = some y := trod_field hlen hf 3 (f := (Try.prog.fieldsOf 51).getD 3 default) (off := 3) (k := 1) (by kernel_rfl) (by kernel_rfl) (by kernel_rfl) (by kernel_rfl)
  obtain ⟨y3, t3⟩ := t3
  obtain ⟨v3, q3, k3⟩ := opens_int (P := Try.prog) (t := 3) (k := .i64) (by kernel_rfl) H enc W base sp held n _ _ rfl t3
  refine ⟨(v0, v1, v2, v3), ?_, ⟨k0, k1, k2, k3⟩⟩
  show [c0] ++ [c1] ++ [c2] ++ [c3] = _
  rw [q0, q1, q2, q3]
  rfl
end Go.Proofs
