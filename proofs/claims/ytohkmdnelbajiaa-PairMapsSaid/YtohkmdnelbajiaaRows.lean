/-
  No cell of these rows narrows 'for every input' (looked for: loops, veiled, ifaces, maps, wideKeys, modest, calm, conditions, laid).
  DERIVED. THE GIVEN ROWS OF THIS SEAT. 10 by the template 'for every input the law returns true; each argument reads behind the call as it read before'; 0 by the template 'total and deterministic' (their statements: YtohkmdnelbajiaaTotals.lean).
  GIVEN WITH THE SEED: the statements are not yours to turn. If you find one false, say at which input.
  Laid BY PROGRAM, IN A SANDBOX (cutbox-rows.mjs): the forced cells as the released guide's own fill.sh prints them over the translation 6693bfee7ff93ada… (all of the seat's roots in one cut). By AI agents, Wed Nov 11 2026. No macro, syntax, notation, axiom, sorry.
-/
import Derived.Test.YtohkmdnelbajiaaChecked
import GoSem.Claim
import GoSem.ClaimJoined
import GoSem.ClaimMapViews
import Derived.JoinedTies
import Derived.KernelRfl
namespace Go.Proofs.Ytohkmdnelbajiaa
/- THE CELL 'sum', in the pinned program and in every row, IS THE sha256 OF THE DUMP (.gsa) THAT YtohkmdnelbajiaaProg.lean LOADS. Nothing in Lean hashes anything: it is a label: what it is worth is what the hold of that sum in a sandbox is worth. -/
noncomputable def Try.pinned : Pinned := { name := "ytohkmdnelbajiaa", sum := "6693bfee7ff93adad9aad69ac75fe2925305761fc175e98f33d8f33c4bf3247b", checked := Try.checked }
namespace Rows
def none {H : Type} : Left H := { results := [], args := [] }

/-- 'sponsionlaw14.PairNonces': WHATEVER THE INPUT: true; the input reads as it did. -/
def pairNoncesSpec : ChangeSpec := { name := "pairNonces", fn := fun _ => fun
  | [d1, d2] => { results := [.lit (.bool true)], args := [d1, d2] }
  | _ => none }
def pairNoncesRow : OpenClaim := { program := "ytohkmdnelbajiaa", sum := "6693bfee7ff93adad9aad69ac75fe2925305761fc175e98f33d8f33c4bf3247b", func := "sponsion/sponsionlaw14.PairNonces", spec := "pairNonces", unfollowed := true, recurses := true, plainKeys := false, apart := false }
def PairNoncesSaid : Prop := pairNoncesRow.holds Try.pinned (OpenSpec.ofChange pairNoncesSpec)

/-- ITS FALSE NEIGHBOUR: 'it returns false'. Refute it at one input. -/
def pairNoncesWrong : ChangeSpec := { name := "pairNonces", fn := fun _ => fun
  | [d1, d2] => { results := [.lit (.bool false)], args := [d1, d2] }
  | _ => none }
def PairNoncesWrongFalsely : Prop := pairNoncesRow.holds Try.pinned (OpenSpec.ofChange pairNoncesWrong)

/-- 'sponsionlaw13.BookConserves': WHATEVER THE INPUT: true; the input reads as it did. -/
def bookConservesSpec : ChangeSpec := { name := "bookConserves", fn := fun _ => fun
  | [d] => { results := [.lit (.bool true)], args := [d] }
  | _ => none }
def bookConservesRow : OpenClaim := { program := "ytohkmdnelbajiaa", sum := "6693bfee7ff93adad9aad69ac75fe2925305761fc175e98f33d8f33c4bf3247b", func := "sponsion/sponsionlaw13.BookConserves", spec := "bookConserves", unfollowed := true, recurses := true, plainKeys := false, apart := false }
def BookConservesSaid : Prop := bookConservesRow.holds Try.pinned (OpenSpec.ofChange bookConservesSpec)

/-- ITS FALSE NEIGHBOUR: 'it returns false'. Refute it at one input. -/
def bookConservesWrong : ChangeSpec := { name := "bookConserves", fn := fun _ => fun
  | [d] => { results := [.lit (.bool false)], args := [d] }
  | _ => none }
def BookConservesWrongFalsely : Prop := bookConservesRow.holds Try.pinned (OpenSpec.ofChange bookConservesWrong)

/-- 'sponsionlaw03.WideProducts': WHATEVER THE INPUT: true; the input reads as it did. -/
def wideProductsSpec : ChangeSpec := { name := "wideProducts", fn := fun _ => fun
  | [d1, d2] => { results := [.lit (.bool true)], args := [d1, d2] }
  | _ => none }
def wideProductsRow : OpenClaim := { program := "ytohkmdnelbajiaa", sum := "6693bfee7ff93adad9aad69ac75fe2925305761fc175e98f33d8f33c4bf3247b", func := "sponsion/sponsionlaw03.WideProducts", spec := "wideProducts", unfollowed := true, recurses := true, plainKeys := false, apart := false }
def WideProductsSaid : Prop := wideProductsRow.holds Try.pinned (OpenSpec.ofChange wideProductsSpec)

/-- ITS FALSE NEIGHBOUR: 'it returns false'. Refute it at one input. -/
def wideProductsWrong : ChangeSpec := { name := "wideProducts", fn := fun _ => fun
  | [d1, d2] => { results := [.lit (.bool false)], args := [d1, d2] }
  | _ => none }
def WideProductsWrongFalsely : Prop := wideProductsRow.holds Try.pinned (OpenSpec.ofChange wideProductsWrong)

/-- 'sponsionlaw03.WideDivides': WHATEVER THE INPUT: true; the input reads as it did. -/
def wideDividesSpec : ChangeSpec := { name := "wideDivides", fn := fun _ => fun
  | [d1, d2] => { results := [.lit (.bool true)], args := [d1, d2] }
  | _ => none }
def wideDividesRow : OpenClaim := { program := "ytohkmdnelbajiaa", sum := "6693bfee7ff93adad9aad69ac75fe2925305761fc175e98f33d8f33c4bf3247b", func := "sponsion/sponsionlaw03.WideDivides", spec := "wideDivides", unfollowed := true, recurses := true, plainKeys := false, apart := false }
def WideDividesSaid : Prop := wideDividesRow.holds Try.pinned (OpenSpec.ofChange wideDividesSpec)

/-- ITS FALSE NEIGHBOUR: 'it returns false'. Refute it at one input. -/
def wideDividesWrong : ChangeSpec := { name := "wideDivides", fn := fun _ => fun
  | [d1, d2] => { results := [.lit (.bool false)], args := [d1, d2] }
  | _ => none }
def WideDividesWrongFalsely : Prop := wideDividesRow.holds Try.pinned (OpenSpec.ofChange wideDividesWrong)

/-- 'sponsionlaw03.WideMulDivs': WHATEVER THE INPUT: true; the input reads as it did. -/
def wideMulDivsSpec : ChangeSpec := { name := "wideMulDivs", fn := fun _ => fun
  | [d1, d2, d3] => { results := [.lit (.bool true)], args := [d1, d2, d3] }
  | _ => none }
def wideMulDivsRow : OpenClaim := { program := "ytohkmdnelbajiaa", sum := "6693bfee7ff93adad9aad69ac75fe2925305761fc175e98f33d8f33c4bf3247b", func := "sponsion/sponsionlaw03.WideMulDivs", spec := "wideMulDivs", unfollowed := true, recurses := true, plainKeys := false, apart := false }
def WideMulDivsSaid : Prop := wideMulDivsRow.holds Try.pinned (OpenSpec.ofChange wideMulDivsSpec)

/-- ITS FALSE NEIGHBOUR: 'it returns false'. Refute it at one input. -/
def wideMulDivsWrong : ChangeSpec := { name := "wideMulDivs", fn := fun _ => fun
  | [d1, d2, d3] => { results := [.lit (.bool false)], args := [d1, d2, d3] }
  | _ => none }
def WideMulDivsWrongFalsely : Prop := wideMulDivsRow.holds Try.pinned (OpenSpec.ofChange wideMulDivsWrong)

/-- 'sponsionlaw14.PairMaps': WHATEVER THE INPUT: true; the input reads as it did. -/
def pairMapsSpec : ChangeSpec := { name := "pairMaps", fn := fun _ => fun
  | [d1, d2] => { results := [.lit (.bool true)], args := [d1, d2] }
  | _ => none }
def pairMapsRow : OpenClaim := { program := "ytohkmdnelbajiaa", sum := "6693bfee7ff93adad9aad69ac75fe2925305761fc175e98f33d8f33c4bf3247b", func := "sponsion/sponsionlaw14.PairMaps", spec := "pairMaps", unfollowed := true, recurses := true, plainKeys := false, apart := false }
def PairMapsSaid : Prop := pairMapsRow.holds Try.pinned (OpenSpec.ofChange pairMapsSpec)

/-- ITS FALSE NEIGHBOUR: 'it returns false'. Refute it at one input. -/
def pairMapsWrong : ChangeSpec := { name := "pairMaps", fn := fun _ => fun
  | [d1, d2] => { results := [.lit (.bool false)], args := [d1, d2] }
  | _ => none }
def PairMapsWrongFalsely : Prop := pairMapsRow.holds Try.pinned (OpenSpec.ofChange pairMapsWrong)

/-- 'sponsionlaw03.WideBack': WHATEVER THE INPUT: true; the input reads as it did. -/
def wideBackSpec : ChangeSpec := { name := "wideBack", fn := fun _ => fun
  | [d1, d2] => { results := [.lit (.bool true)], args := [d1, d2] }
  | _ => none }
def wideBackRow : OpenClaim := { program := "ytohkmdnelbajiaa", sum := "6693bfee7ff93adad9aad69ac75fe2925305761fc175e98f33d8f33c4bf3247b", func := "sponsion/sponsionlaw03.WideBack", spec := "wideBack", unfollowed := true, recurses := true, plainKeys := false, apart := false }
def WideBackSaid : Prop := wideBackRow.holds Try.pinned (OpenSpec.ofChange wideBackSpec)

/-- ITS FALSE NEIGHBOUR: 'it returns false'. Refute it at one input. -/
def wideBackWrong : ChangeSpec := { name := "wideBack", fn := fun _ => fun
  | [d1, d2] => { results := [.lit (.bool false)], args := [d1, d2] }
  | _ => none }
def WideBackWrongFalsely : Prop := wideBackRow.holds Try.pinned (OpenSpec.ofChange wideBackWrong)

/-- 'sponsionlaw16.ShareIns': WHATEVER THE INPUT: true; the input reads as it did. -/
def shareInsSpec : ChangeSpec := { name := "shareIns", fn := fun _ => fun
  | [d1, d2, d3] => { results := [.lit (.bool true)], args := [d1, d2, d3] }
  | _ => none }
def shareInsRow : OpenClaim := { program := "ytohkmdnelbajiaa", sum := "6693bfee7ff93adad9aad69ac75fe2925305761fc175e98f33d8f33c4bf3247b", func := "sponsion/sponsionlaw16.ShareIns", spec := "shareIns", unfollowed := true, recurses := true, plainKeys := false, apart := false }
def ShareInsSaid : Prop := shareInsRow.holds Try.pinned (OpenSpec.ofChange shareInsSpec)

/-- ITS FALSE NEIGHBOUR: 'it returns false'. Refute it at one input. -/
def shareInsWrong : ChangeSpec := { name := "shareIns", fn := fun _ => fun
  | [d1, d2, d3] => { results := [.lit (.bool false)], args := [d1, d2, d3] }
  | _ => none }
def ShareInsWrongFalsely : Prop := shareInsRow.holds Try.pinned (OpenSpec.ofChange shareInsWrong)

/-- 'sponsionlaw16.ShareBack': WHATEVER THE INPUT: true; the input reads as it did. -/
def shareBackSpec : ChangeSpec := { name := "shareBack", fn := fun _ => fun
  | [d1, d2, d3] => { results := [.lit (.bool true)], args := [d1, d2, d3] }
  | _ => none }
def shareBackRow : OpenClaim := { program := "ytohkmdnelbajiaa", sum := "6693bfee7ff93adad9aad69ac75fe2925305761fc175e98f33d8f33c4bf3247b", func := "sponsion/sponsionlaw16.ShareBack", spec := "shareBack", unfollowed := true, recurses := true, plainKeys := false, apart := false }
def ShareBackSaid : Prop := shareBackRow.holds Try.pinned (OpenSpec.ofChange shareBackSpec)

/-- ITS FALSE NEIGHBOUR: 'it returns false'. Refute it at one input. -/
def shareBackWrong : ChangeSpec := { name := "shareBack", fn := fun _ => fun
  | [d1, d2, d3] => { results := [.lit (.bool false)], args := [d1, d2, d3] }
  | _ => none }
def ShareBackWrongFalsely : Prop := shareBackRow.holds Try.pinned (OpenSpec.ofChange shareBackWrong)

/-- 'sponsionlaw16.ShareKeeps': WHATEVER THE INPUT: true; the input reads as it did. -/
def shareKeepsSpec : ChangeSpec := { name := "shareKeeps", fn := fun _ => fun
  | [d1, d2] => { results := [.lit (.bool true)], args := [d1, d2] }
  | _ => none }
def shareKeepsRow : OpenClaim := { program := "ytohkmdnelbajiaa", sum := "6693bfee7ff93adad9aad69ac75fe2925305761fc175e98f33d8f33c4bf3247b", func := "sponsion/sponsionlaw16.ShareKeeps", spec := "shareKeeps", unfollowed := true, recurses := true, plainKeys := false, apart := false }
def ShareKeepsSaid : Prop := shareKeepsRow.holds Try.pinned (OpenSpec.ofChange shareKeepsSpec)

/-- ITS FALSE NEIGHBOUR: 'it returns false'. Refute it at one input. -/
def shareKeepsWrong : ChangeSpec := { name := "shareKeeps", fn := fun _ => fun
  | [d1, d2] => { results := [.lit (.bool false)], args := [d1, d2] }
  | _ => none }
def ShareKeepsWrongFalsely : Prop := shareKeepsRow.holds Try.pinned (OpenSpec.ofChange shareKeepsWrong)

/- THE SECOND FORM. 'bulk': how many values and letters a reading holds, each counted each time it is reached (what is shared counts as often as it is met; a slice's spare places count too). A statement '..UptoSaid' is the law's where the arguments, and the package variables that the reading takes, are together of bulk at most 1048576: NARROWER than '..Said'. Prove '..Said' where nothing that the law and all that it calls make is longer than what came in: it says more and counts as full. Else prove '..UptoSaid'. A law counts once. -/
mutual
def uptoBulk {H : Type} : DataW H → Nat
  | .lit (.string bytes) => bytes.length + 1
  | .lit _ => 1
  | .nil => 1
  | .ptr d => uptoBulk d + 1
  | .slice elems spare => uptoBulkAll elems + uptoBulkAll spare + 1
  | .agg parts => uptoBulkAll parts + 1
  | .iface _ d => uptoBulk d + 1
  | .map entries => uptoBulkEntries entries + 1
  | .held _ => 1
def uptoBulkAll {H : Type} : List (DataW H) → Nat
  | [] => 0
  | d :: r => uptoBulk d + uptoBulkAll r
def uptoBulkEntries {H : Type} : List (Lit × DataW H) → Nat
  | [] => 0
  | x :: r => uptoBulkEntry x + uptoBulkEntries r
def uptoBulkEntry {H : Type} : Lit × DataW H → Nat
  | (.string bytes, d) => bytes.length + uptoBulk d + 1
  | (_, d) => uptoBulk d + 1
 end
def uptoSmall : (H : Type) → List (DataW H) → Bool := fun _ ds => decide (uptoBulkAll ds ≤ 1048576)
def OpenSpec.upto (s : _root_.Go.ChangeSpec) : _root_.Go.OpenSpec := { _root_.Go.OpenSpec.ofChange s with cond := some uptoSmall }

/-- 'sponsionlaw14.PairNonces', WHERE WHAT IT READS IS OF BULK AT MOST 1048576: true; the input reads as it did. -/
def pairNoncesUptoRow : OpenClaim := { program := "ytohkmdnelbajiaa", sum := "6693bfee7ff93adad9aad69ac75fe2925305761fc175e98f33d8f33c4bf3247b", func := "sponsion/sponsionlaw14.PairNonces", spec := "pairNonces", unfollowed := true, recurses := true, plainKeys := false, apart := false, narrowed := true }
def PairNoncesUptoSaid : Prop := pairNoncesUptoRow.holds Try.pinned (OpenSpec.upto pairNoncesSpec)

/-- 'sponsionlaw13.BookConserves', WHERE WHAT IT READS IS OF BULK AT MOST 1048576: true; the input reads as it did. -/
def bookConservesUptoRow : OpenClaim := { program := "ytohkmdnelbajiaa", sum := "6693bfee7ff93adad9aad69ac75fe2925305761fc175e98f33d8f33c4bf3247b", func := "sponsion/sponsionlaw13.BookConserves", spec := "bookConserves", unfollowed := true, recurses := true, plainKeys := false, apart := false, narrowed := true }
def BookConservesUptoSaid : Prop := bookConservesUptoRow.holds Try.pinned (OpenSpec.upto bookConservesSpec)

/-- 'sponsionlaw03.WideProducts', WHERE WHAT IT READS IS OF BULK AT MOST 1048576: true; the input reads as it did. -/
def wideProductsUptoRow : OpenClaim := { program := "ytohkmdnelbajiaa", sum := "6693bfee7ff93adad9aad69ac75fe2925305761fc175e98f33d8f33c4bf3247b", func := "sponsion/sponsionlaw03.WideProducts", spec := "wideProducts", unfollowed := true, recurses := true, plainKeys := false, apart := false, narrowed := true }
def WideProductsUptoSaid : Prop := wideProductsUptoRow.holds Try.pinned (OpenSpec.upto wideProductsSpec)

/-- 'sponsionlaw03.WideDivides', WHERE WHAT IT READS IS OF BULK AT MOST 1048576: true; the input reads as it did. -/
def wideDividesUptoRow : OpenClaim := { program := "ytohkmdnelbajiaa", sum := "6693bfee7ff93adad9aad69ac75fe2925305761fc175e98f33d8f33c4bf3247b", func := "sponsion/sponsionlaw03.WideDivides", spec := "wideDivides", unfollowed := true, recurses := true, plainKeys := false, apart := false, narrowed := true }
def WideDividesUptoSaid : Prop := wideDividesUptoRow.holds Try.pinned (OpenSpec.upto wideDividesSpec)

/-- 'sponsionlaw03.WideMulDivs', WHERE WHAT IT READS IS OF BULK AT MOST 1048576: true; the input reads as it did. -/
def wideMulDivsUptoRow : OpenClaim := { program := "ytohkmdnelbajiaa", sum := "6693bfee7ff93adad9aad69ac75fe2925305761fc175e98f33d8f33c4bf3247b", func := "sponsion/sponsionlaw03.WideMulDivs", spec := "wideMulDivs", unfollowed := true, recurses := true, plainKeys := false, apart := false, narrowed := true }
def WideMulDivsUptoSaid : Prop := wideMulDivsUptoRow.holds Try.pinned (OpenSpec.upto wideMulDivsSpec)

/-- 'sponsionlaw14.PairMaps', WHERE WHAT IT READS IS OF BULK AT MOST 1048576: true; the input reads as it did. -/
def pairMapsUptoRow : OpenClaim := { program := "ytohkmdnelbajiaa", sum := "6693bfee7ff93adad9aad69ac75fe2925305761fc175e98f33d8f33c4bf3247b", func := "sponsion/sponsionlaw14.PairMaps", spec := "pairMaps", unfollowed := true, recurses := true, plainKeys := false, apart := false, narrowed := true }
def PairMapsUptoSaid : Prop := pairMapsUptoRow.holds Try.pinned (OpenSpec.upto pairMapsSpec)

/-- 'sponsionlaw03.WideBack', WHERE WHAT IT READS IS OF BULK AT MOST 1048576: true; the input reads as it did. -/
def wideBackUptoRow : OpenClaim := { program := "ytohkmdnelbajiaa", sum := "6693bfee7ff93adad9aad69ac75fe2925305761fc175e98f33d8f33c4bf3247b", func := "sponsion/sponsionlaw03.WideBack", spec := "wideBack", unfollowed := true, recurses := true, plainKeys := false, apart := false, narrowed := true }
def WideBackUptoSaid : Prop := wideBackUptoRow.holds Try.pinned (OpenSpec.upto wideBackSpec)

/-- 'sponsionlaw16.ShareIns', WHERE WHAT IT READS IS OF BULK AT MOST 1048576: true; the input reads as it did. -/
def shareInsUptoRow : OpenClaim := { program := "ytohkmdnelbajiaa", sum := "6693bfee7ff93adad9aad69ac75fe2925305761fc175e98f33d8f33c4bf3247b", func := "sponsion/sponsionlaw16.ShareIns", spec := "shareIns", unfollowed := true, recurses := true, plainKeys := false, apart := false, narrowed := true }
def ShareInsUptoSaid : Prop := shareInsUptoRow.holds Try.pinned (OpenSpec.upto shareInsSpec)

/-- 'sponsionlaw16.ShareBack', WHERE WHAT IT READS IS OF BULK AT MOST 1048576: true; the input reads as it did. -/
def shareBackUptoRow : OpenClaim := { program := "ytohkmdnelbajiaa", sum := "6693bfee7ff93adad9aad69ac75fe2925305761fc175e98f33d8f33c4bf3247b", func := "sponsion/sponsionlaw16.ShareBack", spec := "shareBack", unfollowed := true, recurses := true, plainKeys := false, apart := false, narrowed := true }
def ShareBackUptoSaid : Prop := shareBackUptoRow.holds Try.pinned (OpenSpec.upto shareBackSpec)

/-- 'sponsionlaw16.ShareKeeps', WHERE WHAT IT READS IS OF BULK AT MOST 1048576: true; the input reads as it did. -/
def shareKeepsUptoRow : OpenClaim := { program := "ytohkmdnelbajiaa", sum := "6693bfee7ff93adad9aad69ac75fe2925305761fc175e98f33d8f33c4bf3247b", func := "sponsion/sponsionlaw16.ShareKeeps", spec := "shareKeeps", unfollowed := true, recurses := true, plainKeys := false, apart := false, narrowed := true }
def ShareKeepsUptoSaid : Prop := shareKeepsUptoRow.holds Try.pinned (OpenSpec.upto shareKeepsSpec)

end Rows
end Go.Proofs.Ytohkmdnelbajiaa
