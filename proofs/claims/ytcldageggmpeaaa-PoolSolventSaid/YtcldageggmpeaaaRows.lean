/-
  No cell of these rows narrows 'for every input' (looked for: loops, veiled, ifaces, maps, wideKeys, modest, calm, conditions, laid).
  DERIVED. THE GIVEN ROWS OF THIS SEAT. 7 by the template 'for every input the law returns true; each argument reads behind the call as it read before'; 0 by the template 'total and deterministic' (their statements: YtcldageggmpeaaaTotals.lean).
  GIVEN WITH THE SEED: the statements are not yours to turn. If you find one false, say at which input.
  Laid BY PROGRAM, IN A SANDBOX (cutbox-rows.mjs): the forced cells as the released guide's own fill.sh prints them over the translation b844657c3beda653… (all of the seat's roots in one cut). By AI agents, Wed Nov 11 2026. No macro, syntax, notation, axiom, sorry.
-/
import Derived.Test.YtcldageggmpeaaaChecked
import GoSem.Claim
import GoSem.ClaimJoined
import GoSem.ClaimMapViews
import Derived.JoinedTies
import Derived.KernelRfl
namespace Go.Proofs.Ytcldageggmpeaaa
/- THE CELL 'sum', in the pinned program and in every row, IS THE sha256 OF THE DUMP (.gsa) THAT YtcldageggmpeaaaProg.lean LOADS. Nothing in Lean hashes anything: it is a label: what it is worth is what the hold of that sum in a sandbox is worth. -/
noncomputable def Try.pinned : Pinned := { name := "ytcldageggmpeaaa", sum := "b844657c3beda653f5eb21094bfcdcf47320c6798fc341cf5d06a3c76f7b416c", checked := Try.checked }
namespace Rows
def none {H : Type} : Left H := { results := [], args := [] }

/-- 'sponsionlaw17.PoolGains': WHATEVER THE INPUT: true; the input reads as it did. -/
def poolGainsSpec : ChangeSpec := { name := "poolGains", fn := fun _ => fun
  | [d1, d2, d3, d4] => { results := [.lit (.bool true)], args := [d1, d2, d3, d4] }
  | _ => none }
def poolGainsRow : OpenClaim := { program := "ytcldageggmpeaaa", sum := "b844657c3beda653f5eb21094bfcdcf47320c6798fc341cf5d06a3c76f7b416c", func := "sponsion/sponsionlaw17.PoolGains", spec := "poolGains", unfollowed := true, recurses := true, plainKeys := false, apart := false }
def PoolGainsSaid : Prop := poolGainsRow.holds Try.pinned (OpenSpec.ofChange poolGainsSpec)

/-- ITS FALSE NEIGHBOUR: 'it returns false'. Refute it at one input. -/
def poolGainsWrong : ChangeSpec := { name := "poolGains", fn := fun _ => fun
  | [d1, d2, d3, d4] => { results := [.lit (.bool false)], args := [d1, d2, d3, d4] }
  | _ => none }
def PoolGainsWrongFalsely : Prop := poolGainsRow.holds Try.pinned (OpenSpec.ofChange poolGainsWrong)

/-- 'sponsionlaw12.StagePlays': WHATEVER THE INPUT: true; the input reads as it did. -/
def stagePlaysSpec : ChangeSpec := { name := "stagePlays", fn := fun _ => fun
  | [d1, d2, d3] => { results := [.lit (.bool true)], args := [d1, d2, d3] }
  | _ => none }
def stagePlaysRow : OpenClaim := { program := "ytcldageggmpeaaa", sum := "b844657c3beda653f5eb21094bfcdcf47320c6798fc341cf5d06a3c76f7b416c", func := "sponsion/sponsionlaw12.StagePlays", spec := "stagePlays", inPlace := ["maps.clone"], unfollowed := true, recurses := true, plainKeys := false, apart := false }
def StagePlaysSaid : Prop := stagePlaysRow.holds Try.pinned (OpenSpec.ofChange stagePlaysSpec)

/-- ITS FALSE NEIGHBOUR: 'it returns false'. Refute it at one input. -/
def stagePlaysWrong : ChangeSpec := { name := "stagePlays", fn := fun _ => fun
  | [d1, d2, d3] => { results := [.lit (.bool false)], args := [d1, d2, d3] }
  | _ => none }
def StagePlaysWrongFalsely : Prop := stagePlaysRow.holds Try.pinned (OpenSpec.ofChange stagePlaysWrong)

/-- 'sponsionlaw17.PoolSolvent': WHATEVER THE INPUT: true; the input reads as it did. -/
def poolSolventSpec : ChangeSpec := { name := "poolSolvent", fn := fun _ => fun
  | [d] => { results := [.lit (.bool true)], args := [d] }
  | _ => none }
def poolSolventRow : OpenClaim := { program := "ytcldageggmpeaaa", sum := "b844657c3beda653f5eb21094bfcdcf47320c6798fc341cf5d06a3c76f7b416c", func := "sponsion/sponsionlaw17.PoolSolvent", spec := "poolSolvent", unfollowed := true, recurses := true, plainKeys := false, apart := false }
def PoolSolventSaid : Prop := poolSolventRow.holds Try.pinned (OpenSpec.ofChange poolSolventSpec)

/-- ITS FALSE NEIGHBOUR: 'it returns false'. Refute it at one input. -/
def poolSolventWrong : ChangeSpec := { name := "poolSolvent", fn := fun _ => fun
  | [d] => { results := [.lit (.bool false)], args := [d] }
  | _ => none }
def PoolSolventWrongFalsely : Prop := poolSolventRow.holds Try.pinned (OpenSpec.ofChange poolSolventWrong)

/-- 'sponsionlaw18.SpentOnce': WHATEVER THE INPUT: true; the input reads as it did. -/
def spentOnceSpec : ChangeSpec := { name := "spentOnce", fn := fun _ => fun
  | [d1, d2] => { results := [.lit (.bool true)], args := [d1, d2] }
  | _ => none }
def spentOnceRow : OpenClaim := { program := "ytcldageggmpeaaa", sum := "b844657c3beda653f5eb21094bfcdcf47320c6798fc341cf5d06a3c76f7b416c", func := "sponsion/sponsionlaw18.SpentOnce", spec := "spentOnce", inPlace := ["maps.clone"], unfollowed := true, recurses := true, plainKeys := false, apart := false }
def SpentOnceSaid : Prop := spentOnceRow.holds Try.pinned (OpenSpec.ofChange spentOnceSpec)

/-- ITS FALSE NEIGHBOUR: 'it returns false'. Refute it at one input. -/
def spentOnceWrong : ChangeSpec := { name := "spentOnce", fn := fun _ => fun
  | [d1, d2] => { results := [.lit (.bool false)], args := [d1, d2] }
  | _ => none }
def SpentOnceWrongFalsely : Prop := spentOnceRow.holds Try.pinned (OpenSpec.ofChange spentOnceWrong)

/-- 'sponsionlaw20.BatchPlays': WHATEVER THE INPUT: true; the input reads as it did. -/
def batchPlaysSpec : ChangeSpec := { name := "batchPlays", fn := fun _ => fun
  | [d1, d2, d3, d4] => { results := [.lit (.bool true)], args := [d1, d2, d3, d4] }
  | _ => none }
def batchPlaysRow : OpenClaim := { program := "ytcldageggmpeaaa", sum := "b844657c3beda653f5eb21094bfcdcf47320c6798fc341cf5d06a3c76f7b416c", func := "sponsion/sponsionlaw20.BatchPlays", spec := "batchPlays", inPlace := ["maps.clone"], unfollowed := true, recurses := true, plainKeys := false, apart := false }
def BatchPlaysSaid : Prop := batchPlaysRow.holds Try.pinned (OpenSpec.ofChange batchPlaysSpec)

/-- ITS FALSE NEIGHBOUR: 'it returns false'. Refute it at one input. -/
def batchPlaysWrong : ChangeSpec := { name := "batchPlays", fn := fun _ => fun
  | [d1, d2, d3, d4] => { results := [.lit (.bool false)], args := [d1, d2, d3, d4] }
  | _ => none }
def BatchPlaysWrongFalsely : Prop := batchPlaysRow.holds Try.pinned (OpenSpec.ofChange batchPlaysWrong)

/-- 'sponsionlaw13.BookTells': WHATEVER THE INPUT: true; the input reads as it did. -/
def bookTellsSpec : ChangeSpec := { name := "bookTells", fn := fun _ => fun
  | [d1, d2] => { results := [.lit (.bool true)], args := [d1, d2] }
  | _ => none }
def bookTellsRow : OpenClaim := { program := "ytcldageggmpeaaa", sum := "b844657c3beda653f5eb21094bfcdcf47320c6798fc341cf5d06a3c76f7b416c", func := "sponsion/sponsionlaw13.BookTells", spec := "bookTells", inPlace := ["maps.clone"], unfollowed := true, recurses := true, plainKeys := false, apart := false }
def BookTellsSaid : Prop := bookTellsRow.holds Try.pinned (OpenSpec.ofChange bookTellsSpec)

/-- ITS FALSE NEIGHBOUR: 'it returns false'. Refute it at one input. -/
def bookTellsWrong : ChangeSpec := { name := "bookTells", fn := fun _ => fun
  | [d1, d2] => { results := [.lit (.bool false)], args := [d1, d2] }
  | _ => none }
def BookTellsWrongFalsely : Prop := bookTellsRow.holds Try.pinned (OpenSpec.ofChange bookTellsWrong)

/-- 'sponsionlaw13.BookPlays': WHATEVER THE INPUT: true; the input reads as it did. -/
def bookPlaysSpec : ChangeSpec := { name := "bookPlays", fn := fun _ => fun
  | [d1, d2, d3] => { results := [.lit (.bool true)], args := [d1, d2, d3] }
  | _ => none }
def bookPlaysRow : OpenClaim := { program := "ytcldageggmpeaaa", sum := "b844657c3beda653f5eb21094bfcdcf47320c6798fc341cf5d06a3c76f7b416c", func := "sponsion/sponsionlaw13.BookPlays", spec := "bookPlays", inPlace := ["maps.clone"], unfollowed := true, recurses := true, plainKeys := false, apart := false }
def BookPlaysSaid : Prop := bookPlaysRow.holds Try.pinned (OpenSpec.ofChange bookPlaysSpec)

/-- ITS FALSE NEIGHBOUR: 'it returns false'. Refute it at one input. -/
def bookPlaysWrong : ChangeSpec := { name := "bookPlays", fn := fun _ => fun
  | [d1, d2, d3] => { results := [.lit (.bool false)], args := [d1, d2, d3] }
  | _ => none }
def BookPlaysWrongFalsely : Prop := bookPlaysRow.holds Try.pinned (OpenSpec.ofChange bookPlaysWrong)

/- THE SECOND FORM. 'bulk': how many values and letters a reading holds, each counted each time it is reached (what is shared counts as often as it is met; a slice's spare places count too). A statement '..UptoSaid' is the law's where the arguments, and the package variables that the reading takes, are together of bulk at most 1048576: NARROWER than '..Said'. Prove '..Said' where nothing that the law and all that it calls make is longer than what came in: it says more and counts as full. Else prove '..UptoSaid'. A law counts once. -/
mutual
def uptoBulk {H : Type} : DataW H → Nat
  | .lit (.string bytes) => bytes.length + 1
  | .lit _ => 1
  | .nil => 1
  | .ptr d => uptoBulk d + 1
  | .slice elems spare => uptoBulkAll elems + uptoBulkAll spare + 1
  | .agg parts => uptoBulkAll parts + 1
  | .iface _ d => uptoBulk d + 1
  | .map entries => uptoBulkEntries entries + 1
  | .held _ => 1
def uptoBulkAll {H : Type} : List (DataW H) → Nat
  | [] => 0
  | d :: r => uptoBulk d + uptoBulkAll r
def uptoBulkEntries {H : Type} : List (Lit × DataW H) → Nat
  | [] => 0
  | x :: r => uptoBulkEntry x + uptoBulkEntries r
def uptoBulkEntry {H : Type} : Lit × DataW H → Nat
  | (.string bytes, d) => bytes.length + uptoBulk d + 1
  | (_, d) => uptoBulk d + 1
 end
def uptoSmall : (H : Type) → List (DataW H) → Bool := fun _ ds => decide (uptoBulkAll ds ≤ 1048576)
def OpenSpec.upto (s : _root_.Go.ChangeSpec) : _root_.Go.OpenSpec := { _root_.Go.OpenSpec.ofChange s with cond := some uptoSmall }

/-- 'sponsionlaw17.PoolGains', WHERE WHAT IT READS IS OF BULK AT MOST 1048576: true; the input reads as it did. -/
def poolGainsUptoRow : OpenClaim := { program := "ytcldageggmpeaaa", sum := "b844657c3beda653f5eb21094bfcdcf47320c6798fc341cf5d06a3c76f7b416c", func := "sponsion/sponsionlaw17.PoolGains", spec := "poolGains", unfollowed := true, recurses := true, plainKeys := false, apart := false, narrowed := true }
def PoolGainsUptoSaid : Prop := poolGainsUptoRow.holds Try.pinned (OpenSpec.upto poolGainsSpec)

/-- 'sponsionlaw12.StagePlays', WHERE WHAT IT READS IS OF BULK AT MOST 1048576: true; the input reads as it did. -/
def stagePlaysUptoRow : OpenClaim := { program := "ytcldageggmpeaaa", sum := "b844657c3beda653f5eb21094bfcdcf47320c6798fc341cf5d06a3c76f7b416c", func := "sponsion/sponsionlaw12.StagePlays", spec := "stagePlays", inPlace := ["maps.clone"], unfollowed := true, recurses := true, plainKeys := false, apart := false, narrowed := true }
def StagePlaysUptoSaid : Prop := stagePlaysUptoRow.holds Try.pinned (OpenSpec.upto stagePlaysSpec)

/-- 'sponsionlaw17.PoolSolvent', WHERE WHAT IT READS IS OF BULK AT MOST 1048576: true; the input reads as it did. -/
def poolSolventUptoRow : OpenClaim := { program := "ytcldageggmpeaaa", sum := "b844657c3beda653f5eb21094bfcdcf47320c6798fc341cf5d06a3c76f7b416c", func := "sponsion/sponsionlaw17.PoolSolvent", spec := "poolSolvent", unfollowed := true, recurses := true, plainKeys := false, apart := false, narrowed := true }
def PoolSolventUptoSaid : Prop := poolSolventUptoRow.holds Try.pinned (OpenSpec.upto poolSolventSpec)

/-- 'sponsionlaw18.SpentOnce', WHERE WHAT IT READS IS OF BULK AT MOST 1048576: true; the input reads as it did. -/
def spentOnceUptoRow : OpenClaim := { program := "ytcldageggmpeaaa", sum := "b844657c3beda653f5eb21094bfcdcf47320c6798fc341cf5d06a3c76f7b416c", func := "sponsion/sponsionlaw18.SpentOnce", spec := "spentOnce", inPlace := ["maps.clone"], unfollowed := true, recurses := true, plainKeys := false, apart := false, narrowed := true }
def SpentOnceUptoSaid : Prop := spentOnceUptoRow.holds Try.pinned (OpenSpec.upto spentOnceSpec)

/-- 'sponsionlaw20.BatchPlays', WHERE WHAT IT READS IS OF BULK AT MOST 1048576: true; the input reads as it did. -/
def batchPlaysUptoRow : OpenClaim := { program := "ytcldageggmpeaaa", sum := "b844657c3beda653f5eb21094bfcdcf47320c6798fc341cf5d06a3c76f7b416c", func := "sponsion/sponsionlaw20.BatchPlays", spec := "batchPlays", inPlace := ["maps.clone"], unfollowed := true, recurses := true, plainKeys := false, apart := false, narrowed := true }
def BatchPlaysUptoSaid : Prop := batchPlaysUptoRow.holds Try.pinned (OpenSpec.upto batchPlaysSpec)

/-- 'sponsionlaw13.BookTells', WHERE WHAT IT READS IS OF BULK AT MOST 1048576: true; the input reads as it did. -/
def bookTellsUptoRow : OpenClaim := { program := "ytcldageggmpeaaa", sum := "b844657c3beda653f5eb21094bfcdcf47320c6798fc341cf5d06a3c76f7b416c", func := "sponsion/sponsionlaw13.BookTells", spec := "bookTells", inPlace := ["maps.clone"], unfollowed := true, recurses := true, plainKeys := false, apart := false, narrowed := true }
def BookTellsUptoSaid : Prop := bookTellsUptoRow.holds Try.pinned (OpenSpec.upto bookTellsSpec)

/-- 'sponsionlaw13.BookPlays', WHERE WHAT IT READS IS OF BULK AT MOST 1048576: true; the input reads as it did. -/
def bookPlaysUptoRow : OpenClaim := { program := "ytcldageggmpeaaa", sum := "b844657c3beda653f5eb21094bfcdcf47320c6798fc341cf5d06a3c76f7b416c", func := "sponsion/sponsionlaw13.BookPlays", spec := "bookPlays", inPlace := ["maps.clone"], unfollowed := true, recurses := true, plainKeys := false, apart := false, narrowed := true }
def BookPlaysUptoSaid : Prop := bookPlaysUptoRow.holds Try.pinned (OpenSpec.upto bookPlaysSpec)

end Rows
end Go.Proofs.Ytcldageggmpeaaa
