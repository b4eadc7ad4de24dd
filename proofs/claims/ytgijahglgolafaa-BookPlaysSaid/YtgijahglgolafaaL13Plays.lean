/- The law BookPlays holds: for every input it returns true, and its arguments read behind the call as they read before. No condition. -/
import Derived.Test.YtgijahglgolafaaRows
import Derived.WalkKit
import Derived.ProofKit
import Derived.OpenShut
import Derived.Test.YtgijahglgolafaaF2
import Derived.Test.YtgijahglgolafaaL13PlaysC2
set_option linter.unusedVariables false
set_option linter.unusedSimpArgs false
namespace Go.Proofs.Ytgijahglgolafaa.bookPlays
open Go.ChangeShapes Go.WideShapes Go.ChangeAt Go.RowKit Go.Sx

theorem own : ownKnob Try.prog.godebug = none := by kernel_rfl
theorem laidOut : laidOutB Try.prog = true := by kernel_rfl
set_option maxRecDepth 100000 in
theorem lifted (os : Os) (started : os.Started) (H : Type) (enc : TypeId × Value → H) :
    ReturnsInHanded {} Try.checked os 4 .any (Rows.bookPlaysSpec.pre6 enc Try.prog Try.f4 Rows.bookPlaysRow.domain false) (Rows.bookPlaysSpec.post enc Try.prog Try.f4 false true false false) := by
  refine returnsInHanded_of_change (C := Try.checked) own started (by kernel_rfl) Try.func4
    (ChangeSpec.witness6 (enc := enc) (C := Try.checked) false ⟨#[], #[.slice none 0 0, .int .u8 0, .int .u8 0], []⟩ 8 (by kernel_rfl) (by kernel_rfl) (by kernel_rfl) (by kernel_rfl)) ?_
  intro W base args ds gs before hval0 hW hcnd _
  have hval : ∀ (j : Nat) t v, Try.f4.params[j]? = some t → args[j]? = some v → Value.okWide Try.prog W .any base t v := hval0
  have hW' := hW
  obtain ⟨p, q, hA0, hV, rfl, hfz, hnd⟩ := hW
  have hA : DataW.TrodAll enc Try.prog W 0 (fun _ => true) true Try.f4.params.toList args.toList ds p := hA0
  rw [show Try.f4.params = #[22, 5, 5] from by kernel_rfl] at hA hval
  obtain ⟨v0, vs0, d0, ds0, p0, q0, hargs, rfl, rfl, h0, r0⟩ := trodAll_cons hA
  obtain ⟨v1, vs1, d1, ds1, p1, q1, rfl, rfl, rfl, h1, r1⟩ := trodAll_cons r0
  obtain ⟨v2, vs2, d2, ds2, p2, q2, rfl, rfl, rfl, h2, r2⟩ := trodAll_cons r1
  obtain ⟨rfl, rfl, rfl⟩ := trodAll_nil r2
  obtain rfl : args = #[v0, v1, v2] := by cases args; simp_all
  obtain ⟨rfl, rfl⟩ := trodVars_none hV
  have c0 : v0.cells = #[v0] := slice_cells (e := 34) (by kernel_rfl) (hval 0 22 v0 rfl rfl)
  obtain ⟨xs0, sl0, ml0⟩ := open_slice (e := 34) (n := 8) (by kernel_rfl) (by kernel_rfl) (by decide) (Try.opens34) h0 c0
  obtain ⟨z1, rfl, e1, f1, w1⟩ := open_int (k := .u8) (by kernel_rfl) (hval 1 5 v1 rfl rfl) h1
  obtain ⟨z2, rfl, e2, f2, w2⟩ := open_int (k := .u8) (by kernel_rfl) (hval 2 5 v2 rfl rfl) h2
  clear hA0 hval0
  have hlen : ∀ t ∈ Try.f4.params.toList, Try.prog.readableRec t = true ∧ t < Try.prog.types.size := by
    rw [show Try.f4.params = #[22, 5, 5] from by kernel_rfl]
    intro t ht
    simp only [List.mem_cons, List.not_mem_nil, or_false] at ht
    rcases ht with rfl | rfl | rfl
    all_goals exact ⟨by kernel_rfl, of_decide_eq_true (by kernel_rfl)⟩
  refine (CallT.below (Go.Proofs.law13_BookPlays W v0 z1 z2 xs0 sl0 w1 w2 ml0)).mono fun e W' hh => ?_
  obtain ⟨_, _, he', hg⟩ := hh
  subst he'
  exact ⟨_, rfl, post_of_below2 laidOut hlen hW' (fun _ _ _ => trodAll_cons_mk (shut_bool (by kernel_rfl) _) trodAll_mk0) rfl rfl rfl hg⟩
theorem over : Rows.bookPlaysRow.holds Try.pinned (OpenSpec.ofChange Rows.bookPlaysSpec) :=
  OpenClaim.holds_of_wide 4 Try.f4 rfl rfl rfl rfl rfl rfl rfl ⟨rfl, rfl, rfl, rfl, rfl⟩ rfl rfl rfl rfl rfl (by kernel_rfl) Try.func4 (by kernel_rfl)
    (of_decide_eq_true (by kernel_rfl)) (by unfold Func.isWrapper; first | (rw [if_pos (by decide +kernel)]; kernel_rfl) | (rw [if_neg (by decide +kernel)]; exact ⟨rfl, rfl⟩))
    (fun os started H enc _ => lifted os started H enc)
theorem proved : Rows.BookPlaysSaid := over
#print axioms proved
end Go.Proofs.Ytgijahglgolafaa.bookPlays

