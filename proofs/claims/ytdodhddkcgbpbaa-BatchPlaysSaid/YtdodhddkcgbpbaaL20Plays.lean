/- The law BatchPlays holds: for every input it returns true, and its arguments read behind the call as they read before. No condition. -/
import Derived.Test.YtdodhddkcgbpbaaRows
import Derived.WalkKit
import Derived.ProofKit
import Derived.OpenShut
import Derived.Test.YtdodhddkcgbpbaaF1
import Derived.Test.YtdodhddkcgbpbaaL20PlaysC2
set_option linter.unusedVariables false
set_option linter.unusedSimpArgs false
namespace Go.Proofs.Ytdodhddkcgbpbaa.batchPlays
open Go.ChangeShapes Go.WideShapes Go.ChangeAt Go.RowKit Go.Sx

theorem own : ownKnob Try.prog.godebug = none := by kernel_rfl
theorem laidOut : laidOutB Try.prog = true := by kernel_rfl
set_option maxRecDepth 100000 in
theorem lifted (os : Os) (started : os.Started) (H : Type) (enc : TypeId × Value → H) :
    ReturnsInHanded {} Try.checked os 3 .any (Rows.batchPlaysSpec.pre6 enc Try.prog Try.f3 Rows.batchPlaysRow.domain false) (Rows.batchPlaysSpec.post enc Try.prog Try.f3 false true false false) := by
  refine returnsInHanded_of_change (C := Try.checked) own started (by kernel_rfl) Try.func3
    (ChangeSpec.witness6 (enc := enc) (C := Try.checked) false ⟨#[], #[.int .i64 0, .slice none 0 0, .int .u32 0, .int .u64 0], []⟩ 8 (by kernel_rfl) (by kernel_rfl) (by kernel_rfl) (by kernel_rfl)) ?_
  intro W base args ds gs before hval0 hW hcnd _
  have hval : ∀ (j : Nat) t v, Try.f3.params[j]? = some t → args[j]? = some v → Value.okWide Try.prog W .any base t v := hval0
  have hW' := hW
  obtain ⟨p, q, hA0, hV, rfl, hfz, hnd⟩ := hW
  have hA : DataW.TrodAll enc Try.prog W 0 (fun _ => true) true Try.f3.params.toList args.toList ds p := hA0
  rw [show Try.f3.params = #[3, 22, 23, 24] from by kernel_rfl] at hA hval
  obtain ⟨v0, vs0, d0, ds0, p0, q0, hargs, rfl, rfl, h0, r0⟩ := trodAll_cons hA
  obtain ⟨v1, vs1, d1, ds1, p1, q1, rfl, rfl, rfl, h1, r1⟩ := trodAll_cons r0
  obtain ⟨v2, vs2, d2, ds2, p2, q2, rfl, rfl, rfl, h2, r2⟩ := trodAll_cons r1
  obtain ⟨v3, vs3, d3, ds3, p3, q3, rfl, rfl, rfl, h3, r3⟩ := trodAll_cons r2
  obtain ⟨rfl, rfl, rfl⟩ := trodAll_nil r3
  obtain rfl : args = #[v0, v1, v2, v3] := by cases args; simp_all
  obtain ⟨rfl, rfl⟩ := trodVars_none hV
  obtain ⟨z0, rfl, e0, f0, w0⟩ := open_int (k := .i64) (by kernel_rfl) (hval 0 3 v0 rfl rfl) h0
  have c1 : v1.cells = #[v1] := slice_cells (e := 41) (by kernel_rfl) (hval 1 22 v1 rfl rfl)
  obtain ⟨xs1, sl1, ml1⟩ := open_slice (e := 41) (n := 41) (by kernel_rfl) (by kernel_rfl) (by decide) (Try.opens41) h1 c1
  obtain ⟨z2, rfl, e2, f2, w2⟩ := open_int (k := .u32) (by kernel_rfl) (hval 2 23 v2 rfl rfl) h2
  obtain ⟨z3, rfl, e3, f3, w3⟩ := open_int (k := .u64) (by kernel_rfl) (hval 3 24 v3 rfl rfl) h3
  clear hA0 hval0
  have hlen : ∀ t ∈ Try.f3.params.toList, Try.prog.readableRec t = true ∧ t < Try.prog.types.size := by
    rw [show Try.f3.params = #[3, 22, 23, 24] from by kernel_rfl]
    intro t ht
    simp only [List.mem_cons, List.not_mem_nil, or_false] at ht
    rcases ht with rfl | rfl | rfl | rfl
    all_goals exact ⟨by kernel_rfl, of_decide_eq_true (by kernel_rfl)⟩
  refine (CallT.below (Go.Proofs.law20_BatchPlays W z0 v1 z2 z3 xs1 w0 sl1 w2 w3 ml1)).mono fun e W' hh => ?_
  obtain ⟨_, _, he', hg⟩ := hh
  subst he'
  exact ⟨_, rfl, post_of_below2 laidOut hlen hW' (fun _ _ _ => trodAll_cons_mk (shut_bool (by kernel_rfl) _) trodAll_mk0) rfl rfl rfl hg⟩
theorem over : Rows.batchPlaysRow.holds Try.pinned (OpenSpec.ofChange Rows.batchPlaysSpec) :=
  OpenClaim.holds_of_wide 3 Try.f3 rfl rfl rfl rfl rfl rfl rfl ⟨rfl, rfl, rfl, rfl, rfl⟩ rfl rfl rfl rfl rfl (by kernel_rfl) Try.func3 (by kernel_rfl)
    (of_decide_eq_true (by kernel_rfl)) (by unfold Func.isWrapper; first | (rw [if_pos (by decide +kernel)]; kernel_rfl) | (rw [if_neg (by decide +kernel)]; exact ⟨rfl, rfl⟩))
    (fun os started H enc _ => lifted os started H enc)
theorem proved : Rows.BatchPlaysSaid := over
#print axioms proved
end Go.Proofs.Ytdodhddkcgbpbaa.batchPlays

