/- The law StageBack holds: for every input it returns true, and its arguments read behind the call as they read before. No condition. -/
import Derived.Test.YtaholcpmcjdkgaaRows
import Derived.WalkKit
import Derived.ProofKit
import Derived.OpenShut
import Derived.Test.YtaholcpmcjdkgaaF4
import Derived.Test.YtaholcpmcjdkgaaL12BackC1
set_option linter.unusedVariables false
set_option linter.unusedSimpArgs false
namespace Go.Proofs.Ytaholcpmcjdkgaa.stageBack
open Go.ChangeShapes Go.WideShapes Go.ChangeAt Go.RowKit Go.Sx

theorem own : ownKnob Try.prog.godebug = none := by kernel_rfl
theorem laidOut : laidOutB Try.prog = true := by kernel_rfl
set_option maxRecDepth 100000 in
theorem lifted (os : Os) (started : os.Started) (H : Type) (enc : TypeId × Value → H) :
    ReturnsInHanded {} Try.checked os 3 .any (Rows.stageBackSpec.pre6 enc Try.prog Try.f3 Rows.stageBackRow.domain false) (Rows.stageBackSpec.post enc Try.prog Try.f3 false true false false) := by
  refine returnsInHanded_of_change (C := Try.checked) own started (by kernel_rfl) Try.func3
    (ChangeSpec.witness6 (enc := enc) (C := Try.checked) false ⟨#[], #[.slice none 0 0, .slice none 0 0, .slice none 0 0], []⟩ 8 (by kernel_rfl) (by kernel_rfl) (by kernel_rfl) (by kernel_rfl)) ?_
  intro W base args ds gs before hval0 hW hcnd _
  have hval : ∀ (j : Nat) t v, Try.f3.params[j]? = some t → args[j]? = some v → Value.okWide Try.prog W .any base t v := hval0
  have hW' := hW
  obtain ⟨p, q, hA0, hV, rfl, hfz, hnd⟩ := hW
  have hA : DataW.TrodAll enc Try.prog W 0 (fun _ => true) true Try.f3.params.toList args.toList ds p := hA0
  rw [show Try.f3.params = #[22, 22, 22] from by kernel_rfl] at hA hval
  obtain ⟨v0, vs0, d0, ds0, p0, q0, hargs, rfl, rfl, h0, r0⟩ := trodAll_cons hA
  obtain ⟨v1, vs1, d1, ds1, p1, q1, rfl, rfl, rfl, h1, r1⟩ := trodAll_cons r0
  obtain ⟨v2, vs2, d2, ds2, p2, q2, rfl, rfl, rfl, h2, r2⟩ := trodAll_cons r1
  obtain ⟨rfl, rfl, rfl⟩ := trodAll_nil r2
  obtain rfl : args = #[v0, v1, v2] := by cases args; simp_all
  obtain ⟨rfl, rfl⟩ := trodVars_none hV
  have c0 : v0.cells = #[v0] := slice_cells (e := 51) (by kernel_rfl) (hval 0 22 v0 rfl rfl)
  obtain ⟨xs0, sl0, ml0⟩ := open_slice (e := 51) (n := 4) (by kernel_rfl) (by kernel_rfl) (by decide) (Try.opens51) h0 c0
  have c1 : v1.cells = #[v1] := slice_cells (e := 51) (by kernel_rfl) (hval 1 22 v1 rfl rfl)
  obtain ⟨xs1, sl1, ml1⟩ := open_slice (e := 51) (n := 4) (by kernel_rfl) (by kernel_rfl) (by decide) (Try.opens51) h1 c1
  have c2 : v2.cells = #[v2] := slice_cells (e := 51) (by kernel_rfl) (hval 2 22 v2 rfl rfl)
  obtain ⟨xs2, sl2, ml2⟩ := open_slice (e := 51) (n := 4) (by kernel_rfl) (by kernel_rfl) (by decide) (Try.opens51) h2 c2
  clear hA0 hval0
  have hlen : ∀ t ∈ Try.f3.params.toList, Try.prog.readableRec t = true ∧ t < Try.prog.types.size := by
    rw [show Try.f3.params = #[22, 22, 22] from by kernel_rfl]
    intro t ht
    simp only [List.mem_cons, List.not_mem_nil, or_false] at ht
    rcases ht with rfl | rfl | rfl
    all_goals exact ⟨by kernel_rfl, of_decide_eq_true (by kernel_rfl)⟩
  refine (CallT.below (Go.Proofs.law12_StageBack W v0 v1 v2 xs0 xs1 xs2 sl0 sl1 sl2 ml0 ml1 ml2)).mono fun e W' hh => ?_
  obtain ⟨_, _, he', hg⟩ := hh
  subst he'
  exact ⟨_, rfl, post_of_below2 laidOut hlen hW' (fun _ _ _ => trodAll_cons_mk (shut_bool (by kernel_rfl) _) trodAll_mk0) rfl rfl rfl hg⟩
theorem over : Rows.stageBackRow.holds Try.pinned (OpenSpec.ofChange Rows.stageBackSpec) :=
  OpenClaim.holds_of_wide 3 Try.f3 rfl rfl rfl rfl rfl rfl rfl ⟨rfl, rfl, rfl, rfl, rfl⟩ rfl rfl rfl rfl rfl (by kernel_rfl) Try.func3 (by kernel_rfl)
    (of_decide_eq_true (by kernel_rfl)) (by unfold Func.isWrapper; first | (rw [if_pos (by decide +kernel)]; kernel_rfl) | (rw [if_neg (by decide +kernel)]; exact ⟨rfl, rfl⟩))
    (fun os started H enc _ => lifted os started H enc)
theorem proved : Rows.StageBackSaid := over
#print axioms proved
end Go.Proofs.Ytaholcpmcjdkgaa.stageBack

