/- The law PoolPlays holds: for every input it returns true, and its arguments read behind the call as they read before. No condition. -/
import Derived.Test.YtbkoiplcjankoaaGreatRows
import Derived.WalkKit
import Derived.ProofKit
import Derived.OpenShut
import Derived.Test.YtbkoiplcjankoaaGreatF2
import Derived.Test.YtbkoiplcjankoaaGreatL17PlaysC4
set_option linter.unusedVariables false
set_option linter.unusedSimpArgs false
namespace Go.Proofs.YtbkoiplcjankoaaGreat.poolPlays
open Go.ChangeShapes Go.WideShapes Go.ChangeAt Go.RowKit Go.Sx

theorem own : ownKnob Tryz.prog.godebug = none := by kernel_rfl
theorem QeX : laidOutB Tryz.prog = true := by kernel_rfl
set_option maxRecDepth 100000 in
theorem QgK (os : Os) (started : os.Started) (H : Type) (enc : TypeId × Value → H) :
    ReturnsInHanded {} Tryz.checked os 3 .any (Rows.poolPlaysSpec.pre6 enc Tryz.prog Tryz.f3 Rows.poolPlaysRow.domain false) (Rows.poolPlaysSpec.post enc Tryz.prog Tryz.f3 false true false false) := by
  refine returnsInHanded_of_change (C := Tryz.checked) own started (by kernel_rfl) Tryz.func3
    (ChangeSpec.witness6 (enc := enc) (C := Tryz.checked) false ⟨#[], #[.slice none 0 0, .int .u8 0, .int .u8 0], []⟩ 8 (by kernel_rfl) (by kernel_rfl) (by kernel_rfl) (by kernel_rfl)) ?_
  intro W base args ds gs before hval0 hW hcnd _
  have hval : ∀ (j : Nat) t v, Tryz.f3.params[j]? = some t → args[j]? = some v → Value.okWide Tryz.prog W .any base t v := hval0
  have hW' := hW
  obtain ⟨p, q, hA0, hV, rfl, hfz, hnd⟩ := hW
  have hA : DataW.TrodAll enc Tryz.prog W 0 (fun _ => true) true Tryz.f3.params.toList args.toList ds p := hA0
  rw [show Tryz.f3.params = #[22, 5, 5] from by kernel_rfl] at hA hval
  obtain ⟨v0, vs0, d0, ds0, p0, q0, hargs, rfl, rfl, h0, r0⟩ := trodAll_cons hA
  obtain ⟨v1, vs1, d1, ds1, p1, q1, rfl, rfl, rfl, h1, r1⟩ := trodAll_cons r0
  obtain ⟨v2, vs2, d2, ds2, p2, q2, rfl, rfl, rfl, h2, r2⟩ := trodAll_cons r1
  obtain ⟨rfl, rfl, rfl⟩ := trodAll_nil r2
  obtain rfl : args = #[v0, v1, v2] := by cases args; simp_all
  obtain ⟨rfl, rfl⟩ := trodVars_none hV
  have c0 : v0.cells = #[v0] := pq (e := 44) (by kernel_rfl) (hval 0 22 v0 rfl rfl)
  obtain ⟨xs0, sl0, ml0⟩ := dx (e := 44) (n := 7) (by kernel_rfl) (by kernel_rfl) (by decide) (QeZ) h0 c0
  obtain ⟨z1, rfl, e1, f1, w1⟩ := open_int (k := .u8) (by kernel_rfl) (hval 1 5 v1 rfl rfl) h1
  obtain ⟨z2, rfl, e2, f2, w2⟩ := open_int (k := .u8) (by kernel_rfl) (hval 2 5 v2 rfl rfl) h2
  clear hA0 hval0
  have hlen : ∀ t ∈ Tryz.f3.params.toList, Tryz.prog.readableRec t = true ∧ t < Tryz.prog.types.size := by
    rw [show Tryz.f3.params = #[22, 5, 5] from by kernel_rfl]
    intro t ht
    simp only [List.mem_cons, List.not_mem_nil, or_false] at ht
    rcases ht with rfl | rfl | rfl
    all_goals exact ⟨by kernel_rfl, of_decide_eq_true (by kernel_rfl)⟩
  refine (QC.below (Go.Proofs.law17_PoolPlays W v0 z1 z2 xs0 sl0 w1 w2 ml0)).mono fun e W' hh => ?_
  obtain ⟨_, _, he', hg⟩ := hh
  subst he'
  exact ⟨_, rfl, Fa QeX hlen hW' (fun _ _ _ => trodAll_cons_mk (shut_bool (by kernel_rfl) _) trodAll_mk0) rfl rfl rfl hg⟩
theorem over : Rows.poolPlaysRow.holds Tryz.pinned (OpenSpec.ofChange Rows.poolPlaysSpec) :=
  OpenClaim.holds_of_wide 3 Tryz.f3 rfl rfl rfl rfl rfl rfl rfl ⟨rfl, rfl, rfl, rfl, rfl⟩ rfl rfl rfl rfl rfl (by kernel_rfl) Tryz.func3 (by kernel_rfl)
    (of_decide_eq_true (by kernel_rfl)) (by unfold Func.isWrapper; first | (rw [if_pos (by decide +kernel)]; kernel_rfl) | (rw [if_neg (by decide +kernel)]; exact ⟨rfl, rfl⟩))
    (fun os started H enc _ => QgK os started H enc)
theorem proved : Rows.PoolPlaysSaid := over
#print axioms proved
end Go.Proofs.YtbkoiplcjankoaaGreat.poolPlays

