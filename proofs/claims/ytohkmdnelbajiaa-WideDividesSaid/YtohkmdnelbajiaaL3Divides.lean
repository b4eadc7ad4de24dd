/- The law WideDivides holds: for every input it returns true, and its arguments read behind the call as they read before. No condition. -/
import Derived.Test.YtohkmdnelbajiaaRows
import Derived.WalkKit
import Derived.ProofKit
import Derived.OpenShut
import Derived.Test.YtohkmdnelbajiaaSxC2
import Derived.Test.YtohkmdnelbajiaaC11Divides
set_option linter.unusedVariables false
set_option linter.unusedSimpArgs false
namespace Go.Proofs.Ytohkmdnelbajiaa.wideDivides
open Go.ChangeShapes Go.WideShapes Go.ChangeAt Go.RowKit Go.Sx

theorem own : ownKnob Try.prog.godebug = none := by kernel_rfl
theorem walk (a b : Int) (ra : R8 a) (rb : R4 b) (w : World) : Calls Try.prog 6 #[vW a, vI b] w fun e w' => e = .returned (.bool true) ∧ Below w.heap.size w w' :=
  ((Go.Proofs.law3_WideDivides a b ra rb).below0 w).mono fun _ _ ⟨_, _, he, hb⟩ => ⟨he, hb⟩

set_option maxRecDepth 100000 in
theorem lifted (os : Os) (started : os.Started) (H : Type) (enc : TypeId × Value → H) :
    ReturnsInHanded {} Try.checked os 6 .any (Rows.wideDividesSpec.pre6 enc Try.prog Try.f6 Rows.wideDividesRow.domain false) (Rows.wideDividesSpec.post enc Try.prog Try.f6 false true false false) := by
  refine returnsInHanded_of_change (C := Try.checked) own started (by kernel_rfl) Try.func6
    (ChangeSpec.witness6 (enc := enc) (C := Try.checked) false ⟨#[], #[.agg #[.int .u64 0, .int .u64 0, .int .u64 0, .int .u64 0, .int .u64 0, .int .u64 0, .int .u64 0, .int .u64 0], .agg #[.int .u64 0, .int .u64 0, .int .u64 0, .int .u64 0]], []⟩ 8 (by kernel_rfl) (by kernel_rfl) (by kernel_rfl) (by kernel_rfl)) ?_
  intro W base args ds gs before hval0 hW hcnd _
  have hval : ∀ (j : Nat) t v, Try.f6.params[j]? = some t → args[j]? = some v → Value.okWide Try.prog W .any base t v := hval0
  have hW' := hW
  obtain ⟨p, q, hA0, hV, rfl, hfz, hnd⟩ := hW
  have hA : DataW.TrodAll enc Try.prog W 0 (fun _ => true) true Try.f6.params.toList args.toList ds p := hA0
  rw [show Try.f6.params = #[56, 44] from by kernel_rfl] at hA hval
  obtain ⟨v0, vs0, d0, ds0, p0, q0, hargs, rfl, rfl, h0, r0⟩ := trodAll_cons hA
  obtain ⟨v1, vs1, d1, ds1, p1, q1, rfl, rfl, rfl, h1, r1⟩ := trodAll_cons r0
  obtain ⟨rfl, rfl, rfl⟩ := trodAll_nil r1
  obtain rfl : args = #[v0, v1] := by cases args; simp_all
  obtain ⟨rfl, rfl⟩ := trodVars_none hV
  have he : Try.prog.underlying 27 = some (.int .u64) := by kernel_rfl
  have hu0 : Try.prog.underlying 56 = some (.array 8 27) := by kernel_rfl
  obtain ⟨a, rfl, ra, rfl, sa⟩ := open_num8 hu0 he (by kernel_rfl) (by kernel_rfl) (hval 0 56 v0 rfl rfl) h0
  have hu1 : Try.prog.underlying 44 = some (.array 4 27) := by kernel_rfl
  obtain ⟨b, rfl, rb, rfl, sb⟩ := open_num4 hu1 he (by kernel_rfl) (by kernel_rfl) (hval 1 44 v1 rfl rfl) h1
  clear hA0 hval0
  simp only [List.append_nil] at hW'
  refine (walk a b ra rb W).mono fun e W' ⟨he', hg⟩ => ?_
  subst he'
  exact ⟨_, rfl, post_of_below (pa := []) (pv := []) hW' (fun _ _ _ => trodAll_cons_mk (shut_bool (by kernel_rfl) _) trodAll_mk0) (fun sp _ => trodAll_cons_mk (sa _ _ _ _) (trodAll_cons_mk (sb _ _ _ _) trodAll_mk0)) (fun _ _ => rfl) rfl hg (ok_one (t := 4) (by kernel_rfl) rfl (okWide_bool_mk (t := 4) (by kernel_rfl) _))⟩
theorem over : Rows.wideDividesRow.holds Try.pinned (OpenSpec.ofChange Rows.wideDividesSpec) :=
  OpenClaim.holds_of_wide 6 Try.f6 rfl rfl rfl rfl rfl rfl rfl ⟨rfl, rfl, rfl, rfl, rfl⟩ rfl rfl rfl rfl rfl (by kernel_rfl) Try.func6 (by kernel_rfl)
    (of_decide_eq_true (by kernel_rfl)) (by unfold Func.isWrapper; first | (rw [if_pos (by decide +kernel)]; kernel_rfl) | (rw [if_neg (by decide +kernel)]; exact ⟨rfl, rfl⟩))
    (fun os started H enc _ => lifted os started H enc)
theorem proved : Rows.WideDividesSaid := over
#print axioms proved
end Go.Proofs.Ytohkmdnelbajiaa.wideDivides

