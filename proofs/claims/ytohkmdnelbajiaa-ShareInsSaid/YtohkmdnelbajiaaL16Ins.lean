/- The law ShareIns holds: for every input it returns true, and its arguments read behind the call as they read before. No condition. -/
import Derived.Test.YtohkmdnelbajiaaRows
import Derived.WalkKit
import Derived.ProofKit
import Derived.OpenShut
import Derived.Test.YtohkmdnelbajiaaSxC2
import Derived.Test.YtohkmdnelbajiaaL16InsC4
set_option linter.unusedVariables false
set_option linter.unusedSimpArgs false
namespace Go.Proofs.Ytohkmdnelbajiaa.shareIns
open Go.ChangeShapes Go.WideShapes Go.ChangeAt Go.RowKit Go.Sx

theorem own : ownKnob Try.prog.godebug = none := by kernel_rfl
theorem walk (a b c : Int) (ra : R4 a) (rb : R4 b) (rc : R4 c) (w : World) : Calls Try.prog 10 #[vI a, vI b, vI c] w fun e w' => e = .returned (.bool true) ∧ Below w.heap.size w w' :=
  ((Go.Proofs.law16_ShareIns a b c ra rb rc).below0 w).mono fun _ _ ⟨_, _, he, hb⟩ => ⟨he, hb⟩

set_option maxRecDepth 100000 in
theorem lifted (os : Os) (started : os.Started) (H : Type) (enc : TypeId × Value → H) :
    ReturnsInHanded {} Try.checked os 10 .any (Rows.shareInsSpec.pre6 enc Try.prog Try.f10 Rows.shareInsRow.domain false) (Rows.shareInsSpec.post enc Try.prog Try.f10 false true false false) := by
  refine returnsInHanded_of_change (C := Try.checked) own started (by kernel_rfl) Try.func10
    (ChangeSpec.witness6 (enc := enc) (C := Try.checked) false ⟨#[], #[.agg #[.int .u64 0, .int .u64 0, .int .u64 0, .int .u64 0], .agg #[.int .u64 0, .int .u64 0, .int .u64 0, .int .u64 0], .agg #[.int .u64 0, .int .u64 0, .int .u64 0, .int .u64 0]], []⟩ 8 (by kernel_rfl) (by kernel_rfl) (by kernel_rfl) (by kernel_rfl)) ?_
  intro W base args ds gs before hval0 hW hcnd _
  have hval : ∀ (j : Nat) t v, Try.f10.params[j]? = some t → args[j]? = some v → Value.okWide Try.prog W .any base t v := hval0
  have hW' := hW
  obtain ⟨p, q, hA0, hV, rfl, hfz, hnd⟩ := hW
  have hA : DataW.TrodAll enc Try.prog W 0 (fun _ => true) true Try.f10.params.toList args.toList ds p := hA0
  rw [show Try.f10.params = #[44, 44, 44] from by kernel_rfl] at hA hval
  obtain ⟨v0, vs0, d0, ds0, p0, q0, hargs, rfl, rfl, h0, r0⟩ := trodAll_cons hA
  obtain ⟨v1, vs1, d1, ds1, p1, q1, rfl, rfl, rfl, h1, r1⟩ := trodAll_cons r0
  obtain ⟨v2, vs2, d2, ds2, p2, q2, rfl, rfl, rfl, h2, r2⟩ := trodAll_cons r1
  obtain ⟨rfl, rfl, rfl⟩ := trodAll_nil r2
  obtain rfl : args = #[v0, v1, v2] := by cases args; simp_all
  obtain ⟨rfl, rfl⟩ := trodVars_none hV
  have he : Try.prog.underlying 27 = some (.int .u64) := by kernel_rfl
  have hu0 : Try.prog.underlying 44 = some (.array 4 27) := by kernel_rfl
  obtain ⟨a, rfl, ra, rfl, sa⟩ := open_num4 hu0 he (by kernel_rfl) (by kernel_rfl) (hval 0 44 v0 rfl rfl) h0
  have hu1 : Try.prog.underlying 44 = some (.array 4 27) := by kernel_rfl
  obtain ⟨b, rfl, rb, rfl, sb⟩ := open_num4 hu1 he (by kernel_rfl) (by kernel_rfl) (hval 1 44 v1 rfl rfl) h1
  have hu2 : Try.prog.underlying 44 = some (.array 4 27) := by kernel_rfl
  obtain ⟨c, rfl, rc, rfl, sc⟩ := open_num4 hu2 he (by kernel_rfl) (by kernel_rfl) (hval 2 44 v2 rfl rfl) h2
  clear hA0 hval0
  simp only [List.append_nil] at hW'
  refine (walk a b c ra rb rc W).mono fun e W' ⟨he', hg⟩ => ?_
  subst he'
  exact ⟨_, rfl, post_of_below (pa := []) (pv := []) hW' (fun _ _ _ => trodAll_cons_mk (shut_bool (by kernel_rfl) _) trodAll_mk0) (fun sp _ => trodAll_cons_mk (sa _ _ _ _) (trodAll_cons_mk (sb _ _ _ _) (trodAll_cons_mk (sc _ _ _ _) trodAll_mk0))) (fun _ _ => rfl) rfl hg (ok_one (t := 4) (by kernel_rfl) rfl (okWide_bool_mk (t := 4) (by kernel_rfl) _))⟩
theorem over : Rows.shareInsRow.holds Try.pinned (OpenSpec.ofChange Rows.shareInsSpec) :=
  OpenClaim.holds_of_wide 10 Try.f10 rfl rfl rfl rfl rfl rfl rfl ⟨rfl, rfl, rfl, rfl, rfl⟩ rfl rfl rfl rfl rfl (by kernel_rfl) Try.func10 (by kernel_rfl)
    (of_decide_eq_true (by kernel_rfl)) (by unfold Func.isWrapper; first | (rw [if_pos (by decide +kernel)]; kernel_rfl) | (rw [if_neg (by decide +kernel)]; exact ⟨rfl, rfl⟩))
    (fun os started H enc _ => lifted os started H enc)
theorem proved : Rows.ShareInsSaid := over
#print axioms proved
end Go.Proofs.Ytohkmdnelbajiaa.shareIns

