/- The card of the law ClaimWindow holds: for every input it returns true, and its arguments read behind the call as they read before; the listed package variables are tied to the program's text. No condition beyond the row's own. -/
import Derived.Test.YtffolbpofidlkaaGreatDoorTie
import Derived.Test.YtffolbpofidlkaaGreatDoorCards
import Derived.WalkKit
import Derived.ProofKit
import Derived.OpenShut
import Derived.LaidMore
import Derived.Lay
import Derived.SevenTiedAt
import Derived.Stop.Joined
import Derived.Lib.LaidTab
import Derived.Stop.LaidErr
import Derived.Test.YtffolbpofidlkaaGreatDoorF2
import Derived.Test.YtffolbpofidlkaaGreatDoorL24WindowC3
set_option linter.unusedVariables false
set_option linter.unusedSimpArgs false
namespace Go.Proofs.YtffolbpofidlkaaGreatDoor.claimWindow
open Go.ChangeShapes Go.WideShapes Go.ChangeAt Go.RowKit Go.Sx

theorem own : ownKnob Tryz.prog.godebug = none := by kernel_rfl
theorem Qbp : laidOutB Tryz.prog = true := by kernel_rfl
set_option maxRecDepth 100000 in
theorem Qcr (os : Os) (started : os.Started) (H : Type) (enc : TypeId × Value → H) :
    ReturnsInHanded {} Tryz.checked os 3 .any (fun w args => (Rows.claimWindowSpec.pre enc Tryz.prog Tryz.f3 Rows.claimWindowRow.domain false w args ∧ laidMetH Tryz.prog Rows.claimWindowRow.laid w) ∧ sizedMet enc Tryz.prog Tryz.f3 (OpenSpec.ofChange Rows.claimWindowSpec) false w args)
      (Rows.claimWindowSpec.post enc Tryz.prog Tryz.f3 false true false false) := by
  refine returnsInHanded_of_change_and (C := Tryz.checked) (X := fun w _ => laidMetH Tryz.prog Rows.claimWindowRow.laid w) (fun _ _ _ hh h => h.of_heap hh) own started (by kernel_rfl) Tryz.func3
    (ChangeSpec.witness_shaped (enc := enc) (C := Tryz.checked) (os := os) (X := fun w _ => laidMetH Tryz.prog Rows.claimWindowRow.laid w) false (World.laidAll Tryz.prog os Rows.claimWindowRow.laid) #[.int .i64 0, .int .u8 0, .int .u8 0, .int .u64 0, .int .u64 0] 12 (World.laidAll_os _ _ _)
      (World.shaped_of_ZipB (by kernel_rfl) (by kernel_rfl)) (by kernel_rfl) (by kernel_rfl) (by kernel_rfl)
      (by rw [MakeChecks.laidMetH_plain _ _ _ (by kernel_rfl)]; exact laidMet_laidAll _ (by kernel_rfl) (by kernel_rfl))) ?_
  intro W base args ds gs before hval0 hW hcnd _ hLaid _
  have hL := hLaid
  rw [MakeChecks.laidMetH_plain _ _ _ (by kernel_rfl)] at hL
  have hL0 : laidMet Tryz.prog (("sponsion/digest.begin", Go.Lib.tabData .u32 YZ) :: [("sponsion/digest.rounds", Rows.laid_sponsion_digest_rounds)]) W := hL
  have hT0 : YS W 0 .u32 YZ := fun i hi => (Go.Lib.tabIs_of_head (g := 0) (n := 8) (t := 210) (e := 28) (by kernel_rfl) (by kernel_rfl) (by kernel_rfl) (by kernel_rfl) (by kernel_rfl) (by kernel_rfl) hL0).cell (by kernel_rfl) i hi
  have hL1 : laidMet Tryz.prog (("sponsion/digest.rounds", Go.Lib.tabData .u32 Qy) :: []) W := laidMet.tail hL0
  have hT1 : YS W 2 .u32 Qy := fun i hi => (Go.Lib.tabIs_of_head (g := 2) (n := 64) (t := 216) (e := 28) (by kernel_rfl) (by kernel_rfl) (by kernel_rfl) (by kernel_rfl) (by kernel_rfl) (by kernel_rfl) hL1).cell (by kernel_rfl) i hi
  have hval : ∀ (j : Nat) t v, Tryz.f3.params[j]? = some t → args[j]? = some v → Value.okWide Tryz.prog W .any base t v := hval0
  have hW' := hW
  obtain ⟨p, q, hA0, hV, rfl, hfz, hnd⟩ := hW
  have hA : DataW.TrodAll enc Tryz.prog W 0 (fun _ => true) true Tryz.f3.params.toList args.toList ds p := hA0
  rw [show Tryz.f3.params = #[3, 5, 5, 22, 22] from by kernel_rfl] at hA hval
  obtain ⟨v0, vs0, d0, ds0, p0, q0, hargs, rfl, rfl, h0, r0⟩ := trodAll_cons hA
  obtain ⟨v1, vs1, d1, ds1, p1, q1, rfl, rfl, rfl, h1, r1⟩ := trodAll_cons r0
  obtain ⟨v2, vs2, d2, ds2, p2, q2, rfl, rfl, rfl, h2, r2⟩ := trodAll_cons r1
  obtain ⟨v3, vs3, d3, ds3, p3, q3, rfl, rfl, rfl, h3, r3⟩ := trodAll_cons r2
  obtain ⟨v4, vs4, d4, ds4, p4, q4, rfl, rfl, rfl, h4, r4⟩ := trodAll_cons r3
  obtain ⟨rfl, rfl, rfl⟩ := trodAll_nil r4
  obtain rfl : args = #[v0, v1, v2, v3, v4] := by cases args; simp_all
  obtain ⟨rfl, rfl⟩ := trodVars_none hV
  obtain ⟨z0, rfl, e0, f0, w0⟩ := open_int (k := .i64) (by kernel_rfl) (hval 0 3 v0 rfl rfl) h0
  obtain ⟨z1, rfl, e1, f1, w1⟩ := open_int (k := .u8) (by kernel_rfl) (hval 1 5 v1 rfl rfl) h1
  obtain ⟨z2, rfl, e2, f2, w2⟩ := open_int (k := .u8) (by kernel_rfl) (hval 2 5 v2 rfl rfl) h2
  obtain ⟨z3, rfl, e3, f3, w3⟩ := open_int (k := .u64) (by kernel_rfl) (hval 3 22 v3 rfl rfl) h3
  obtain ⟨z4, rfl, e4, f4, w4⟩ := open_int (k := .u64) (by kernel_rfl) (hval 4 22 v4 rfl rfl) h4
  clear hA0 hval0
  have hlen : ∀ t ∈ Tryz.f3.params.toList, Tryz.prog.readableRec t = true ∧ t < Tryz.prog.types.size := by
    rw [show Tryz.f3.params = #[3, 5, 5, 22, 22] from by kernel_rfl]
    intro t ht
    simp only [List.mem_cons, List.not_mem_nil, or_false] at ht
    rcases ht with rfl | rfl | rfl | rfl | rfl
    all_goals exact ⟨by kernel_rfl, of_decide_eq_true (by kernel_rfl)⟩
  refine (Qs.below (Go.Proofs.law24_ClaimWindow W z0 z1 z2 z3 z4 w0 w1 w2 w3 w4 hT0 hT1)).mono fun e W' hh => ?_
  obtain ⟨_, _, he', hg⟩ := hh
  subst he'
  exact ⟨_, rfl, xV Qbp hlen hW' (fun _ _ _ => trodAll_cons_mk (shut_bool (by kernel_rfl) _) trodAll_mk0) rfl rfl rfl hg⟩
theorem over : Rows.ClaimWindowSaid :=
  OpenClaim.holds_of_wide 3 Tryz.f3 rfl rfl rfl rfl rfl rfl rfl ⟨rfl, rfl, rfl, rfl, rfl⟩ rfl rfl rfl rfl rfl (by kernel_rfl) Tryz.func3 (by kernel_rfl)
    (of_decide_eq_true (by kernel_rfl)) (by unfold Func.isWrapper; first | (rw [if_pos (by decide +kernel)]; kernel_rfl) | (rw [if_neg (by decide +kernel)]; exact ⟨rfl, rfl⟩))
    (fun os started H enc _ => Qcr os started H enc)
theorem proved : Rows.ClaimWindowCardSaid :=
  Claim7.holds_tied_plain_at .later [] [.data, .data] true (true, "8ca59c0d34494273a37660ad33b69d7d1557b58a31ca3eb3d05c2160b9da5550") false over (fun _ h => by cases h) (by kernel_rfl) (fun _ h => by cases h) claimWindow_row_tie rfl ⟨rfl, rfl⟩ (by kernel_rfl) rfl
    (fun f fn hf hfn => by
      obtain rfl : f = 3 := Option.some.inj ((show Tryz.prog.funcNamed "sponsion/sponsionlaw24.ClaimWindow" = some 3 by kernel_rfl).symm.trans hf) |>.symm
      obtain rfl : fn = Tryz.f3 := (Option.some.inj (Tryz.func3.symm.trans hfn)).symm
      exact ⟨by kernel_rfl, fun j t ht => by
        rw [show Tryz.f3.params = #[3, 5, 5, 22, 22] from by kernel_rfl] at ht
        have hm : t ∈ [3, 5, 5, 22, 22] := by simpa using Array.mem_of_getElem? ht
        have hall : ([3, 5, 5, 22, 22].all fun u => !Tryz.prog.wantsStandIn u) = true := by kernel_rfl
        exact (show Tryz.prog.wantsStandIn t = false by simpa using List.all_eq_true.1 hall t hm)⟩)
    (by kernel_rfl)
#print axioms proved
end Go.Proofs.YtffolbpofidlkaaGreatDoor.claimWindow

