/- The card of the law SpentPlays holds: for every input it returns true, and its arguments read behind the call as they read before; the listed package variables are tied to the program's text. No condition beyond the row's own. -/
import Derived.Test.YtmepmbekkbhecaaDoorTie
import Derived.Test.YtmepmbekkbhecaaDoorCards
import Derived.WalkKit
import Derived.ProofKit
import Derived.OpenShut
import Derived.LaidMore
import Derived.Lay
import Derived.SevenTiedAt
import Derived.Stop.Joined
import Derived.Lib.LaidTab
import Derived.Stop.LaidErr
import Derived.Test.YtmepmbekkbhecaaDoorF1
import Derived.Test.YtmepmbekkbhecaaDoorL18PlaysC2
set_option linter.unusedVariables false
set_option linter.unusedSimpArgs false
namespace Go.Proofs.YtmepmbekkbhecaaDoor.spentPlays
open Go.ChangeShapes Go.WideShapes Go.ChangeAt Go.RowKit Go.Sx

theorem own : ownKnob Tryd.prog.godebug = none := by kernel_rfl
theorem laidOut : laidOutB Tryd.prog = true := by kernel_rfl
set_option maxRecDepth 100000 in
theorem lifted (os : Os) (started : os.Started) (H : Type) (enc : TypeId × Value → H) :
    ReturnsInHanded {} Tryd.checked os 4 .any (fun w args => (Rows.spentPlaysSpec.pre enc Tryd.prog Tryd.f4 Rows.spentPlaysRow.domain false w args ∧ laidMetH Tryd.prog Rows.spentPlaysRow.laid w) ∧ sizedMet enc Tryd.prog Tryd.f4 (OpenSpec.ofChange Rows.spentPlaysSpec) false w args)
      (Rows.spentPlaysSpec.post enc Tryd.prog Tryd.f4 false true false false) := by
  refine returnsInHanded_of_change_and (C := Tryd.checked) (X := fun w _ => laidMetH Tryd.prog Rows.spentPlaysRow.laid w) (fun _ _ _ hh h => h.of_heap hh) own started (by kernel_rfl) Tryd.func4
    (ChangeSpec.witness_shaped (enc := enc) (C := Tryd.checked) (os := os) (X := fun w _ => laidMetH Tryd.prog Rows.spentPlaysRow.laid w) false (World.laidAll Tryd.prog os Rows.spentPlaysRow.laid) #[.slice none 0 0, .int .u32 0, .int .u32 0, .int .i64 0] 12 (World.laidAll_os _ _ _)
      (World.shaped_of_ZipB (by kernel_rfl) (by kernel_rfl)) (by kernel_rfl) (by kernel_rfl) (by kernel_rfl)
      (by rw [MakeChecks.laidMetH_plain _ _ _ (by kernel_rfl)]; exact laidMet_laidAll _ (by kernel_rfl) (by kernel_rfl))) ?_
  intro W base args ds gs before hval0 hW hcnd _ hLaid _
  have hL := hLaid
  rw [MakeChecks.laidMetH_plain _ _ _ (by kernel_rfl)] at hL
  have hL0 : laidMet Tryd.prog (("math/bits.deBruijn64tab", Go.Lib.tabData .u8 tzT) :: []) W := hL
  have hT0 : Tab W 0 .u8 tzT := fun i hi => (Go.Lib.tabIs_of_head (g := 0) (n := 64) (t := 80) (e := 5) (by kernel_rfl) (by kernel_rfl) (by kernel_rfl) (by kernel_rfl) (by kernel_rfl) (by kernel_rfl) hL0).cell (by kernel_rfl) i hi
  have hval : ∀ (j : Nat) t v, Tryd.f4.params[j]? = some t → args[j]? = some v → Value.okWide Tryd.prog W .any base t v := hval0
  have hW' := hW
  obtain ⟨p, q, hA0, hV, rfl, hfz, hnd⟩ := hW
  have hA : DataW.TrodAll enc Tryd.prog W 0 (fun _ => true) true Tryd.f4.params.toList args.toList ds p := hA0
  rw [show Tryd.f4.params = #[39, 23, 23, 3] from by kernel_rfl] at hA hval
  obtain ⟨v0, vs0, d0, ds0, p0, q0, hargs, rfl, rfl, h0, r0⟩ := trodAll_cons hA
  obtain ⟨v1, vs1, d1, ds1, p1, q1, rfl, rfl, rfl, h1, r1⟩ := trodAll_cons r0
  obtain ⟨v2, vs2, d2, ds2, p2, q2, rfl, rfl, rfl, h2, r2⟩ := trodAll_cons r1
  obtain ⟨v3, vs3, d3, ds3, p3, q3, rfl, rfl, rfl, h3, r3⟩ := trodAll_cons r2
  obtain ⟨rfl, rfl, rfl⟩ := trodAll_nil r3
  obtain rfl : args = #[v0, v1, v2, v3] := by cases args; simp_all
  obtain ⟨rfl, rfl⟩ := trodVars_none hV
  have c0 : v0.cells = #[v0] := slice_cells (e := 41) (by kernel_rfl) (hval 0 39 v0 rfl rfl)
  obtain ⟨xs0, sl0, ml0⟩ := open_slice (e := 41) (n := 2) (by kernel_rfl) (by kernel_rfl) (by decide) (Go.Proofs.Tryd.opens41) h0 c0
  obtain ⟨z1, rfl, e1, f1, w1⟩ := open_int (k := .u32) (by kernel_rfl) (hval 1 23 v1 rfl rfl) h1
  obtain ⟨z2, rfl, e2, f2, w2⟩ := open_int (k := .u32) (by kernel_rfl) (hval 2 23 v2 rfl rfl) h2
  obtain ⟨z3, rfl, e3, f3, w3⟩ := open_int (k := .i64) (by kernel_rfl) (hval 3 3 v3 rfl rfl) h3
  clear hA0 hval0
  have hlen : ∀ t ∈ Tryd.f4.params.toList, Tryd.prog.readableRec t = true ∧ t < Tryd.prog.types.size := by
    rw [show Tryd.f4.params = #[39, 23, 23, 3] from by kernel_rfl]
    intro t ht
    simp only [List.mem_cons, List.not_mem_nil, or_false] at ht
    rcases ht with rfl | rfl | rfl | rfl
    all_goals exact ⟨by kernel_rfl, of_decide_eq_true (by kernel_rfl)⟩
  refine (CallT.below (Go.Proofs.law18_SpentPlays W v0 z1 z2 z3 xs0 w1 w2 w3 hT0 sl0 ml0)).mono fun e W' hh => ?_
  obtain ⟨_, _, he', hg⟩ := hh
  subst he'
  exact ⟨_, rfl, post_of_below2 laidOut hlen hW' (fun _ _ _ => trodAll_cons_mk (shut_bool (by kernel_rfl) _) trodAll_mk0) rfl rfl rfl hg⟩
theorem over : Rows.SpentPlaysSaid :=
  OpenClaim.holds_of_wide 4 Tryd.f4 rfl rfl rfl rfl rfl rfl rfl ⟨rfl, rfl, rfl, rfl, rfl⟩ rfl rfl rfl rfl rfl (by kernel_rfl) Tryd.func4 (by kernel_rfl)
    (of_decide_eq_true (by kernel_rfl)) (by unfold Func.isWrapper; first | (rw [if_pos (by decide +kernel)]; kernel_rfl) | (rw [if_neg (by decide +kernel)]; exact ⟨rfl, rfl⟩))
    (fun os started H enc _ => lifted os started H enc)
theorem proved : Rows.SpentPlaysCardSaid :=
  Claim7.holds_tied_plain_at .later [] [.data] true (true, "f962f972055f60704dfc6e0c728a15c27c47b20fe8128adcb49a1d16f7d3e19c") true over (fun _ h => by cases h) (by kernel_rfl) (fun _ h => by cases h) spentPlays_row_tie rfl ⟨rfl, rfl⟩ (by kernel_rfl) rfl
    (fun f fn hf hfn => by
      obtain rfl : f = 4 := Option.some.inj ((show Tryd.prog.funcNamed "sponsion/sponsionlaw18.SpentPlays" = some 4 by kernel_rfl).symm.trans hf) |>.symm
      obtain rfl : fn = Tryd.f4 := (Option.some.inj (Tryd.func4.symm.trans hfn)).symm
      exact ⟨by kernel_rfl, fun j t ht => by
        rw [show Tryd.f4.params = #[39, 23, 23, 3] from by kernel_rfl] at ht
        have hm : t ∈ [39, 23, 23, 3] := by simpa using Array.mem_of_getElem? ht
        have hall : ([39, 23, 23, 3].all fun u => !Tryd.prog.wantsStandIn u) = true := by kernel_rfl
        exact (show Tryd.prog.wantsStandIn t = false by simpa using List.all_eq_true.1 hall t hm)⟩)
    (by kernel_rfl)
#print axioms proved
end Go.Proofs.YtmepmbekkbhecaaDoor.spentPlays

