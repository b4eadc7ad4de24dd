/- The card of the law TicketPlays holds: for every input it returns true, and its arguments read behind the call as they read before; the listed package variables are tied to the program's text. No condition beyond the row's own. -/
import Derived.Test.YtbdfepjommajhaaDoorTie
import Derived.Test.YtbdfepjommajhaaDoorCards
import Derived.WalkKit
import Derived.ProofKit
import Derived.OpenShut
import Derived.LaidMore
import Derived.Lay
import Derived.SevenTiedAt
import Derived.Stop.Joined
import Derived.Lib.LaidTab
import Derived.Stop.LaidErr
import Derived.Test.YtbdfepjommajhaaDoorF1
import Derived.Test.YtbdfepjommajhaaDoorL22PlaysC3
set_option linter.unusedVariables false
set_option linter.unusedSimpArgs false
namespace Go.Proofs.YtbdfepjommajhaaDoor.ticketPlays
open Go.ChangeShapes Go.WideShapes Go.ChangeAt Go.RowKit Go.Sx

theorem own : ownKnob Tryd.prog.godebug = none := by kernel_rfl
theorem laidOut : laidOutB Tryd.prog = true := by kernel_rfl
set_option maxRecDepth 100000 in
theorem lifted (os : Os) (started : os.Started) (H : Type) (enc : TypeId × Value → H) :
    ReturnsInHanded {} Tryd.checked os 4 .any (fun w args => (Rows.ticketPlaysSpec.pre enc Tryd.prog Tryd.f4 Rows.ticketPlaysRow.domain false w args ∧ laidMetH Tryd.prog Rows.ticketPlaysRow.laid w) ∧ sizedMet enc Tryd.prog Tryd.f4 (OpenSpec.ofChange Rows.ticketPlaysSpec) false w args)
      (Rows.ticketPlaysSpec.post enc Tryd.prog Tryd.f4 false true false false) := by
  refine returnsInHanded_of_change_and (C := Tryd.checked) (X := fun w _ => laidMetH Tryd.prog Rows.ticketPlaysRow.laid w) (fun _ _ _ hh h => h.of_heap hh) own started (by kernel_rfl) Tryd.func4
    (ChangeSpec.witness_shaped (enc := enc) (C := Tryd.checked) (os := os) (X := fun w _ => laidMetH Tryd.prog Rows.ticketPlaysRow.laid w) false (World.laidAll Tryd.prog os Rows.ticketPlaysRow.laid) #[.slice none 0 0, .agg #[.int .u32 0, .int .u8 0, .int .u8 0, .int .u64 0, .int .u64 0, .int .u64 0, .int .u64 0]] 12 (World.laidAll_os _ _ _)
      (World.shaped_of_ZipB (by kernel_rfl) (by kernel_rfl)) (by kernel_rfl) (by kernel_rfl) (by kernel_rfl)
      (by rw [MakeChecks.laidMetH_plain _ _ _ (by kernel_rfl)]; exact laidMet_laidAll _ (by kernel_rfl) (by kernel_rfl))) ?_
  intro W base args ds gs before hval0 hW hcnd _ hLaid _
  have hL := hLaid
  rw [MakeChecks.laidMetH_plain _ _ _ (by kernel_rfl)] at hL
  have hL0 : laidMet Tryd.prog (("sponsion/sponsionref05.rounds", Go.Lib.tabData .u32 shaK) :: [("sponsion/digest.begin", Rows.laid_sponsion_digest_begin), ("sponsion/digest.rounds", Rows.laid_sponsion_digest_rounds)]) W := hL
  have hT0 : Tab W 2 .u32 shaK := fun i hi => (Go.Lib.tabIs_of_head (g := 2) (n := 64) (t := 137) (e := 30) (by kernel_rfl) (by kernel_rfl) (by kernel_rfl) (by kernel_rfl) (by kernel_rfl) (by kernel_rfl) hL0).cell (by kernel_rfl) i hi
  have hL1 : laidMet Tryd.prog (("sponsion/digest.begin", Go.Lib.tabData .u32 shaH) :: [("sponsion/digest.rounds", Rows.laid_sponsion_digest_rounds)]) W := laidMet.tail hL0
  have hT1 : Tab W 1 .u32 shaH := fun i hi => (Go.Lib.tabIs_of_head (g := 1) (n := 8) (t := 132) (e := 30) (by kernel_rfl) (by kernel_rfl) (by kernel_rfl) (by kernel_rfl) (by kernel_rfl) (by kernel_rfl) hL1).cell (by kernel_rfl) i hi
  have hL2 : laidMet Tryd.prog (("sponsion/digest.rounds", Go.Lib.tabData .u32 shaK) :: []) W := laidMet.tail hL1
  have hT2 : Tab W 3 .u32 shaK := fun i hi => (Go.Lib.tabIs_of_head (g := 3) (n := 64) (t := 137) (e := 30) (by kernel_rfl) (by kernel_rfl) (by kernel_rfl) (by kernel_rfl) (by kernel_rfl) (by kernel_rfl) hL2).cell (by kernel_rfl) i hi
  have hval : ∀ (j : Nat) t v, Tryd.f4.params[j]? = some t → args[j]? = some v → Value.okWide Tryd.prog W .any base t v := hval0
  have hW' := hW
  obtain ⟨p, q, hA0, hV, rfl, hfz, hnd⟩ := hW
  have hA : DataW.TrodAll enc Tryd.prog W 0 (fun _ => true) true Tryd.f4.params.toList args.toList ds p := hA0
  rw [show Tryd.f4.params = #[22, 35] from by kernel_rfl] at hA hval
  obtain ⟨v0, vs0, d0, ds0, p0, q0, hargs, rfl, rfl, h0, r0⟩ := trodAll_cons hA
  obtain ⟨v1, vs1, d1, ds1, p1, q1, rfl, rfl, rfl, h1, r1⟩ := trodAll_cons r0
  obtain ⟨rfl, rfl, rfl⟩ := trodAll_nil r1
  obtain rfl : args = #[v0, v1] := by cases args; simp_all
  obtain ⟨rfl, rfl⟩ := trodVars_none hV
  have c0 : v0.cells = #[v0] := slice_cells (e := 37) (by kernel_rfl) (hval 0 22 v0 rfl rfl)
  obtain ⟨xs0, sl0, ml0⟩ := open_slice (e := 37) (n := 11) (by kernel_rfl) (by kernel_rfl) (by decide) (Go.Proofs.Tryd.opens37) h0 c0
  obtain ⟨z1, rfl, g1⟩ := open_val (Go.Proofs.Tryd.opens35) (by kernel_rfl) (fun _ => ⟨_, rfl⟩) (fs := Tryd.prog.fieldsOf 35) (by kernel_rfl) (hval 1 35 v1 rfl rfl) h1
  clear hA0 hval0
  have hlen : ∀ t ∈ Tryd.f4.params.toList, Tryd.prog.readableRec t = true ∧ t < Tryd.prog.types.size := by
    rw [show Tryd.f4.params = #[22, 35] from by kernel_rfl]
    intro t ht
    simp only [List.mem_cons, List.not_mem_nil, or_false] at ht
    rcases ht with rfl | rfl
    all_goals exact ⟨by kernel_rfl, of_decide_eq_true (by kernel_rfl)⟩
  refine (CallT.below (Go.Proofs.law22_TicketPlays W v0 z1.1 z1.2.1 z1.2.2.1 z1.2.2.2 xs0 g1.2.2.2 hT1 hT2 hT0 sl0 ml0)).mono fun e W' hh => ?_
  obtain ⟨_, _, he', hg⟩ := hh
  subst he'
  exact ⟨_, rfl, post_of_below2 laidOut hlen hW' (fun _ _ _ => trodAll_cons_mk (shut_bool (by kernel_rfl) _) trodAll_mk0) rfl rfl rfl hg⟩
theorem over : Rows.TicketPlaysSaid :=
  OpenClaim.holds_of_wide 4 Tryd.f4 rfl rfl rfl rfl rfl rfl rfl ⟨rfl, rfl, rfl, rfl, rfl⟩ rfl rfl rfl rfl rfl (by kernel_rfl) Tryd.func4 (by kernel_rfl)
    (of_decide_eq_true (by kernel_rfl)) (by unfold Func.isWrapper; first | (rw [if_pos (by decide +kernel)]; kernel_rfl) | (rw [if_neg (by decide +kernel)]; exact ⟨rfl, rfl⟩))
    (fun os started H enc _ => lifted os started H enc)
theorem proved : Rows.TicketPlaysCardSaid :=
  Claim7.holds_tied_plain_at .later [] [.data, .data, .data] true (true, "8a4af9c78b2ee2d9438155693681017ddc5eed95bf681047fc32ea828eb200ed") true over (fun _ h => by cases h) (by kernel_rfl) (fun _ h => by cases h) ticketPlays_row_tie rfl ⟨rfl, rfl⟩ (by kernel_rfl) rfl
    (fun f fn hf hfn => by
      obtain rfl : f = 4 := Option.some.inj ((show Tryd.prog.funcNamed "sponsion/sponsionlaw22.TicketPlays" = some 4 by kernel_rfl).symm.trans hf) |>.symm
      obtain rfl : fn = Tryd.f4 := (Option.some.inj (Tryd.func4.symm.trans hfn)).symm
      exact ⟨by kernel_rfl, fun j t ht => by
        rw [show Tryd.f4.params = #[22, 35] from by kernel_rfl] at ht
        have hm : t ∈ [22, 35] := by simpa using Array.mem_of_getElem? ht
        have hall : ([22, 35].all fun u => !Tryd.prog.wantsStandIn u) = true := by kernel_rfl
        exact (show Tryd.prog.wantsStandIn t = false by simpa using List.all_eq_true.1 hall t hm)⟩)
    (by kernel_rfl)
#print axioms proved
end Go.Proofs.YtbdfepjommajhaaDoor.ticketPlays

