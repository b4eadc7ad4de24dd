/- Contracts of this program's functions, and their proofs, printed by a program of the prover's own (see the claim's other texts for what the words mean). -/
import Derived.Test.YtohkmdnelbajiaaL16KeepsC2
set_option linter.unusedVariables false
set_option linter.unusedSimpArgs false
namespace Go.Proofs
open Go.Sx
set_option maxRecDepth 100000 in
set_option maxHeartbeats 4000000 in
theorem wide_Divide (n : Int) (d : Int) (r_n : R8 n) (r_d : R4 d) : CallT Try.prog 32 #[vW n, vI d] [] (Int × Int × Int) (fun zx => .tuple #[vW zx.1, vI zx.2.1, .int .i64 zx.2.2]) (fun zx => []) (fun zx => (R8 zx.1 ∧ R4 zx.2.1 ∧ zx = wDiv (num (vW n)) (num (vI d)))) := by
  refine call_of (c := bodyOf Try.f32) (n := 83) (fn := Try.f32) Try.mixed Try.func32 (by kernel_rfl) (by kernel_rfl) (by kernel_rfl) 2000 _ [.rd 2, .rd 2, .rd 2, .rd 2, .rd 2, .rd 2, .rd 2, .rd 2, .rd 3, .rd 3, .rd 3, .rd 3] [] rfl rfl (Eq.mpr (wide_Divide_vc n d) ?_)
  intro b1
  intro b2
  intro b3
  intro b4
  refine ⟨rfl, rfl, rfl, rfl, rfl, rfl, rfl, ?_⟩
  refine ⟨fun h1 => ?_, fun h1 => ?_⟩
  · refine ⟨rfl, rfl, rfl, rfl, rfl, rfl, rfl, ?_⟩
    refine ⟨fun h2 => ?_, fun h2 => ?_⟩
    · refine ⟨rfl, rfl, rfl, rfl, rfl, rfl, rfl, ?_⟩
      refine ⟨fun h3 => ?_, fun h3 => ?_⟩
      · refine ⟨rfl, rfl, rfl, rfl, rfl, rfl, rfl, ?_⟩
        refine ⟨fun h4 => ?_, fun h4 => ?_⟩
        · refine ⟨rfl, rfl, rfl, rfl, rfl, ?_⟩
          refine ⟨rfl, ?_⟩
          refine ⟨rfl, ?_⟩
          refine ⟨rfl, rfl, rfl, rfl, rfl, rfl, rfl, rfl, rfl, rfl, rfl, rfl, rfl, rfl, rfl, rfl, rfl, rfl, rfl, rfl, rfl, rfl, rfl, rfl, rfl, rfl, rfl, rfl, rfl, rfl, rfl, rfl, rfl, rfl, rfl, rfl, rfl, rfl, rfl, rfl, rfl, rfl, rfl, rfl, rfl, rfl, rfl, rfl, ?_⟩
          refine ⟨rfl, rfl, rfl, rfl, rfl, rfl, rfl, rfl, rfl, rfl, rfl, rfl, rfl, rfl, rfl, rfl, rfl, rfl, rfl, rfl, rfl, rfl, rfl, rfl, ?_⟩
          have hd : d = 0 := by
            have e := lims d
            rw [num_vI r_d] at e
            simp only [beq_iff_eq] at *
            omega
          exact fin3 (by rw [num_vI r_d, hd]; rfl) ⟨by decide, by decide⟩ R4_zero vW_zero vI_zero
        · refine ⟨rfl, ?_⟩
          refine ⟨rfl, rfl, limb_Len (lim d 0) (by first | assumption | exact W_lim _ _ | (unfold W; decide)), ⟨(), trivial⟩, ?_⟩
          intro _
          intro _
          refine ⟨⟨(), trivial, congrArg (Value.int .i64) (nrm_s (W_lim _ _) (by assumption))⟩, ?_⟩
          intro _
          intro _
          intro b5
          intro b6
          refine ⟨wide_up98 b5 b1 (lim n 0) (lim n 1) (lim n 2) (lim n 3) (lim n 4) (lim n 5) (lim n 6) (lim n 7) ((nrm (lim d 0) : Nat) : Int) (nrm_0 _) (nrm_63 (W_lim _ _) (by assumption)) (W_lim _ _) (W_lim _ _) (W_lim _ _) (W_lim _ _) (W_lim _ _) (W_lim _ _) (W_lim _ _) (W_lim _ _), wit_up98 (nrm_0 _) (nrm_63 (W_lim _ _) (by assumption)) (W_lim _ _) (W_lim _ _) (W_lim _ _) (W_lim _ _) (W_lim _ _) (W_lim _ _) (W_lim _ _) (W_lim _ _), ?_⟩
          intro x7
          intro h5
          obtain ⟨E, wx0, wx1, wx2, wx3, wx4, wx5, wx6, wx7, wx8⟩ := h5
          refine ⟨wide_up1 b6 b2 (lim d 0) (lim d 1) (lim d 2) (lim d 3) ((nrm (lim d 0) : Nat) : Int) (nrm_0 _) (nrm_63 (W_lim _ _) (by assumption)) (W_lim _ _), wit_up1 (nrm_0 _) (nrm_63 (W_lim _ _) (by assumption)) (W_lim _ _), ?_⟩
          intro x8
          intro h6
          obtain ⟨F, wz0⟩ := h6
          obtain ⟨N1, N2, N3⟩ := norm1 (W_lim _ _) (by assumption) wz0  F
          obtain ⟨p, q, hp', hq', hp, hq, hpq, hp2, ht, h0, e1, e2⟩ := nrm_top (W_lim d 0) (by assumption)
          have n63 := nrm_63 (W_lim d 0) (by assumption)
          rw [e1, lims8 r_n] at E
          rw [← hp'] at N1
          have hVk : x8 < 18446744073709551616 := by unfold W at wz0; omega
          have V0 : 0 < x8 := by omega
          have hlt7 := first1 r_n hp hp2 wx0 wx1 wx2 wx3 wx4 wx5 wx6 wx7 wx8 E N2
          refine ⟨rfl, ?_⟩
          refine ⟨wide_step1 b5 (#[.int .u64 x7.1, .int .u64 x7.2.1, .int .u64 x7.2.2.1, .int .u64 x7.2.2.2.1, .int .u64 x7.2.2.2.2.1, .int .u64 x7.2.2.2.2.2.1, .int .u64 x7.2.2.2.2.2.2.1, .int .u64 x7.2.2.2.2.2.2.2.1, .int .u64 x7.2.2.2.2.2.2.2.2]) 7 2 x7.2.2.2.2.2.2.2.1 x7.2.2.2.2.2.2.2.2 b6 x8 (Nat.le_of_ble_eq_true rfl) (rfl) (rfl) (by assumption) (by assumption) (by assumption) (hlt7) (N3), wit_step1 (nn2 (by assumption) (by assumption)) hlt7 V0 hVk, ?_⟩
          intro x9
          intro h7
          obtain ⟨h7, h7_0, h7_1⟩ := h7
          have A7 := h7.eq
          obtain ⟨hu6, hlt6⟩ := next1 (x := x7.2.2.2.2.2.2.1) h7 wx6 h7_0 h7_1 hVk
          have wqh7 := h7.wq
          refine ⟨rfl, rfl, ?_⟩
          refine ⟨rfl, ?_⟩
          refine ⟨wide_step1 b5 (#[.int .u64 x7.1, .int .u64 x7.2.1, .int .u64 x7.2.2.1, .int .u64 x7.2.2.2.1, .int .u64 x7.2.2.2.2.1, .int .u64 x7.2.2.2.2.2.1, .int .u64 x7.2.2.2.2.2.2.1, .int .u64 x9.2.1, .int .u64 x9.2.2]) 6 3 x7.2.2.2.2.2.2.1 x9.2.1 b6 x8 (Nat.le_of_ble_eq_true rfl) (rfl) (rfl) (by assumption) (by assumption) (by assumption) (hlt6) (N3), wit_step1 (nn2 (by assumption) (by assumption)) hlt6 V0 hVk, ?_⟩
          intro x10
          intro h8
          obtain ⟨h8, h8_0, h8_1⟩ := h8
          rw [hu6] at h8
          have A6 := chain_step A7 h8
          obtain ⟨hu5, hlt5⟩ := next1 (x := x7.2.2.2.2.2.1) h8 wx5 h8_0 h8_1 hVk
          have wqh8 := h8.wq
          refine ⟨rfl, rfl, ?_⟩
          refine ⟨rfl, ?_⟩
          refine ⟨wide_step1 b5 (#[.int .u64 x7.1, .int .u64 x7.2.1, .int .u64 x7.2.2.1, .int .u64 x7.2.2.2.1, .int .u64 x7.2.2.2.2.1, .int .u64 x7.2.2.2.2.2.1, .int .u64 x10.2.1, .int .u64 x10.2.2, .int .u64 x9.2.2]) 5 4 x7.2.2.2.2.2.1 x10.2.1 b6 x8 (Nat.le_of_ble_eq_true rfl) (rfl) (rfl) (by assumption) (by assumption) (by assumption) (hlt5) (N3), wit_step1 (nn2 (by assumption) (by assumption)) hlt5 V0 hVk, ?_⟩
          intro x11
          intro h9
          obtain ⟨h9, h9_0, h9_1⟩ := h9
          rw [hu5] at h9
          have A5 := chain_step A6 h9
          obtain ⟨hu4, hlt4⟩ := next1 (x := x7.2.2.2.2.1) h9 wx4 h9_0 h9_1 hVk
          have wqh9 := h9.wq
          refine ⟨rfl, rfl, ?_⟩
          refine ⟨rfl, ?_⟩
          refine ⟨wide_step1 b5 (#[.int .u64 x7.1, .int .u64 x7.2.1, .int .u64 x7.2.2.1, .int .u64 x7.2.2.2.1, .int .u64 x7.2.2.2.2.1, .int .u64 x11.2.1, .int .u64 x11.2.2, .int .u64 x10.2.2, .int .u64 x9.2.2]) 4 5 x7.2.2.2.2.1 x11.2.1 b6 x8 (Nat.le_of_ble_eq_true rfl) (rfl) (rfl) (by assumption) (by assumption) (by assumption) (hlt4) (N3), wit_step1 (nn2 (by assumption) (by assumption)) hlt4 V0 hVk, ?_⟩
          intro x12
          intro h10
          obtain ⟨h10, h10_0, h10_1⟩ := h10
          rw [hu4] at h10
          have A4 := chain_step A5 h10
          obtain ⟨hu3, hlt3⟩ := next1 (x := x7.2.2.2.1) h10 wx3 h10_0 h10_1 hVk
          have wqh10 := h10.wq
          refine ⟨rfl, rfl, ?_⟩
          refine ⟨rfl, ?_⟩
          refine ⟨wide_step1 b5 (#[.int .u64 x7.1, .int .u64 x7.2.1, .int .u64 x7.2.2.1, .int .u64 x7.2.2.2.1, .int .u64 x12.2.1, .int .u64 x12.2.2, .int .u64 x11.2.2, .int .u64 x10.2.2, .int .u64 x9.2.2]) 3 6 x7.2.2.2.1 x12.2.1 b6 x8 (Nat.le_of_ble_eq_true rfl) (rfl) (rfl) (by assumption) (by assumption) (by assumption) (hlt3) (N3), wit_step1 (nn2 (by assumption) (by assumption)) hlt3 V0 hVk, ?_⟩
          intro x13
          intro h11
          obtain ⟨h11, h11_0, h11_1⟩ := h11
          rw [hu3] at h11
          have A3 := chain_step A4 h11
          obtain ⟨hu2, hlt2⟩ := next1 (x := x7.2.2.1) h11 wx2 h11_0 h11_1 hVk
          have wqh11 := h11.wq
          refine ⟨rfl, rfl, ?_⟩
          refine ⟨rfl, ?_⟩
          refine ⟨wide_step1 b5 (#[.int .u64 x7.1, .int .u64 x7.2.1, .int .u64 x7.2.2.1, .int .u64 x13.2.1, .int .u64 x13.2.2, .int .u64 x12.2.2, .int .u64 x11.2.2, .int .u64 x10.2.2, .int .u64 x9.2.2]) 2 7 x7.2.2.1 x13.2.1 b6 x8 (Nat.le_of_ble_eq_true rfl) (rfl) (rfl) (by assumption) (by assumption) (by assumption) (hlt2) (N3), wit_step1 (nn2 (by assumption) (by assumption)) hlt2 V0 hVk, ?_⟩
          intro x14
          intro h12
          obtain ⟨h12, h12_0, h12_1⟩ := h12
          rw [hu2] at h12
          have A2 := chain_step A3 h12
          obtain ⟨hu1, hlt1⟩ := next1 (x := x7.2.1) h12 wx1 h12_0 h12_1 hVk
          have wqh12 := h12.wq
          refine ⟨rfl, rfl, ?_⟩
          refine ⟨rfl, ?_⟩
          refine ⟨wide_step1 b5 (#[.int .u64 x7.1, .int .u64 x7.2.1, .int .u64 x14.2.1, .int .u64 x14.2.2, .int .u64 x13.2.2, .int .u64 x12.2.2, .int .u64 x11.2.2, .int .u64 x10.2.2, .int .u64 x9.2.2]) 1 8 x7.2.1 x14.2.1 b6 x8 (Nat.le_of_ble_eq_true rfl) (rfl) (rfl) (by assumption) (by assumption) (by assumption) (hlt1) (N3), wit_step1 (nn2 (by assumption) (by assumption)) hlt1 V0 hVk, ?_⟩
          intro x15
          intro h13
          obtain ⟨h13, h13_0, h13_1⟩ := h13
          rw [hu1] at h13
          have A1 := chain_step A2 h13
          obtain ⟨hu0, hlt0⟩ := next1 (x := x7.1) h13 wx0 h13_0 h13_1 hVk
          have wqh13 := h13.wq
          refine ⟨rfl, rfl, ?_⟩
          refine ⟨rfl, ?_⟩
          refine ⟨wide_step1 b5 (#[.int .u64 x7.1, .int .u64 x15.2.1, .int .u64 x15.2.2, .int .u64 x14.2.2, .int .u64 x13.2.2, .int .u64 x12.2.2, .int .u64 x11.2.2, .int .u64 x10.2.2, .int .u64 x9.2.2]) 0 9 x7.1 x15.2.1 b6 x8 (Nat.le_of_ble_eq_true rfl) (rfl) (rfl) (by assumption) (by assumption) (by assumption) (hlt0) (N3), wit_step1 (nn2 (by assumption) (by assumption)) hlt0 V0 hVk, ?_⟩
          intro x16
          intro h14
          obtain ⟨h14, h14_0, h14_1⟩ := h14
          rw [hu0] at h14
          have A0 := chain_step A1 h14
          have wqh14 := h14.wq
          refine ⟨rfl, rfl, ?_⟩
          refine ⟨rfl, ?_⟩
          refine ⟨rfl, ?_⟩
          refine ⟨rfl, rfl, xshr (by omega), rfl, rfl, ⟨(), trivial, congrArg (Value.int .i64) (wrap_i64 _ (by omega) (by omega))⟩, ?_⟩
          intro _
          intro _
          refine ⟨xshl (by omega), rfl, rfl, ?_⟩
          refine ⟨rfl, ?_⟩
          refine ⟨rfl, rfl, rfl, rfl, rfl, rfl, rfl, rfl, rfl, rfl, rfl, rfl, rfl, rfl, rfl, rfl, rfl, rfl, rfl, rfl, rfl, rfl, rfl, rfl, rfl, rfl, rfl, rfl, rfl, rfl, rfl, rfl, rfl, rfl, rfl, rfl, rfl, rfl, rfl, rfl, rfl, rfl, rfl, rfl, rfl, rfl, rfl, rfl, ?_⟩
          refine ⟨rfl, rfl, rfl, rfl, rfl, rfl, rfl, rfl, rfl, rfl, rfl, rfl, rfl, rfl, rfl, rfl, rfl, rfl, rfl, rfl, rfl, rfl, rfl, rfl, ?_⟩
          have hD : lim d 0 = d := by
            have e := lims d
            rw [num_vI r_d] at e
            simp only [beq_iff_eq, beq_eq_false_iff_ne] at *
            omega
          rw [hD] at N1
          have A : ((x16.1 + 18446744073709551616 * (x15.1 + 18446744073709551616 * (x14.1 + 18446744073709551616 * (x13.1 + 18446744073709551616 * (x12.1 + 18446744073709551616 * (x11.1 + 18446744073709551616 * (x10.1 + 18446744073709551616 * x9.1)))))))) * (x8) + (x16.2.1 + 18446744073709551616 * x16.2.2) = n * p := by rw [← E]; rw [A0]; omega
          obtain ⟨G1, G2, G3⟩ := div_end A N1 h14.r0 h14.r1 hp
          have G4 := rest1 hp hq hpq hVk h14_0 h14_1 G2 h14.r1
          have c0 := down_or (x := x16.2.1) (y := x16.2.2) (s := ((nrm (lim d 0) : Nat) : Int)) (nrm_0 _) (nrm_63 (W_lim _ _) (by assumption)) h14_0 h14_1
          rw [e1, e2] at c0
          have cw0 := down_W (y := x16.2.2) hp hq hpq h14_0
          have W0 : W 0 := by unfold W; decide
          have Hq : num (.agg #[.int .u64 x16.1, .int .u64 x15.1, .int .u64 x14.1, .int .u64 x13.1, .int .u64 x12.1, .int .u64 x11.1, .int .u64 x10.1, .int .u64 x9.1]) = n / d := by rw [G1, num8]; omega
          have Hr : num (.agg #[.int .u64 (x16.2.1 / p + x16.2.2 * q % 18446744073709551616), .int .u64 0, .int .u64 0, .int .u64 0]) = n % d := by rw [← G4, num4]; omega
          have Hv := vW_num8 (show W x16.1 by first | assumption | exact W0) (show W x15.1 by first | assumption | exact W0) (show W x14.1 by first | assumption | exact W0) (show W x13.1 by first | assumption | exact W0) (show W x12.1 by first | assumption | exact W0) (show W x11.1 by first | assumption | exact W0) (show W x10.1 by first | assumption | exact W0) (show W x9.1 by first | assumption | exact W0)
          have Hw := vI_num4 cw0 W0 W0 W0
          rw [Hq] at Hv
          rw [Hr] at Hw
          refine fin3 (n := n / d) (r := n % d) (by rw [num_vW r_n, num_vI r_d]; unfold wDiv; rw [if_neg G3]) (Hq ▸ R8_num8 (by first | assumption | exact W0) (by first | assumption | exact W0) (by first | assumption | exact W0) (by first | assumption | exact W0) (by first | assumption | exact W0) (by first | assumption | exact W0) (by first | assumption | exact W0) (by first | assumption | exact W0)) (Hr ▸ R4_num4 cw0 W0 W0 W0) Hv ?_
          rw [Hw, c0]
      · refine ⟨rfl, ?_⟩
        refine ⟨rfl, rfl, limb_Len (lim d 1) (by first | assumption | exact W_lim _ _ | (unfold W; decide)), ⟨(), trivial⟩, ?_⟩
        intro _
        intro _
        refine ⟨⟨(), trivial, congrArg (Value.int .i64) (nrm_s (W_lim _ _) (by assumption))⟩, ?_⟩
        intro _
        intro _
        intro b17
        intro b18
        refine ⟨wide_up98 b17 b1 (lim n 0) (lim n 1) (lim n 2) (lim n 3) (lim n 4) (lim n 5) (lim n 6) (lim n 7) ((nrm (lim d 1) : Nat) : Int) (nrm_0 _) (nrm_63 (W_lim _ _) (by assumption)) (W_lim _ _) (W_lim _ _) (W_lim _ _) (W_lim _ _) (W_lim _ _) (W_lim _ _) (W_lim _ _) (W_lim _ _), wit_up98 (nrm_0 _) (nrm_63 (W_lim _ _) (by assumption)) (W_lim _ _) (W_lim _ _) (W_lim _ _) (W_lim _ _) (W_lim _ _) (W_lim _ _) (W_lim _ _) (W_lim _ _), ?_⟩
        intro x19
        intro h15
        obtain ⟨E, wx0, wx1, wx2, wx3, wx4, wx5, wx6, wx7, wx8⟩ := h15
        refine ⟨wide_up2 b18 b2 (lim d 0) (lim d 1) (lim d 2) (lim d 3) ((nrm (lim d 1) : Nat) : Int) (nrm_0 _) (nrm_63 (W_lim _ _) (by assumption)) (W_lim _ _) (W_lim _ _), wit_up2 (nrm_0 _) (nrm_63 (W_lim _ _) (by assumption)) (W_lim _ _) (W_lim _ _), ?_⟩
        intro x20
        intro h16
        obtain ⟨F, wz0, wz1⟩ := h16
        obtain ⟨N1, N2, N3⟩ := norm2 (W_lim _ _) (by assumption) wz0 wz1 (W_lim _ _) F
        obtain ⟨p, q, hp', hq', hp, hq, hpq, hp2, ht, h0, e1, e2⟩ := nrm_top (W_lim d 1) (by assumption)
        have n63 := nrm_63 (W_lim d 1) (by assumption)
        rw [e1, lims8 r_n] at E
        rw [← hp'] at N1
        have hVk : x20.1 + 18446744073709551616 * x20.2 < 340282366920938463463374607431768211456 := by unfold W at wz0 wz1; omega
        have V0 : 0 < x20.1 + 18446744073709551616 * x20.2 := by omega
        have hlt6 := first2 r_n hp hp2 wx0 wx1 wx2 wx3 wx4 wx5 wx6 wx7 wx8 E N2
        refine ⟨rfl, ?_⟩
        refine ⟨wide_step2 b17 (#[.int .u64 x19.1, .int .u64 x19.2.1, .int .u64 x19.2.2.1, .int .u64 x19.2.2.2.1, .int .u64 x19.2.2.2.2.1, .int .u64 x19.2.2.2.2.2.1, .int .u64 x19.2.2.2.2.2.2.1, .int .u64 x19.2.2.2.2.2.2.2.1, .int .u64 x19.2.2.2.2.2.2.2.2]) 6 3 x19.2.2.2.2.2.2.1 x19.2.2.2.2.2.2.2.1 x19.2.2.2.2.2.2.2.2 b18 x20.1 x20.2 (Nat.le_of_ble_eq_true rfl) (rfl) (rfl) (rfl) (by assumption) (by assumption) (by assumption) (by assumption) (by assumption) (hlt6) (N3), wit_step2 (nn3 (by assumption) (by assumption) (by assumption)) hlt6 V0 hVk, ?_⟩
        intro x21
        intro h17
        obtain ⟨h17, h17_0, h17_1, h17_2⟩ := h17
        have A6 := h17.eq
        obtain ⟨hu5, hlt5⟩ := next2 (x := x19.2.2.2.2.2.1) h17 wx5 h17_0 h17_1 h17_2 hVk
        have wqh17 := h17.wq
        refine ⟨rfl, rfl, ?_⟩
        refine ⟨rfl, ?_⟩
        refine ⟨wide_step2 b17 (#[.int .u64 x19.1, .int .u64 x19.2.1, .int .u64 x19.2.2.1, .int .u64 x19.2.2.2.1, .int .u64 x19.2.2.2.2.1, .int .u64 x19.2.2.2.2.2.1, .int .u64 x21.2.1, .int .u64 x21.2.2.1, .int .u64 x21.2.2.2]) 5 4 x19.2.2.2.2.2.1 x21.2.1 x21.2.2.1 b18 x20.1 x20.2 (Nat.le_of_ble_eq_true rfl) (rfl) (rfl) (rfl) (by assumption) (by assumption) (by assumption) (by assumption) (by assumption) (hlt5) (N3), wit_step2 (nn3 (by assumption) (by assumption) (by assumption)) hlt5 V0 hVk, ?_⟩
        intro x22
        intro h18
        obtain ⟨h18, h18_0, h18_1, h18_2⟩ := h18
        rw [hu5] at h18
        have A5 := chain_step A6 h18
        obtain ⟨hu4, hlt4⟩ := next2 (x := x19.2.2.2.2.1) h18 wx4 h18_0 h18_1 h18_2 hVk
        have wqh18 := h18.wq
        refine ⟨rfl, rfl, ?_⟩
        refine ⟨rfl, ?_⟩
        refine ⟨wide_step2 b17 (#[.int .u64 x19.1, .int .u64 x19.2.1, .int .u64 x19.2.2.1, .int .u64 x19.2.2.2.1, .int .u64 x19.2.2.2.2.1, .int .u64 x22.2.1, .int .u64 x22.2.2.1, .int .u64 x22.2.2.2, .int .u64 x21.2.2.2]) 4 5 x19.2.2.2.2.1 x22.2.1 x22.2.2.1 b18 x20.1 x20.2 (Nat.le_of_ble_eq_true rfl) (rfl) (rfl) (rfl) (by assumption) (by assumption) (by assumption) (by assumption) (by assumption) (hlt4) (N3), wit_step2 (nn3 (by assumption) (by assumption) (by assumption)) hlt4 V0 hVk, ?_⟩
        intro x23
        intro h19
        obtain ⟨h19, h19_0, h19_1, h19_2⟩ := h19
        rw [hu4] at h19
        have A4 := chain_step A5 h19
        obtain ⟨hu3, hlt3⟩ := next2 (x := x19.2.2.2.1) h19 wx3 h19_0 h19_1 h19_2 hVk
        have wqh19 := h19.wq
        refine ⟨rfl, rfl, ?_⟩
        refine ⟨rfl, ?_⟩
        refine ⟨wide_step2 b17 (#[.int .u64 x19.1, .int .u64 x19.2.1, .int .u64 x19.2.2.1, .int .u64 x19.2.2.2.1, .int .u64 x23.2.1, .int .u64 x23.2.2.1, .int .u64 x23.2.2.2, .int .u64 x22.2.2.2, .int .u64 x21.2.2.2]) 3 6 x19.2.2.2.1 x23.2.1 x23.2.2.1 b18 x20.1 x20.2 (Nat.le_of_ble_eq_true rfl) (rfl) (rfl) (rfl) (by assumption) (by assumption) (by assumption) (by assumption) (by assumption) (hlt3) (N3), wit_step2 (nn3 (by assumption) (by assumption) (by assumption)) hlt3 V0 hVk, ?_⟩
        intro x24
        intro h20
        obtain ⟨h20, h20_0, h20_1, h20_2⟩ := h20
        rw [hu3] at h20
        have A3 := chain_step A4 h20
        obtain ⟨hu2, hlt2⟩ := next2 (x := x19.2.2.1) h20 wx2 h20_0 h20_1 h20_2 hVk
        have wqh20 := h20.wq
        refine ⟨rfl, rfl, ?_⟩
        refine ⟨rfl, ?_⟩
        refine ⟨wide_step2 b17 (#[.int .u64 x19.1, .int .u64 x19.2.1, .int .u64 x19.2.2.1, .int .u64 x24.2.1, .int .u64 x24.2.2.1, .int .u64 x24.2.2.2, .int .u64 x23.2.2.2, .int .u64 x22.2.2.2, .int .u64 x21.2.2.2]) 2 7 x19.2.2.1 x24.2.1 x24.2.2.1 b18 x20.1 x20.2 (Nat.le_of_ble_eq_true rfl) (rfl) (rfl) (rfl) (by assumption) (by assumption) (by assumption) (by assumption) (by assumption) (hlt2) (N3), wit_step2 (nn3 (by assumption) (by assumption) (by assumption)) hlt2 V0 hVk, ?_⟩
        intro x25
        intro h21
        obtain ⟨h21, h21_0, h21_1, h21_2⟩ := h21
        rw [hu2] at h21
        have A2 := chain_step A3 h21
        obtain ⟨hu1, hlt1⟩ := next2 (x := x19.2.1) h21 wx1 h21_0 h21_1 h21_2 hVk
        have wqh21 := h21.wq
        refine ⟨rfl, rfl, ?_⟩
        refine ⟨rfl, ?_⟩
        refine ⟨wide_step2 b17 (#[.int .u64 x19.1, .int .u64 x19.2.1, .int .u64 x25.2.1, .int .u64 x25.2.2.1, .int .u64 x25.2.2.2, .int .u64 x24.2.2.2, .int .u64 x23.2.2.2, .int .u64 x22.2.2.2, .int .u64 x21.2.2.2]) 1 8 x19.2.1 x25.2.1 x25.2.2.1 b18 x20.1 x20.2 (Nat.le_of_ble_eq_true rfl) (rfl) (rfl) (rfl) (by assumption) (by assumption) (by assumption) (by assumption) (by assumption) (hlt1) (N3), wit_step2 (nn3 (by assumption) (by assumption) (by assumption)) hlt1 V0 hVk, ?_⟩
        intro x26
        intro h22
        obtain ⟨h22, h22_0, h22_1, h22_2⟩ := h22
        rw [hu1] at h22
        have A1 := chain_step A2 h22
        obtain ⟨hu0, hlt0⟩ := next2 (x := x19.1) h22 wx0 h22_0 h22_1 h22_2 hVk
        have wqh22 := h22.wq
        refine ⟨rfl, rfl, ?_⟩
        refine ⟨rfl, ?_⟩
        refine ⟨wide_step2 b17 (#[.int .u64 x19.1, .int .u64 x26.2.1, .int .u64 x26.2.2.1, .int .u64 x26.2.2.2, .int .u64 x25.2.2.2, .int .u64 x24.2.2.2, .int .u64 x23.2.2.2, .int .u64 x22.2.2.2, .int .u64 x21.2.2.2]) 0 9 x19.1 x26.2.1 x26.2.2.1 b18 x20.1 x20.2 (Nat.le_of_ble_eq_true rfl) (rfl) (rfl) (rfl) (by assumption) (by assumption) (by assumption) (by assumption) (by assumption) (hlt0) (N3), wit_step2 (nn3 (by assumption) (by assumption) (by assumption)) hlt0 V0 hVk, ?_⟩
        intro x27
        intro h23
        obtain ⟨h23, h23_0, h23_1, h23_2⟩ := h23
        rw [hu0] at h23
        have A0 := chain_step A1 h23
        have wqh23 := h23.wq
        refine ⟨rfl, rfl, ?_⟩
        refine ⟨rfl, ?_⟩
        refine ⟨rfl, ?_⟩
        refine ⟨rfl, rfl, xshr (by omega), rfl, rfl, ⟨(), trivial, congrArg (Value.int .i64) (wrap_i64 _ (by omega) (by omega))⟩, ?_⟩
        intro _
        intro _
        refine ⟨xshl (by omega), rfl, rfl, ?_⟩
        refine ⟨rfl, ?_⟩
        refine ⟨rfl, rfl, xshr (by omega), rfl, rfl, ⟨(), trivial, congrArg (Value.int .i64) (wrap_i64 _ (by omega) (by omega))⟩, ?_⟩
        intro _
        intro _
        refine ⟨xshl (by omega), rfl, rfl, ?_⟩
        refine ⟨rfl, ?_⟩
        refine ⟨rfl, rfl, rfl, rfl, rfl, rfl, rfl, rfl, rfl, rfl, rfl, rfl, rfl, rfl, rfl, rfl, rfl, rfl, rfl, rfl, rfl, rfl, rfl, rfl, rfl, rfl, rfl, rfl, rfl, rfl, rfl, rfl, rfl, rfl, rfl, rfl, rfl, rfl, rfl, rfl, rfl, rfl, rfl, rfl, rfl, rfl, rfl, rfl, ?_⟩
        refine ⟨rfl, rfl, rfl, rfl, rfl, rfl, rfl, rfl, rfl, rfl, rfl, rfl, rfl, rfl, rfl, rfl, rfl, rfl, rfl, rfl, rfl, rfl, rfl, rfl, ?_⟩
        have hD : lim d 0 + 18446744073709551616 * lim d 1 = d := by
          have e := lims d
          rw [num_vI r_d] at e
          simp only [beq_iff_eq, beq_eq_false_iff_ne] at *
          omega
        rw [hD] at N1
        have A : ((x27.1 + 18446744073709551616 * (x26.1 + 18446744073709551616 * (x25.1 + 18446744073709551616 * (x24.1 + 18446744073709551616 * (x23.1 + 18446744073709551616 * (x22.1 + 18446744073709551616 * x21.1))))))) * (x20.1 + 18446744073709551616 * x20.2) + (x27.2.1 + 18446744073709551616 * x27.2.2.1 + 340282366920938463463374607431768211456 * x27.2.2.2) = n * p := by rw [← E]; rw [A0]; omega
        obtain ⟨G1, G2, G3⟩ := div_end A N1 h23.r0 h23.r1 hp
        have G4 := rest2 hp hq hpq hVk h23_0 h23_1 h23_2 G2 h23.r1
        have c0 := down_or (x := x27.2.1) (y := x27.2.2.1) (s := ((nrm (lim d 1) : Nat) : Int)) (nrm_0 _) (nrm_63 (W_lim _ _) (by assumption)) h23_0 h23_1
        rw [e1, e2] at c0
        have cw0 := down_W (y := x27.2.2.1) hp hq hpq h23_0
        have c1 := down_or (x := x27.2.2.1) (y := x27.2.2.2) (s := ((nrm (lim d 1) : Nat) : Int)) (nrm_0 _) (nrm_63 (W_lim _ _) (by assumption)) h23_1 h23_2
        rw [e1, e2] at c1
        have cw1 := down_W (y := x27.2.2.2) hp hq hpq h23_1
        have W0 : W 0 := by unfold W; decide
        have Hq : num (.agg #[.int .u64 x27.1, .int .u64 x26.1, .int .u64 x25.1, .int .u64 x24.1, .int .u64 x23.1, .int .u64 x22.1, .int .u64 x21.1, .int .u64 0]) = n / d := by rw [G1, num8]; omega
        have Hr : num (.agg #[.int .u64 (x27.2.1 / p + x27.2.2.1 * q % 18446744073709551616), .int .u64 (x27.2.2.1 / p + x27.2.2.2 * q % 18446744073709551616), .int .u64 0, .int .u64 0]) = n % d := by rw [← G4, num4]; omega
        have Hv := vW_num8 (show W x27.1 by first | assumption | exact W0) (show W x26.1 by first | assumption | exact W0) (show W x25.1 by first | assumption | exact W0) (show W x24.1 by first | assumption | exact W0) (show W x23.1 by first | assumption | exact W0) (show W x22.1 by first | assumption | exact W0) (show W x21.1 by first | assumption | exact W0) (show W 0 by first | assumption | exact W0)
        have Hw := vI_num4 cw0 cw1 W0 W0
        rw [Hq] at Hv
        rw [Hr] at Hw
        refine fin3 (n := n / d) (r := n % d) (by rw [num_vW r_n, num_vI r_d]; unfold wDiv; rw [if_neg G3]) (Hq ▸ R8_num8 (by first | assumption | exact W0) (by first | assumption | exact W0) (by first | assumption | exact W0) (by first | assumption | exact W0) (by first | assumption | exact W0) (by first | assumption | exact W0) (by first | assumption | exact W0) (by first | assumption | exact W0)) (Hr ▸ R4_num4 cw0 cw1 W0 W0) Hv ?_
        rw [Hw, c0, c1]
    · refine ⟨rfl, ?_⟩
      refine ⟨rfl, rfl, limb_Len (lim d 2) (by first | assumption | exact W_lim _ _ | (unfold W; decide)), ⟨(), trivial⟩, ?_⟩
      intro _
      intro _
      refine ⟨⟨(), trivial, congrArg (Value.int .i64) (nrm_s (W_lim _ _) (by assumption))⟩, ?_⟩
      intro _
      intro _
      intro b28
      intro b29
      refine ⟨wide_up98 b28 b1 (lim n 0) (lim n 1) (lim n 2) (lim n 3) (lim n 4) (lim n 5) (lim n 6) (lim n 7) ((nrm (lim d 2) : Nat) : Int) (nrm_0 _) (nrm_63 (W_lim _ _) (by assumption)) (W_lim _ _) (W_lim _ _) (W_lim _ _) (W_lim _ _) (W_lim _ _) (W_lim _ _) (W_lim _ _) (W_lim _ _), wit_up98 (nrm_0 _) (nrm_63 (W_lim _ _) (by assumption)) (W_lim _ _) (W_lim _ _) (W_lim _ _) (W_lim _ _) (W_lim _ _) (W_lim _ _) (W_lim _ _) (W_lim _ _), ?_⟩
      intro x30
      intro h24
      obtain ⟨E, wx0, wx1, wx2, wx3, wx4, wx5, wx6, wx7, wx8⟩ := h24
      refine ⟨wide_up3 b29 b2 (lim d 0) (lim d 1) (lim d 2) (lim d 3) ((nrm (lim d 2) : Nat) : Int) (nrm_0 _) (nrm_63 (W_lim _ _) (by assumption)) (W_lim _ _) (W_lim _ _) (W_lim _ _), wit_up3 (nrm_0 _) (nrm_63 (W_lim _ _) (by assumption)) (W_lim _ _) (W_lim _ _) (W_lim _ _), ?_⟩
      intro x31
      intro h25
      obtain ⟨F, wz0, wz1, wz2⟩ := h25
      obtain ⟨N1, N2, N3⟩ := norm3 (W_lim _ _) (by assumption) wz0 wz1 wz2 (W_lim _ _) (W_lim _ _) F
      obtain ⟨p, q, hp', hq', hp, hq, hpq, hp2, ht, h0, e1, e2⟩ := nrm_top (W_lim d 2) (by assumption)
      have n63 := nrm_63 (W_lim d 2) (by assumption)
      rw [e1, lims8 r_n] at E
      rw [← hp'] at N1
      have hVk : x31.1 + 18446744073709551616 * x31.2.1 + 340282366920938463463374607431768211456 * x31.2.2 < 6277101735386680763835789423207666416102355444464034512896 := by unfold W at wz0 wz1 wz2; omega
      have V0 : 0 < x31.1 + 18446744073709551616 * x31.2.1 + 340282366920938463463374607431768211456 * x31.2.2 := by omega
      have hlt5 := first3 r_n hp hp2 wx0 wx1 wx2 wx3 wx4 wx5 wx6 wx7 wx8 E N2
      refine ⟨rfl, ?_⟩
      refine ⟨wide_step3 b28 (#[.int .u64 x30.1, .int .u64 x30.2.1, .int .u64 x30.2.2.1, .int .u64 x30.2.2.2.1, .int .u64 x30.2.2.2.2.1, .int .u64 x30.2.2.2.2.2.1, .int .u64 x30.2.2.2.2.2.2.1, .int .u64 x30.2.2.2.2.2.2.2.1, .int .u64 x30.2.2.2.2.2.2.2.2]) 5 4 x30.2.2.2.2.2.1 x30.2.2.2.2.2.2.1 x30.2.2.2.2.2.2.2.1 x30.2.2.2.2.2.2.2.2 b29 x31.1 x31.2.1 x31.2.2 (Nat.le_of_ble_eq_true rfl) (rfl) (rfl) (rfl) (rfl) (by assumption) (by assumption) (by assumption) (by assumption) (by assumption) (by assumption) (by assumption) (hlt5) (N3), wit_step3 (nn4 (by assumption) (by assumption) (by assumption) (by assumption)) hlt5 V0 hVk, ?_⟩
      intro x32
      intro h26
      obtain ⟨h26, h26_0, h26_1, h26_2, h26_3⟩ := h26
      have A5 := h26.eq
      obtain ⟨hu4, hlt4⟩ := next3 (x := x30.2.2.2.2.1) h26 wx4 h26_0 h26_1 h26_2 h26_3 hVk
      have wqh26 := h26.wq
      refine ⟨rfl, rfl, ?_⟩
      refine ⟨rfl, ?_⟩
      refine ⟨wide_step3 b28 (#[.int .u64 x30.1, .int .u64 x30.2.1, .int .u64 x30.2.2.1, .int .u64 x30.2.2.2.1, .int .u64 x30.2.2.2.2.1, .int .u64 x32.2.1, .int .u64 x32.2.2.1, .int .u64 x32.2.2.2.1, .int .u64 x32.2.2.2.2]) 4 5 x30.2.2.2.2.1 x32.2.1 x32.2.2.1 x32.2.2.2.1 b29 x31.1 x31.2.1 x31.2.2 (Nat.le_of_ble_eq_true rfl) (rfl) (rfl) (rfl) (rfl) (by assumption) (by assumption) (by assumption) (by assumption) (by assumption) (by assumption) (by assumption) (hlt4) (N3), wit_step3 (nn4 (by assumption) (by assumption) (by assumption) (by assumption)) hlt4 V0 hVk, ?_⟩
      intro x33
      intro h27
      obtain ⟨h27, h27_0, h27_1, h27_2, h27_3⟩ := h27
      rw [hu4] at h27
      have A4 := chain_step A5 h27
      obtain ⟨hu3, hlt3⟩ := next3 (x := x30.2.2.2.1) h27 wx3 h27_0 h27_1 h27_2 h27_3 hVk
      have wqh27 := h27.wq
      refine ⟨rfl, rfl, ?_⟩
      refine ⟨rfl, ?_⟩
      refine ⟨wide_step3 b28 (#[.int .u64 x30.1, .int .u64 x30.2.1, .int .u64 x30.2.2.1, .int .u64 x30.2.2.2.1, .int .u64 x33.2.1, .int .u64 x33.2.2.1, .int .u64 x33.2.2.2.1, .int .u64 x33.2.2.2.2, .int .u64 x32.2.2.2.2]) 3 6 x30.2.2.2.1 x33.2.1 x33.2.2.1 x33.2.2.2.1 b29 x31.1 x31.2.1 x31.2.2 (Nat.le_of_ble_eq_true rfl) (rfl) (rfl) (rfl) (rfl) (by assumption) (by assumption) (by assumption) (by assumption) (by assumption) (by assumption) (by assumption) (hlt3) (N3), wit_step3 (nn4 (by assumption) (by assumption) (by assumption) (by assumption)) hlt3 V0 hVk, ?_⟩
      intro x34
      intro h28
      obtain ⟨h28, h28_0, h28_1, h28_2, h28_3⟩ := h28
      rw [hu3] at h28
      have A3 := chain_step A4 h28
      obtain ⟨hu2, hlt2⟩ := next3 (x := x30.2.2.1) h28 wx2 h28_0 h28_1 h28_2 h28_3 hVk
      have wqh28 := h28.wq
      refine ⟨rfl, rfl, ?_⟩
      refine ⟨rfl, ?_⟩
      refine ⟨wide_step3 b28 (#[.int .u64 x30.1, .int .u64 x30.2.1, .int .u64 x30.2.2.1, .int .u64 x34.2.1, .int .u64 x34.2.2.1, .int .u64 x34.2.2.2.1, .int .u64 x34.2.2.2.2, .int .u64 x33.2.2.2.2, .int .u64 x32.2.2.2.2]) 2 7 x30.2.2.1 x34.2.1 x34.2.2.1 x34.2.2.2.1 b29 x31.1 x31.2.1 x31.2.2 (Nat.le_of_ble_eq_true rfl) (rfl) (rfl) (rfl) (rfl) (by assumption) (by assumption) (by assumption) (by assumption) (by assumption) (by assumption) (by assumption) (hlt2) (N3), wit_step3 (nn4 (by assumption) (by assumption) (by assumption) (by assumption)) hlt2 V0 hVk, ?_⟩
      intro x35
      intro h29
      obtain ⟨h29, h29_0, h29_1, h29_2, h29_3⟩ := h29
      rw [hu2] at h29
      have A2 := chain_step A3 h29
      obtain ⟨hu1, hlt1⟩ := next3 (x := x30.2.1) h29 wx1 h29_0 h29_1 h29_2 h29_3 hVk
      have wqh29 := h29.wq
      refine ⟨rfl, rfl, ?_⟩
      refine ⟨rfl, ?_⟩
      refine ⟨wide_step3 b28 (#[.int .u64 x30.1, .int .u64 x30.2.1, .int .u64 x35.2.1, .int .u64 x35.2.2.1, .int .u64 x35.2.2.2.1, .int .u64 x35.2.2.2.2, .int .u64 x34.2.2.2.2, .int .u64 x33.2.2.2.2, .int .u64 x32.2.2.2.2]) 1 8 x30.2.1 x35.2.1 x35.2.2.1 x35.2.2.2.1 b29 x31.1 x31.2.1 x31.2.2 (Nat.le_of_ble_eq_true rfl) (rfl) (rfl) (rfl) (rfl) (by assumption) (by assumption) (by assumption) (by assumption) (by assumption) (by assumption) (by assumption) (hlt1) (N3), wit_step3 (nn4 (by assumption) (by assumption) (by assumption) (by assumption)) hlt1 V0 hVk, ?_⟩
      intro x36
      intro h30
      obtain ⟨h30, h30_0, h30_1, h30_2, h30_3⟩ := h30
      rw [hu1] at h30
      have A1 := chain_step A2 h30
      obtain ⟨hu0, hlt0⟩ := next3 (x := x30.1) h30 wx0 h30_0 h30_1 h30_2 h30_3 hVk
      have wqh30 := h30.wq
      refine ⟨rfl, rfl, ?_⟩
      refine ⟨rfl, ?_⟩
      refine ⟨wide_step3 b28 (#[.int .u64 x30.1, .int .u64 x36.2.1, .int .u64 x36.2.2.1, .int .u64 x36.2.2.2.1, .int .u64 x36.2.2.2.2, .int .u64 x35.2.2.2.2, .int .u64 x34.2.2.2.2, .int .u64 x33.2.2.2.2, .int .u64 x32.2.2.2.2]) 0 9 x30.1 x36.2.1 x36.2.2.1 x36.2.2.2.1 b29 x31.1 x31.2.1 x31.2.2 (Nat.le_of_ble_eq_true rfl) (rfl) (rfl) (rfl) (rfl) (by assumption) (by assumption) (by assumption) (by assumption) (by assumption) (by assumption) (by assumption) (hlt0) (N3), wit_step3 (nn4 (by assumption) (by assumption) (by assumption) (by assumption)) hlt0 V0 hVk, ?_⟩
      intro x37
      intro h31
      obtain ⟨h31, h31_0, h31_1, h31_2, h31_3⟩ := h31
      rw [hu0] at h31
      have A0 := chain_step A1 h31
      have wqh31 := h31.wq
      refine ⟨rfl, rfl, ?_⟩
      refine ⟨rfl, ?_⟩
      refine ⟨rfl, ?_⟩
      refine ⟨rfl, rfl, xshr (by omega), rfl, rfl, ⟨(), trivial, congrArg (Value.int .i64) (wrap_i64 _ (by omega) (by omega))⟩, ?_⟩
      intro _
      intro _
      refine ⟨xshl (by omega), rfl, rfl, ?_⟩
      refine ⟨rfl, ?_⟩
      refine ⟨rfl, rfl, xshr (by omega), rfl, rfl, ⟨(), trivial, congrArg (Value.int .i64) (wrap_i64 _ (by omega) (by omega))⟩, ?_⟩
      intro _
      intro _
      refine ⟨xshl (by omega), rfl, rfl, ?_⟩
      refine ⟨rfl, ?_⟩
      refine ⟨rfl, rfl, xshr (by omega), rfl, rfl, ⟨(), trivial, congrArg (Value.int .i64) (wrap_i64 _ (by omega) (by omega))⟩, ?_⟩
      intro _
      intro _
      refine ⟨xshl (by omega), rfl, rfl, ?_⟩
      refine ⟨rfl, ?_⟩
      refine ⟨rfl, rfl, rfl, rfl, rfl, rfl, rfl, rfl, rfl, rfl, rfl, rfl, rfl, rfl, rfl, rfl, rfl, rfl, rfl, rfl, rfl, rfl, rfl, rfl, rfl, rfl, rfl, rfl, rfl, rfl, rfl, rfl, rfl, rfl, rfl, rfl, rfl, rfl, rfl, rfl, rfl, rfl, rfl, rfl, rfl, rfl, rfl, rfl, ?_⟩
      refine ⟨rfl, rfl, rfl, rfl, rfl, rfl, rfl, rfl, rfl, rfl, rfl, rfl, rfl, rfl, rfl, rfl, rfl, rfl, rfl, rfl, rfl, rfl, rfl, rfl, ?_⟩
      have hD : lim d 0 + 18446744073709551616 * lim d 1 + 340282366920938463463374607431768211456 * lim d 2 = d := by
        have e := lims d
        rw [num_vI r_d] at e
        simp only [beq_iff_eq, beq_eq_false_iff_ne] at *
        omega
      rw [hD] at N1
      have A : ((x37.1 + 18446744073709551616 * (x36.1 + 18446744073709551616 * (x35.1 + 18446744073709551616 * (x34.1 + 18446744073709551616 * (x33.1 + 18446744073709551616 * x32.1)))))) * (x31.1 + 18446744073709551616 * x31.2.1 + 340282366920938463463374607431768211456 * x31.2.2) + (x37.2.1 + 18446744073709551616 * x37.2.2.1 + 340282366920938463463374607431768211456 * x37.2.2.2.1 + 6277101735386680763835789423207666416102355444464034512896 * x37.2.2.2.2) = n * p := by rw [← E]; rw [A0]; omega
      obtain ⟨G1, G2, G3⟩ := div_end A N1 h31.r0 h31.r1 hp
      have G4 := rest3 hp hq hpq hVk h31_0 h31_1 h31_2 h31_3 G2 h31.r1
      have c0 := down_or (x := x37.2.1) (y := x37.2.2.1) (s := ((nrm (lim d 2) : Nat) : Int)) (nrm_0 _) (nrm_63 (W_lim _ _) (by assumption)) h31_0 h31_1
      rw [e1, e2] at c0
      have cw0 := down_W (y := x37.2.2.1) hp hq hpq h31_0
      have c1 := down_or (x := x37.2.2.1) (y := x37.2.2.2.1) (s := ((nrm (lim d 2) : Nat) : Int)) (nrm_0 _) (nrm_63 (W_lim _ _) (by assumption)) h31_1 h31_2
      rw [e1, e2] at c1
      have cw1 := down_W (y := x37.2.2.2.1) hp hq hpq h31_1
      have c2 := down_or (x := x37.2.2.2.1) (y := x37.2.2.2.2) (s := ((nrm (lim d 2) : Nat) : Int)) (nrm_0 _) (nrm_63 (W_lim _ _) (by assumption)) h31_2 h31_3
      rw [e1, e2] at c2
      have cw2 := down_W (y := x37.2.2.2.2) hp hq hpq h31_2
      have W0 : W 0 := by unfold W; decide
      have Hq : num (.agg #[.int .u64 x37.1, .int .u64 x36.1, .int .u64 x35.1, .int .u64 x34.1, .int .u64 x33.1, .int .u64 x32.1, .int .u64 0, .int .u64 0]) = n / d := by rw [G1, num8]; omega
      have Hr : num (.agg #[.int .u64 (x37.2.1 / p + x37.2.2.1 * q % 18446744073709551616), .int .u64 (x37.2.2.1 / p + x37.2.2.2.1 * q % 18446744073709551616), .int .u64 (x37.2.2.2.1 / p + x37.2.2.2.2 * q % 18446744073709551616), .int .u64 0]) = n % d := by rw [← G4, num4]; omega
      have Hv := vW_num8 (show W x37.1 by first | assumption | exact W0) (show W x36.1 by first | assumption | exact W0) (show W x35.1 by first | assumption | exact W0) (show W x34.1 by first | assumption | exact W0) (show W x33.1 by first | assumption | exact W0) (show W x32.1 by first | assumption | exact W0) (show W 0 by first | assumption | exact W0) (show W 0 by first | assumption | exact W0)
      have Hw := vI_num4 cw0 cw1 cw2 W0
      rw [Hq] at Hv
      rw [Hr] at Hw
      refine fin3 (n := n / d) (r := n % d) (by rw [num_vW r_n, num_vI r_d]; unfold wDiv; rw [if_neg G3]) (Hq ▸ R8_num8 (by first | assumption | exact W0) (by first | assumption | exact W0) (by first | assumption | exact W0) (by first | assumption | exact W0) (by first | assumption | exact W0) (by first | assumption | exact W0) (by first | assumption | exact W0) (by first | assumption | exact W0)) (Hr ▸ R4_num4 cw0 cw1 cw2 W0) Hv ?_
      rw [Hw, c0, c1, c2]
  · refine ⟨rfl, ?_⟩
    refine ⟨rfl, rfl, limb_Len (lim d 3) (by first | assumption | exact W_lim _ _ | (unfold W; decide)), ⟨(), trivial⟩, ?_⟩
    intro _
    intro _
    refine ⟨⟨(), trivial, congrArg (Value.int .i64) (nrm_s (W_lim _ _) (by assumption))⟩, ?_⟩
    intro _
    intro _
    intro b38
    intro b39
    refine ⟨wide_up98 b38 b1 (lim n 0) (lim n 1) (lim n 2) (lim n 3) (lim n 4) (lim n 5) (lim n 6) (lim n 7) ((nrm (lim d 3) : Nat) : Int) (nrm_0 _) (nrm_63 (W_lim _ _) (by assumption)) (W_lim _ _) (W_lim _ _) (W_lim _ _) (W_lim _ _) (W_lim _ _) (W_lim _ _) (W_lim _ _) (W_lim _ _), wit_up98 (nrm_0 _) (nrm_63 (W_lim _ _) (by assumption)) (W_lim _ _) (W_lim _ _) (W_lim _ _) (W_lim _ _) (W_lim _ _) (W_lim _ _) (W_lim _ _) (W_lim _ _), ?_⟩
    intro x40
    intro h32
    obtain ⟨E, wx0, wx1, wx2, wx3, wx4, wx5, wx6, wx7, wx8⟩ := h32
    refine ⟨wide_up4 b39 b2 (lim d 0) (lim d 1) (lim d 2) (lim d 3) ((nrm (lim d 3) : Nat) : Int) (nrm_0 _) (nrm_63 (W_lim _ _) (by assumption)) (W_lim _ _) (W_lim _ _) (W_lim _ _) (W_lim _ _), wit_up4 (nrm_0 _) (nrm_63 (W_lim _ _) (by assumption)) (W_lim _ _) (W_lim _ _) (W_lim _ _) (W_lim _ _), ?_⟩
    intro x41
    intro h33
    obtain ⟨F, wz0, wz1, wz2, wz3⟩ := h33
    obtain ⟨N1, N2, N3⟩ := norm4 (W_lim _ _) (by assumption) wz0 wz1 wz2 wz3 (W_lim _ _) (W_lim _ _) (W_lim _ _) F
    obtain ⟨p, q, hp', hq', hp, hq, hpq, hp2, ht, h0, e1, e2⟩ := nrm_top (W_lim d 3) (by assumption)
    have n63 := nrm_63 (W_lim d 3) (by assumption)
    rw [e1, lims8 r_n] at E
    rw [← hp'] at N1
    have hVk : x41.1 + 18446744073709551616 * x41.2.1 + 340282366920938463463374607431768211456 * x41.2.2.1 + 6277101735386680763835789423207666416102355444464034512896 * x41.2.2.2 < 115792089237316195423570985008687907853269984665640564039457584007913129639936 := by unfold W at wz0 wz1 wz2 wz3; omega
    have V0 : 0 < x41.1 + 18446744073709551616 * x41.2.1 + 340282366920938463463374607431768211456 * x41.2.2.1 + 6277101735386680763835789423207666416102355444464034512896 * x41.2.2.2 := by omega
    have hlt4 := first4 r_n hp hp2 wx0 wx1 wx2 wx3 wx4 wx5 wx6 wx7 wx8 E N2
    refine ⟨rfl, ?_⟩
    refine ⟨wide_step4 b38 (#[.int .u64 x40.1, .int .u64 x40.2.1, .int .u64 x40.2.2.1, .int .u64 x40.2.2.2.1, .int .u64 x40.2.2.2.2.1, .int .u64 x40.2.2.2.2.2.1, .int .u64 x40.2.2.2.2.2.2.1, .int .u64 x40.2.2.2.2.2.2.2.1, .int .u64 x40.2.2.2.2.2.2.2.2]) 4 5 x40.2.2.2.2.1 x40.2.2.2.2.2.1 x40.2.2.2.2.2.2.1 x40.2.2.2.2.2.2.2.1 x40.2.2.2.2.2.2.2.2 b39 x41.1 x41.2.1 x41.2.2.1 x41.2.2.2 (Nat.le_of_ble_eq_true rfl) (rfl) (rfl) (rfl) (rfl) (rfl) (by assumption) (by assumption) (by assumption) (by assumption) (by assumption) (by assumption) (by assumption) (by assumption) (by assumption) (hlt4) (N3), wit_step4 (nn5 (by assumption) (by assumption) (by assumption) (by assumption) (by assumption)) hlt4 V0 hVk, ?_⟩
    intro x42
    intro h34
    obtain ⟨h34, h34_0, h34_1, h34_2, h34_3, h34_4⟩ := h34
    have A4 := h34.eq
    obtain ⟨hu3, hlt3⟩ := next4 (x := x40.2.2.2.1) h34 wx3 h34_0 h34_1 h34_2 h34_3 h34_4 hVk
    have wqh34 := h34.wq
    refine ⟨rfl, rfl, ?_⟩
    refine ⟨rfl, ?_⟩
    refine ⟨wide_step4 b38 (#[.int .u64 x40.1, .int .u64 x40.2.1, .int .u64 x40.2.2.1, .int .u64 x40.2.2.2.1, .int .u64 x42.2.1, .int .u64 x42.2.2.1, .int .u64 x42.2.2.2.1, .int .u64 x42.2.2.2.2.1, .int .u64 x42.2.2.2.2.2]) 3 6 x40.2.2.2.1 x42.2.1 x42.2.2.1 x42.2.2.2.1 x42.2.2.2.2.1 b39 x41.1 x41.2.1 x41.2.2.1 x41.2.2.2 (Nat.le_of_ble_eq_true rfl) (rfl) (rfl) (rfl) (rfl) (rfl) (by assumption) (by assumption) (by assumption) (by assumption) (by assumption) (by assumption) (by assumption) (by assumption) (by assumption) (hlt3) (N3), wit_step4 (nn5 (by assumption) (by assumption) (by assumption) (by assumption) (by assumption)) hlt3 V0 hVk, ?_⟩
    intro x43
    intro h35
    obtain ⟨h35, h35_0, h35_1, h35_2, h35_3, h35_4⟩ := h35
    rw [hu3] at h35
    have A3 := chain_step A4 h35
    obtain ⟨hu2, hlt2⟩ := next4 (x := x40.2.2.1) h35 wx2 h35_0 h35_1 h35_2 h35_3 h35_4 hVk
    have wqh35 := h35.wq
    refine ⟨rfl, rfl, ?_⟩
    refine ⟨rfl, ?_⟩
    refine ⟨wide_step4 b38 (#[.int .u64 x40.1, .int .u64 x40.2.1, .int .u64 x40.2.2.1, .int .u64 x43.2.1, .int .u64 x43.2.2.1, .int .u64 x43.2.2.2.1, .int .u64 x43.2.2.2.2.1, .int .u64 x43.2.2.2.2.2, .int .u64 x42.2.2.2.2.2]) 2 7 x40.2.2.1 x43.2.1 x43.2.2.1 x43.2.2.2.1 x43.2.2.2.2.1 b39 x41.1 x41.2.1 x41.2.2.1 x41.2.2.2 (Nat.le_of_ble_eq_true rfl) (rfl) (rfl) (rfl) (rfl) (rfl) (by assumption) (by assumption) (by assumption) (by assumption) (by assumption) (by assumption) (by assumption) (by assumption) (by assumption) (hlt2) (N3), wit_step4 (nn5 (by assumption) (by assumption) (by assumption) (by assumption) (by assumption)) hlt2 V0 hVk, ?_⟩
    intro x44
    intro h36
    obtain ⟨h36, h36_0, h36_1, h36_2, h36_3, h36_4⟩ := h36
    rw [hu2] at h36
    have A2 := chain_step A3 h36
    obtain ⟨hu1, hlt1⟩ := next4 (x := x40.2.1) h36 wx1 h36_0 h36_1 h36_2 h36_3 h36_4 hVk
    have wqh36 := h36.wq
    refine ⟨rfl, rfl, ?_⟩
    refine ⟨rfl, ?_⟩
    refine ⟨wide_step4 b38 (#[.int .u64 x40.1, .int .u64 x40.2.1, .int .u64 x44.2.1, .int .u64 x44.2.2.1, .int .u64 x44.2.2.2.1, .int .u64 x44.2.2.2.2.1, .int .u64 x44.2.2.2.2.2, .int .u64 x43.2.2.2.2.2, .int .u64 x42.2.2.2.2.2]) 1 8 x40.2.1 x44.2.1 x44.2.2.1 x44.2.2.2.1 x44.2.2.2.2.1 b39 x41.1 x41.2.1 x41.2.2.1 x41.2.2.2 (Nat.le_of_ble_eq_true rfl) (rfl) (rfl) (rfl) (rfl) (rfl) (by assumption) (by assumption) (by assumption) (by assumption) (by assumption) (by assumption) (by assumption) (by assumption) (by assumption) (hlt1) (N3), wit_step4 (nn5 (by assumption) (by assumption) (by assumption) (by assumption) (by assumption)) hlt1 V0 hVk, ?_⟩
    intro x45
    intro h37
    obtain ⟨h37, h37_0, h37_1, h37_2, h37_3, h37_4⟩ := h37
    rw [hu1] at h37
    have A1 := chain_step A2 h37
    obtain ⟨hu0, hlt0⟩ := next4 (x := x40.1) h37 wx0 h37_0 h37_1 h37_2 h37_3 h37_4 hVk
    have wqh37 := h37.wq
    refine ⟨rfl, rfl, ?_⟩
    refine ⟨rfl, ?_⟩
    refine ⟨wide_step4 b38 (#[.int .u64 x40.1, .int .u64 x45.2.1, .int .u64 x45.2.2.1, .int .u64 x45.2.2.2.1, .int .u64 x45.2.2.2.2.1, .int .u64 x45.2.2.2.2.2, .int .u64 x44.2.2.2.2.2, .int .u64 x43.2.2.2.2.2, .int .u64 x42.2.2.2.2.2]) 0 9 x40.1 x45.2.1 x45.2.2.1 x45.2.2.2.1 x45.2.2.2.2.1 b39 x41.1 x41.2.1 x41.2.2.1 x41.2.2.2 (Nat.le_of_ble_eq_true rfl) (rfl) (rfl) (rfl) (rfl) (rfl) (by assumption) (by assumption) (by assumption) (by assumption) (by assumption) (by assumption) (by assumption) (by assumption) (by assumption) (hlt0) (N3), wit_step4 (nn5 (by assumption) (by assumption) (by assumption) (by assumption) (by assumption)) hlt0 V0 hVk, ?_⟩
    intro x46
    intro h38
    obtain ⟨h38, h38_0, h38_1, h38_2, h38_3, h38_4⟩ := h38
    rw [hu0] at h38
    have A0 := chain_step A1 h38
    have wqh38 := h38.wq
    refine ⟨rfl, rfl, ?_⟩
    refine ⟨rfl, ?_⟩
    refine ⟨rfl, ?_⟩
    refine ⟨rfl, rfl, xshr (by omega), rfl, rfl, ⟨(), trivial, congrArg (Value.int .i64) (wrap_i64 _ (by omega) (by omega))⟩, ?_⟩
    intro _
    intro _
    refine ⟨xshl (by omega), rfl, rfl, ?_⟩
    refine ⟨rfl, ?_⟩
    refine ⟨rfl, rfl, xshr (by omega), rfl, rfl, ⟨(), trivial, congrArg (Value.int .i64) (wrap_i64 _ (by omega) (by omega))⟩, ?_⟩
    intro _
    intro _
    refine ⟨xshl (by omega), rfl, rfl, ?_⟩
    refine ⟨rfl, ?_⟩
    refine ⟨rfl, rfl, xshr (by omega), rfl, rfl, ⟨(), trivial, congrArg (Value.int .i64) (wrap_i64 _ (by omega) (by omega))⟩, ?_⟩
    intro _
    intro _
    refine ⟨xshl (by omega), rfl, rfl, ?_⟩
    refine ⟨rfl, ?_⟩
    refine ⟨rfl, rfl, xshr (by omega), rfl, rfl, ⟨(), trivial, congrArg (Value.int .i64) (wrap_i64 _ (by omega) (by omega))⟩, ?_⟩
    intro _
    intro _
    refine ⟨xshl (by omega), rfl, rfl, ?_⟩
    refine ⟨rfl, ?_⟩
    refine ⟨rfl, rfl, rfl, rfl, rfl, rfl, rfl, rfl, rfl, rfl, rfl, rfl, rfl, rfl, rfl, rfl, rfl, rfl, rfl, rfl, rfl, rfl, rfl, rfl, rfl, rfl, rfl, rfl, rfl, rfl, rfl, rfl, rfl, rfl, rfl, rfl, rfl, rfl, rfl, rfl, rfl, rfl, rfl, rfl, rfl, rfl, rfl, rfl, ?_⟩
    refine ⟨rfl, rfl, rfl, rfl, rfl, rfl, rfl, rfl, rfl, rfl, rfl, rfl, rfl, rfl, rfl, rfl, rfl, rfl, rfl, rfl, rfl, rfl, rfl, rfl, ?_⟩
    have hD : lim d 0 + 18446744073709551616 * lim d 1 + 340282366920938463463374607431768211456 * lim d 2 + 6277101735386680763835789423207666416102355444464034512896 * lim d 3 = d := by
      have e := lims d
      rw [num_vI r_d] at e
      simp only [beq_iff_eq, beq_eq_false_iff_ne] at *
      omega
    rw [hD] at N1
    have A : ((x46.1 + 18446744073709551616 * (x45.1 + 18446744073709551616 * (x44.1 + 18446744073709551616 * (x43.1 + 18446744073709551616 * x42.1))))) * (x41.1 + 18446744073709551616 * x41.2.1 + 340282366920938463463374607431768211456 * x41.2.2.1 + 6277101735386680763835789423207666416102355444464034512896 * x41.2.2.2) + (x46.2.1 + 18446744073709551616 * x46.2.2.1 + 340282366920938463463374607431768211456 * x46.2.2.2.1 + 6277101735386680763835789423207666416102355444464034512896 * x46.2.2.2.2.1 + 115792089237316195423570985008687907853269984665640564039457584007913129639936 * x46.2.2.2.2.2) = n * p := by rw [← E]; rw [A0]; omega
    obtain ⟨G1, G2, G3⟩ := div_end A N1 h38.r0 h38.r1 hp
    have G4 := rest4 hp hq hpq hVk h38_0 h38_1 h38_2 h38_3 h38_4 G2 h38.r1
    have c0 := down_or (x := x46.2.1) (y := x46.2.2.1) (s := ((nrm (lim d 3) : Nat) : Int)) (nrm_0 _) (nrm_63 (W_lim _ _) (by assumption)) h38_0 h38_1
    rw [e1, e2] at c0
    have cw0 := down_W (y := x46.2.2.1) hp hq hpq h38_0
    have c1 := down_or (x := x46.2.2.1) (y := x46.2.2.2.1) (s := ((nrm (lim d 3) : Nat) : Int)) (nrm_0 _) (nrm_63 (W_lim _ _) (by assumption)) h38_1 h38_2
    rw [e1, e2] at c1
    have cw1 := down_W (y := x46.2.2.2.1) hp hq hpq h38_1
    have c2 := down_or (x := x46.2.2.2.1) (y := x46.2.2.2.2.1) (s := ((nrm (lim d 3) : Nat) : Int)) (nrm_0 _) (nrm_63 (W_lim _ _) (by assumption)) h38_2 h38_3
    rw [e1, e2] at c2
    have cw2 := down_W (y := x46.2.2.2.2.1) hp hq hpq h38_2
    have c3 := down_or (x := x46.2.2.2.2.1) (y := x46.2.2.2.2.2) (s := ((nrm (lim d 3) : Nat) : Int)) (nrm_0 _) (nrm_63 (W_lim _ _) (by assumption)) h38_3 h38_4
    rw [e1, e2] at c3
    have cw3 := down_W (y := x46.2.2.2.2.2) hp hq hpq h38_3
    have W0 : W 0 := by unfold W; decide
    have Hq : num (.agg #[.int .u64 x46.1, .int .u64 x45.1, .int .u64 x44.1, .int .u64 x43.1, .int .u64 x42.1, .int .u64 0, .int .u64 0, .int .u64 0]) = n / d := by rw [G1, num8]; omega
    have Hr : num (.agg #[.int .u64 (x46.2.1 / p + x46.2.2.1 * q % 18446744073709551616), .int .u64 (x46.2.2.1 / p + x46.2.2.2.1 * q % 18446744073709551616), .int .u64 (x46.2.2.2.1 / p + x46.2.2.2.2.1 * q % 18446744073709551616), .int .u64 (x46.2.2.2.2.1 / p + x46.2.2.2.2.2 * q % 18446744073709551616)]) = n % d := by rw [← G4, num4]; omega
    have Hv := vW_num8 (show W x46.1 by first | assumption | exact W0) (show W x45.1 by first | assumption | exact W0) (show W x44.1 by first | assumption | exact W0) (show W x43.1 by first | assumption | exact W0) (show W x42.1 by first | assumption | exact W0) (show W 0 by first | assumption | exact W0) (show W 0 by first | assumption | exact W0) (show W 0 by first | assumption | exact W0)
    have Hw := vI_num4 cw0 cw1 cw2 cw3
    rw [Hq] at Hv
    rw [Hr] at Hw
    refine fin3 (n := n / d) (r := n % d) (by rw [num_vW r_n, num_vI r_d]; unfold wDiv; rw [if_neg G3]) (Hq ▸ R8_num8 (by first | assumption | exact W0) (by first | assumption | exact W0) (by first | assumption | exact W0) (by first | assumption | exact W0) (by first | assumption | exact W0) (by first | assumption | exact W0) (by first | assumption | exact W0) (by first | assumption | exact W0)) (Hr ▸ R4_num4 cw0 cw1 cw2 cw3) Hv ?_
    rw [Hw, c0, c1, c2, c3]

theorem Try.xeq44 (a b : Int) : PureRun Try.prog (xBin .eql 44 (vI a) (vI b)) (.bool (num (vI a) == num (vI b))) := xeq4 (e := 27) (by kernel_rfl) (by kernel_rfl) (fun w => by kernel_rfl) (fun w => by kernel_rfl) (by kernel_rfl) a b
def wide_narrow_C : List Value → List Slot → Ctr := fun vs hs => ⟨Int × Int, fun zx => .tuple #[vI zx.1, .int .i64 zx.2], fun _ => hs, fun zx => R4 zx.1 ∧ zx = wNar (num (varg vs 1))⟩
set_option maxRecDepth 100000 in
theorem wide_narrow_vc (w : Int) : codeW Try.prog 20 none 2000 none (bodyOf Try.f81) (.reg [.sem [.nw 0], .sem [.nw 1], .sem []] (.reg [.sem [], .sem [.rd 0], .sem [], .sem [.rd 0], .sem [], .sem [], .sem [.rd 0], .sem [], .sem [], .sem [.rd 0], .sem [], .sem []] (.cond (.reg [.sem [], .sem [.wr 1, .wr 1, .wr 1, .wr 1], .sem []] (.done)) (.reg [.sem [], .sem [], .sem [.rd 0, .rd 0, .rd 0, .rd 0], .sem [.wr 1, .wr 1, .wr 1, .wr 1], .sem []] (.done)))))
    (init #[vW w] []) (finW Try.prog Try.f81 [.rd 1, .rd 1, .rd 1, .rd 1] [] (X := Int × Int) (fun zx => .tuple #[vI zx.1, .int .i64 zx.2]) (fun zx => []) (fun zx => (R4 zx.1 ∧ zx = wNar (num (vW w))))) =
    (∀ b1 : Nat, ∀ b2 : Nat, b1 = b1 ∧ (none : Option Nat) = none ∧ b1 = b1 ∧ (none : Option Nat) = none ∧ b1 = b1 ∧ (none : Option Nat) = none ∧ b1 = b1 ∧ (none : Option Nat) = none ∧ (((IntKind.u64.wrap ((BitVec.ofInt 64 (IntKind.u64.wrap ((BitVec.ofInt 64 (IntKind.u64.wrap ((BitVec.ofInt 64 (lim w 4) ||| BitVec.ofInt 64 (lim w 5) : BitVec 64).toNat : Int)) ||| BitVec.ofInt 64 (lim w 6) : BitVec 64).toNat : Int)) ||| BitVec.ofInt 64 (lim w 7) : BitVec 64).toNat : Int)) != (0 : Int)) = true → b2 = b2 ∧ (none : Option Nat) = none ∧ b2 = b2 ∧ (none : Option Nat) = none ∧ b2 = b2 ∧ (none : Option Nat) = none ∧ b2 = b2 ∧ (none : Option Nat) = none ∧ b2 = b2 ∧ (none : Option Nat) = none ∧ b2 = b2 ∧ (none : Option Nat) = none ∧ b2 = b2 ∧ (none : Option Nat) = none ∧ b2 = b2 ∧ (none : Option Nat) = none ∧ ∃ zx : Int × Int, (R4 zx.1 ∧ zx = wNar (num (vW w))) ∧ Value.tuple #[.agg #[.int .u64 0, .int .u64 0, .int .u64 0, .int .u64 0], .int .i64 2] = .tuple #[vI zx.1, .int .i64 zx.2] ∧ True) ∧ (((IntKind.u64.wrap ((BitVec.ofInt 64 (IntKind.u64.wrap ((BitVec.ofInt 64 (IntKind.u64.wrap ((BitVec.ofInt 64 (lim w 4) ||| BitVec.ofInt 64 (lim w 5) : BitVec 64).toNat : Int)) ||| BitVec.ofInt 64 (lim w 6) : BitVec 64).toNat : Int)) ||| BitVec.ofInt 64 (lim w 7) : BitVec 64).toNat : Int)) != (0 : Int)) = false → b1 = b1 ∧ (none : Option Nat) = none ∧ b1 = b1 ∧ (none : Option Nat) = none ∧ b1 = b1 ∧ (none : Option Nat) = none ∧ b1 = b1 ∧ (none : Option Nat) = none ∧ b2 = b2 ∧ (none : Option Nat) = none ∧ b2 = b2 ∧ (none : Option Nat) = none ∧ b2 = b2 ∧ (none : Option Nat) = none ∧ b2 = b2 ∧ (none : Option Nat) = none ∧ b2 = b2 ∧ (none : Option Nat) = none ∧ b2 = b2 ∧ (none : Option Nat) = none ∧ b2 = b2 ∧ (none : Option Nat) = none ∧ b2 = b2 ∧ (none : Option Nat) = none ∧ ∃ zx : Int × Int, (R4 zx.1 ∧ zx = wNar (num (vW w))) ∧ Value.tuple #[vI w, .int .i64 0] = .tuple #[vI zx.1, .int .i64 zx.2] ∧ True)) := by kernel_rfl
set_option maxRecDepth 100000 in
theorem wide_narrow (w : Int) (r_w : R8 w) : CallT Try.prog 81 #[vW w] [] (Int × Int) (fun zx => .tuple #[vI zx.1, .int .i64 zx.2]) (fun zx => []) (fun zx => (R4 zx.1 ∧ zx = wNar (num (vW w)))) := by
  refine call_of (c := bodyOf Try.f81) (n := 20) (fn := Try.f81) Try.mixed Try.func81 (by kernel_rfl) (by kernel_rfl) (by kernel_rfl) 2000 _ [.rd 1, .rd 1, .rd 1, .rd 1] [] rfl rfl (Eq.mpr (wide_narrow_vc w) ?_)
  intro b1
  intro b2
  refine ⟨rfl, rfl, rfl, rfl, rfl, rfl, rfl, rfl, ?_⟩
  refine ⟨fun h1 => ?_, fun h1 => ?_⟩
  · refine ⟨rfl, rfl, rfl, rfl, rfl, rfl, rfl, rfl, ?_⟩
    refine ⟨rfl, rfl, rfl, rfl, rfl, rfl, rfl, rfl, ?_⟩
    exact fin2 (narrow_ov r_w (by assumption)) R4_zero vI_zero
  · refine ⟨rfl, rfl, rfl, rfl, rfl, rfl, rfl, rfl, rfl, rfl, rfl, rfl, rfl, rfl, rfl, rfl, ?_⟩
    refine ⟨rfl, rfl, rfl, rfl, rfl, rfl, rfl, rfl, ?_⟩
    exact fin2 (narrow_ok r_w (by assumption)).1 (narrow_ok r_w (by assumption)).2 rfl

def wide_MulDiv_C : List Value → List Slot → Ctr := fun vs hs => ⟨Int × Int, fun zx => .tuple #[vI zx.1, .int .i64 zx.2], fun _ => hs, fun zx => R4 zx.1 ∧ zx = wMulDiv (num (varg vs 1)) (num (varg vs 2)) (num (varg vs 3))⟩
set_option maxRecDepth 100000 in
theorem wide_MulDiv_vc (a : Int) (b : Int) (d : Int) : codeW Try.prog 28 none 2000 none (bodyOf Try.f34) (.reg [.sem [.nw 0], .sem [.nw 1], .sem [.nw 2], .sem [.nw 3], .sem []] (.reg [.sem [.rd 0, .rd 0, .rd 0, .rd 0], .sem [.rd 1, .rd 1, .rd 1, .rd 1], .callr [] wide_Product_C, .sem [.rd 2, .rd 2, .rd 2, .rd 2], .callr [] wide_Divide_C, .sem [], .sem [], .sem [], .sem [], .sem [.nw 4], .sem [.nw 5], .sem [.wr 4, .wr 4, .wr 4, .wr 4, .wr 4, .wr 4, .wr 4, .wr 4], .sem [.wr 5, .wr 5, .wr 5, .wr 5], .sem []] (.reg [.sem [], .sem []] (.cond (.reg [.sem [], .sem [], .sem [.wr 3, .wr 3, .wr 3, .wr 3], .sem []] (.done)) (.reg [.sem [.rd 4, .rd 4, .rd 4, .rd 4, .rd 4, .rd 4, .rd 4, .rd 4], .callr [] wide_narrow_C, .sem [], .sem [], .sem [.wr 3, .wr 3, .wr 3, .wr 3], .sem []] (.done))))))
    (init #[vI a, vI b, vI d] []) (finW Try.prog Try.f34 [.rd 3, .rd 3, .rd 3, .rd 3] [] (X := Int × Int) (fun zx => .tuple #[vI zx.1, .int .i64 zx.2]) (fun zx => []) (fun zx => (R4 zx.1 ∧ zx = wMulDiv (num (vI a)) (num (vI b)) (num (vI d))))) =
    (∀ b1 : Nat, ∀ b2 : Nat, ∀ b3 : Nat, ∀ b4 : Nat, b1 = b1 ∧ (none : Option Nat) = none ∧ b1 = b1 ∧ (none : Option Nat) = none ∧ b1 = b1 ∧ (none : Option Nat) = none ∧ b1 = b1 ∧ (none : Option Nat) = none ∧ b2 = b2 ∧ (none : Option Nat) = none ∧ b2 = b2 ∧ (none : Option Nat) = none ∧ b2 = b2 ∧ (none : Option Nat) = none ∧ b2 = b2 ∧ (none : Option Nat) = none ∧ (CallT Try.prog 29 #[vI a, vI b] [] Int (fun zx => vW zx) (fun _ => []) (fun zx => R8 zx ∧ zx = (num (vI a)) * (num (vI b)))) ∧ (∃ zx : Int, (fun zx => R8 zx ∧ zx = (num (vI a)) * (num (vI b))) zx) ∧ ∀ x5 : Int, (R8 x5 ∧ x5 = (num (vI a)) * (num (vI b))) → b3 = b3 ∧ (none : Option Nat) = none ∧ b3 = b3 ∧ (none : Option Nat) = none ∧ b3 = b3 ∧ (none : Option Nat) = none ∧ b3 = b3 ∧ (none : Option Nat) = none ∧ (CallT Try.prog 32 #[vW x5, vI d] [] (Int × Int × Int) (fun zx => .tuple #[vW zx.1, vI zx.2.1, .int .i64 zx.2.2]) (fun _ => []) (fun zx => R8 zx.1 ∧ R4 zx.2.1 ∧ zx = wDiv (num (vW x5)) (num (vI d)))) ∧ (∃ zx : Int × Int × Int, (fun zx => R8 zx.1 ∧ R4 zx.2.1 ∧ zx = wDiv (num (vW x5)) (num (vI d))) zx) ∧ ∀ x6 : Int × Int × Int, (R8 x6.1 ∧ R4 x6.2.1 ∧ x6 = wDiv (num (vW x5)) (num (vI d))) → ∀ b7 : Nat, ∀ b8 : Nat, b7 = b7 ∧ (none : Option Nat) = none ∧ b7 = b7 ∧ (none : Option Nat) = none ∧ b7 = b7 ∧ (none : Option Nat) = none ∧ b7 = b7 ∧ (none : Option Nat) = none ∧ b7 = b7 ∧ (none : Option Nat) = none ∧ b7 = b7 ∧ (none : Option Nat) = none ∧ b7 = b7 ∧ (none : Option Nat) = none ∧ b7 = b7 ∧ (none : Option Nat) = none ∧ b8 = b8 ∧ (none : Option Nat) = none ∧ b8 = b8 ∧ (none : Option Nat) = none ∧ b8 = b8 ∧ (none : Option Nat) = none ∧ b8 = b8 ∧ (none : Option Nat) = none ∧ ((x6.2.2 != (0 : Int)) = true → b4 = b4 ∧ (none : Option Nat) = none ∧ b4 = b4 ∧ (none : Option Nat) = none ∧ b4 = b4 ∧ (none : Option Nat) = none ∧ b4 = b4 ∧ (none : Option Nat) = none ∧ b4 = b4 ∧ (none : Option Nat) = none ∧ b4 = b4 ∧ (none : Option Nat) = none ∧ b4 = b4 ∧ (none : Option Nat) = none ∧ b4 = b4 ∧ (none : Option Nat) = none ∧ ∃ zx : Int × Int, (R4 zx.1 ∧ zx = wMulDiv (num (vI a)) (num (vI b)) (num (vI d))) ∧ Value.tuple #[.agg #[.int .u64 0, .int .u64 0, .int .u64 0, .int .u64 0], .int .i64 x6.2.2] = .tuple #[vI zx.1, .int .i64 zx.2] ∧ True) ∧ ((x6.2.2 != (0 : Int)) = false → b7 = b7 ∧ (none : Option Nat) = none ∧ b7 = b7 ∧ (none : Option Nat) = none ∧ b7 = b7 ∧ (none : Option Nat) = none ∧ b7 = b7 ∧ (none : Option Nat) = none ∧ b7 = b7 ∧ (none : Option Nat) = none ∧ b7 = b7 ∧ (none : Option Nat) = none ∧ b7 = b7 ∧ (none : Option Nat) = none ∧ b7 = b7 ∧ (none : Option Nat) = none ∧ (CallT Try.prog 81 #[vW x6.1] [] (Int × Int) (fun zx => .tuple #[vI zx.1, .int .i64 zx.2]) (fun _ => []) (fun zx => R4 zx.1 ∧ zx = wNar (num (vW x6.1)))) ∧ (∃ zx : Int × Int, (fun zx => R4 zx.1 ∧ zx = wNar (num (vW x6.1))) zx) ∧ ∀ x9 : Int × Int, (R4 x9.1 ∧ x9 = wNar (num (vW x6.1))) → b4 = b4 ∧ (none : Option Nat) = none ∧ b4 = b4 ∧ (none : Option Nat) = none ∧ b4 = b4 ∧ (none : Option Nat) = none ∧ b4 = b4 ∧ (none : Option Nat) = none ∧ b4 = b4 ∧ (none : Option Nat) = none ∧ b4 = b4 ∧ (none : Option Nat) = none ∧ b4 = b4 ∧ (none : Option Nat) = none ∧ b4 = b4 ∧ (none : Option Nat) = none ∧ ∃ zx : Int × Int, (R4 zx.1 ∧ zx = wMulDiv (num (vI a)) (num (vI b)) (num (vI d))) ∧ Value.tuple #[vI x9.1, .int .i64 x9.2] = .tuple #[vI zx.1, .int .i64 zx.2] ∧ True)) := by kernel_rfl
set_option maxRecDepth 100000 in
theorem wide_MulDiv (a : Int) (b : Int) (d : Int) (r_a : R4 a) (r_b : R4 b) (r_d : R4 d) : CallT Try.prog 34 #[vI a, vI b, vI d] [] (Int × Int) (fun zx => .tuple #[vI zx.1, .int .i64 zx.2]) (fun zx => []) (fun zx => (R4 zx.1 ∧ zx = wMulDiv (num (vI a)) (num (vI b)) (num (vI d)))) := by
  refine call_of (c := bodyOf Try.f34) (n := 28) (fn := Try.f34) Try.mixed Try.func34 (by kernel_rfl) (by kernel_rfl) (by kernel_rfl) 2000 _ [.rd 3, .rd 3, .rd 3, .rd 3] [] rfl rfl (Eq.mpr (wide_MulDiv_vc a b d) ?_)
  intro b1
  intro b2
  intro b3
  intro b4
  refine ⟨rfl, rfl, rfl, rfl, rfl, rfl, rfl, rfl, rfl, rfl, rfl, rfl, rfl, rfl, rfl, rfl, wide_Product a b (by assumption) (by assumption), ⟨_, prod_R (R4_num a) (R4_num b), rfl⟩, ?_⟩
  intro x5
  intro h1
  obtain ⟨rh1_, h1⟩ := h1
  try simp only [num_vI (n := a) (by assumption), num_vI (n := b) (by assumption)] at h1
  refine ⟨rfl, rfl, rfl, rfl, rfl, rfl, rfl, rfl, wide_Divide x5 d (by assumption) (by assumption), ⟨wDiv _ _, wDiv_R8 (by first | exact R8_num _ | exact by assumption) (R4_num _), wDiv_R4 (R4_num _), rfl⟩, ?_⟩
  intro x6
  intro h2
  obtain ⟨rh2_1, h2⟩ := h2
  obtain ⟨rh2_21, h2⟩ := h2
  try simp only [num_vW (n := x5) (by assumption), num_vI (n := d) (by assumption)] at h2
  intro b7
  intro b8
  refine ⟨rfl, rfl, rfl, rfl, rfl, rfl, rfl, rfl, rfl, rfl, rfl, rfl, rfl, rfl, rfl, rfl, rfl, rfl, rfl, rfl, rfl, rfl, rfl, rfl, ?_⟩
  refine ⟨fun h3 => ?_, fun h3 => ?_⟩
  · refine ⟨rfl, rfl, rfl, rfl, rfl, rfl, rfl, rfl, ?_⟩
    refine ⟨rfl, rfl, rfl, rfl, rfl, rfl, rfl, rfl, ?_⟩
    have hq := (md_err (d := d) (by assumption) (by assumption) (by assumption)).1
    exact fin2 (by rw [num_vI r_a, num_vI r_b, num_vI r_d]; exact hq) R4_zero vI_zero
  · refine ⟨rfl, rfl, rfl, rfl, rfl, rfl, rfl, rfl, rfl, rfl, rfl, rfl, rfl, rfl, rfl, rfl, wide_narrow x6.1 (by assumption), ⟨_, wNar_R (R8_num _), rfl⟩, ?_⟩
    intro x9
    intro h4
    obtain ⟨rh4_1, h4⟩ := h4
    try simp only [num_vW (n := x6.1) (by assumption)] at h4
    refine ⟨rfl, rfl, rfl, rfl, rfl, rfl, rfl, rfl, ?_⟩
    refine ⟨rfl, rfl, rfl, rfl, rfl, rfl, rfl, rfl, ?_⟩
    have hq := md_ok (d := d) (by assumption) (by assumption) (by assumption) (by assumption)
    exact fin2 (by rw [num_vI r_a, num_vI r_b, num_vI r_d]; exact hq) (by assumption) rfl

theorem Try.sl41 : SlT Try.prog 41 3 (.int .i64 0) := SlT.of (by kernel_rfl) (by kernel_rfl) (by kernel_rfl) (by kernel_rfl) rfl
theorem Try.agg3 : ∀ w, (isAgg 3).run Try.prog w = .ok false w := fun w => by kernel_rfl
theorem Try.size3 : ∀ w, (sizeOf 3).run Try.prog w = .ok 1 w := fun w => by kernel_rfl
def ref1_at_C : List Value → List Slot → Ctr := fun vs hs => ⟨Int, fun zx => .int .i64 zx, fun _ => hs, fun zx => zx = dgt (rdv (varg vs 1) (sarg hs 0)) (ci (varg vs 2)).toNat⟩
set_option maxRecDepth 100000 in
theorem ref1_at_vc (a : Row) (i : Int) : codeW Try.prog 13 none 2000 none (bodyOf Try.f72) (.reg [.sem []] (.reg [.sem [], .sem [], .eq (f_len), .sem []] (.cond (.reg [.sem [], .sem [], .eq (f_idx), .specr [0] F_get, .sem []] (.done)) (.reg [.sem []] (.done)))))
    (init #[sv a, .int .i64 i] [(ss 3 a)]) (finW Try.prog Try.f72 [] [0] (X := Int) (fun zx => .int .i64 zx) (fun zx => [(ss 3 a)]) (fun zx => (zx = dgt (rdv (sv a) (ss 3 a)) i.toNat))) =
    ((PureRun Try.prog (do pure (.value (← Builtin.len_ #[41] 3 #[sv a]))) (.int .i64 ((vlen (sv a) : Nat) : Int))) ∧ ((decide (i < ((vlen (sv a) : Nat) : Int))) = true → (PureRun Try.prog (do pure (.value (← Instr.indexAt 41 (sv a) (.int .i64 i)))) (.pointer (some ⟨(vblk (sv a)), (Int.toNat i), none⟩))) ∧ (OpT Try.prog (do pure (.value (← Instr.loadAt 3 (.pointer (some ⟨(vblk (sv a)), (Int.toNat i), none⟩))))) [(ss 3 a)] Int (fun zx => .int .i64 zx) (fun _ => [(ss 3 a)]) (fun zx => (scells (ss 3 a))[(Int.toNat i)]? = some (.int .i64 zx))) ∧ (∃ zx : Int, (fun zx => (scells (ss 3 a))[(Int.toNat i)]? = some (.int .i64 zx)) zx) ∧ ∀ x1 : Int, ((scells (ss 3 a))[(Int.toNat i)]? = some (.int .i64 x1)) → ∃ zx : Int, (zx = dgt (rdv (sv a) (ss 3 a)) i.toNat) ∧ Value.int .i64 x1 = .int .i64 zx ∧ (ss 3 a) = (ss 3 a) ∧ True) ∧ ((decide (i < ((vlen (sv a) : Nat) : Int))) = false → ∃ zx : Int, (zx = dgt (rdv (sv a) (ss 3 a)) i.toNat) ∧ Value.int .i64 0 = .int .i64 zx ∧ (ss 3 a) = (ss 3 a) ∧ True)) := by kernel_rfl
set_option maxRecDepth 100000 in
theorem ref1_at (a : Row) (i : Int) (r_a : RowOK a) (hi : 0 ≤ i) : CallT Try.prog 72 #[sv a, .int .i64 i] [(ss 3 a)] Int (fun zx => .int .i64 zx) (fun zx => [(ss 3 a)]) (fun zx => (zx = dgt (rdv (sv a) (ss 3 a)) i.toNat)) := by
  refine call_of (c := bodyOf Try.f72) (n := 13) (fn := Try.f72) Try.mixed Try.func72 (by kernel_rfl) (by kernel_rfl) (by kernel_rfl) 2000 _ [] [0] rfl rfl (Eq.mpr (ref1_at_vc a i) ?_)
  have d_a := rdv_eq a 3
  have e_a := vlen_dg a
  refine ⟨xlen Try.sl41 3 a, ?_⟩
  refine ⟨fun h1 => ?_, fun h1 => ?_⟩
  · refine ⟨xidx Try.sl41 a .i64 i hi (by rw [← vlen_sv]; exact of_decide_eq_true (by assumption)), xgetR (e := 3) a 3 Try.agg3 (Int.toNat i) r_a (by rw [← vlen_dg]; have := of_decide_eq_true ‹_›; omega), wit_get (e := 3) a (Int.toNat i) r_a (by rw [← vlen_dg]; have := of_decide_eq_true ‹_›; omega), ?_⟩
    intro x1
    intro h2
    replace h2 := getR (e := 3) a (Int.toNat i) r_a (by rw [← vlen_dg]; have := of_decide_eq_true ‹_›; omega) h2
    exact ⟨_, by rw [d_a]; assumption, rfl, rfl, trivial⟩
  · exact ⟨0, by rw [d_a]; exact (dgt_out (by have := of_decide_eq_false ‹_›; omega)).symm, rfl, rfl, trivial⟩

def ref1_Trim_C : List Value → List Slot → Ctr := fun vs hs => ⟨Row, fun zx => sv zx, fun zx => [(ss 3 zx)], fun zx => RowOK zx ∧ ss 3 zx = (sarg hs 0) ∧ TrimR (rdv (varg vs 1) (sarg hs 0)) (dg zx)⟩
set_option maxRecDepth 100000 in
theorem ref1_Trim_vc (a : Row) : codeW Try.prog 21 none 2000 none (bodyOf Try.f68) (.reg [.sem []] (.reg [.sem [], .eq (f_len), .sem []] (.inv Nat (fun zx => [(0, sv a), (3, .int .i64 ((zx : Nat) : Int))]) (fun zx => [(0, (ss 3 a))]) (fun zx => TrimI (dg a) zx) (fun zx => zx) (fun x1 => .caseP (fun s => decide ((ci (s.fr 3)) > (0 : Int))) (.reg [.sem [], .gen [] (one (.bool true)), .sem [], .sem [], .sem [], .gen [] (fun vs => one (.int .i64 (ci (varg vs 0) - ci (varg vs 1))) vs), .eq (f_idx), .specr [0] F_get, .sem [], .sem []] (.cond (.reg [.sem [], .gen [] (fun vs => one (.int .i64 (ci (varg vs 0) - ci (varg vs 1))) vs), .sem []] (.done)) (.reg [.sem [], .sem [], .eq (f_take), .sem []] (.done)))) (.reg [.sem [], .gen [] (one (.bool false)), .sem [], .no, .no, .no, .no, .no, .no, .sem []] (.condF (.reg [.sem [], .sem [], .eq (f_take), .sem []] (.done))))))))
    (init #[sv a] [(ss 3 a)]) (finW Try.prog Try.f68 [] [0] (X := Row) (fun zx => sv zx) (fun zx => [(ss 3 zx)]) (fun zx => (RowOK zx ∧ ss 3 zx = (ss 3 a) ∧ TrimR (rdv (sv a) (ss 3 a)) (dg zx)))) =
    ((PureRun Try.prog (do pure (.value (← Builtin.len_ #[41] 3 #[sv a]))) (.int .i64 ((vlen (sv a) : Nat) : Int))) ∧ (∃ zx : Nat, (TrimI (dg a) zx) ∧ sv a = sv a ∧ Value.int .i64 ((vlen (sv a) : Nat) : Int) = .int .i64 ((zx : Nat) : Int) ∧ (ss 3 a) = (ss 3 a) ∧ True) ∧ ∀ x1 : Nat, ∀ jx1 : Nat → Value, (TrimI (dg a) x1) → ((decide (((x1 : Nat) : Int) > (0 : Int))) = true → (∃ _ : Unit, True ∧ Value.bool (decide (((x1 : Nat) : Int) > (0 : Int))) = .bool true) ∧ ∀ _ : Unit, (True) → true = true ∧ true = true ∧ true = true ∧ (∃ _ : Unit, True ∧ Value.int .i64 (IntKind.i64.wrap (((x1 : Nat) : Int) - 1)) = .int .i64 (((x1 : Nat) : Int) - 1)) ∧ ∀ _ : Unit, (True) → true = true ∧ (PureRun Try.prog (do pure (.value (← Instr.indexAt 41 (sv a) (.int .i64 (((x1 : Nat) : Int) - 1))))) (.pointer (some ⟨(vblk (sv a)), (Int.toNat (((x1 : Nat) : Int) - 1)), none⟩))) ∧ true = true ∧ (OpT Try.prog (do pure (.value (← Instr.loadAt 3 (.pointer (some ⟨(vblk (sv a)), (Int.toNat (((x1 : Nat) : Int) - 1)), none⟩))))) [(ss 3 a)] Int (fun zx => .int .i64 zx) (fun _ => [(ss 3 a)]) (fun zx => (scells (ss 3 a))[(Int.toNat (((x1 : Nat) : Int) - 1))]? = some (.int .i64 zx))) ∧ (∃ zx : Int, (fun zx => (scells (ss 3 a))[(Int.toNat (((x1 : Nat) : Int) - 1))]? = some (.int .i64 zx)) zx) ∧ ∀ x2 : Int, ((scells (ss 3 a))[(Int.toNat (((x1 : Nat) : Int) - 1))]? = some (.int .i64 x2)) → true = true ∧ ((x2 == (0 : Int)) = true → (∃ _ : Unit, True ∧ Value.int .i64 (IntKind.i64.wrap (((x1 : Nat) : Int) - 1)) = .int .i64 (((x1 : Nat) : Int) - 1)) ∧ ∀ _ : Unit, (True) → ∃ zy : Nat, (TrimI (dg a) zy) ∧ zy < x1 ∧ sv a = sv a ∧ Value.int .i64 (((x1 : Nat) : Int) - 1) = .int .i64 ((zy : Nat) : Int) ∧ (ss 3 a) = (ss 3 a) ∧ True) ∧ ((x2 == (0 : Int)) = false → (PureRun Try.prog (do pure (.value (← Instr.sliceAt 41 (sv a) none (some (.int .i64 ((x1 : Nat) : Int))) none))) ((vtake (sv a) (Int.toNat ((x1 : Nat) : Int))))) ∧ ∃ zx : Row, (RowOK zx ∧ ss 3 zx = (ss 3 a) ∧ TrimR (rdv (sv a) (ss 3 a)) (dg zx)) ∧ (vtake (sv a) (Int.toNat ((x1 : Nat) : Int))) = sv zx ∧ (ss 3 a) = (ss 3 zx) ∧ True)) ∧ ((decide (((x1 : Nat) : Int) > (0 : Int))) = false → (∃ _ : Unit, True ∧ Value.bool (decide (((x1 : Nat) : Int) > (0 : Int))) = .bool false) ∧ ∀ _ : Unit, (True) → false = !true ∧ false = !true ∧ false = !true ∧ false = !true ∧ false = !true ∧ false = !true ∧ (false = false) ∧ (PureRun Try.prog (do pure (.value (← Instr.sliceAt 41 (sv a) none (some (.int .i64 ((x1 : Nat) : Int))) none))) ((vtake (sv a) (Int.toNat ((x1 : Nat) : Int))))) ∧ ∃ zx : Row, (RowOK zx ∧ ss 3 zx = (ss 3 a) ∧ TrimR (rdv (sv a) (ss 3 a)) (dg zx)) ∧ (vtake (sv a) (Int.toNat ((x1 : Nat) : Int))) = sv zx ∧ (ss 3 a) = (ss 3 zx) ∧ True)) := by kernel_rfl
set_option maxRecDepth 100000 in
theorem ref1_Trim (a : Row) (r_a : RowOK a) (hl : (dg a).length ≤ 1073741824) : CallT Try.prog 68 #[sv a] [(ss 3 a)] Row (fun zx => sv zx) (fun zx => [(ss 3 zx)]) (fun zx => (RowOK zx ∧ ss 3 zx = (ss 3 a) ∧ TrimR (rdv (sv a) (ss 3 a)) (dg zx))) := by
  refine call_of (c := bodyOf Try.f68) (n := 21) (fn := Try.f68) Try.mixed Try.func68 (by kernel_rfl) (by kernel_rfl) (by kernel_rfl) 2000 _ [] [0] rfl rfl (Eq.mpr (ref1_Trim_vc a) ?_)
  have d_a := rdv_eq a 3
  have e_a := vlen_dg a
  refine ⟨xlen Try.sl41 3 a, ?_⟩
  refine ⟨?_, fun x1 jx1 h1 => ?_⟩
  · exact ⟨_, e_a ▸ trim_start _, rfl, rfl, rfl, trivial⟩
  · have L := h1
    have Ll := L.le
    refine ⟨fun h2 => ?_, fun h2 => ?_⟩
    · refine ⟨⟨(), trivial, congrArg Value.bool h2⟩, ?_⟩
      intro _
      intro _
      refine ⟨rfl, rfl, rfl, ⟨(), trivial, congrArg (Value.int .i64) (wrap_i64 _ (by simp only [decide_eq_true_eq, decide_eq_false_iff_not, gt_iff_lt, ge_iff_le, beq_iff_eq, beq_eq_false_iff_ne] at *; omega) (by simp only [decide_eq_true_eq, decide_eq_false_iff_not, gt_iff_lt, ge_iff_le, beq_iff_eq, beq_eq_false_iff_ne] at *; omega))⟩, ?_⟩
      intro _
      intro _
      refine ⟨rfl, xidx Try.sl41 a .i64 (((x1 : Nat) : Int) - 1) (by simp only [decide_eq_true_eq, decide_eq_false_iff_not, gt_iff_lt, ge_iff_le, beq_iff_eq, beq_eq_false_iff_ne] at *; omega) (by rw [← dg_len]; simp only [decide_eq_true_eq, decide_eq_false_iff_not, gt_iff_lt, ge_iff_le, beq_iff_eq, beq_eq_false_iff_ne] at *; omega), rfl, xgetR (e := 3) a 3 Try.agg3 (Int.toNat (((x1 : Nat) : Int) - 1)) r_a (by simp only [decide_eq_true_eq, decide_eq_false_iff_not, gt_iff_lt, ge_iff_le, beq_iff_eq, beq_eq_false_iff_ne] at *; omega), wit_get (e := 3) a (Int.toNat (((x1 : Nat) : Int) - 1)) r_a (by simp only [decide_eq_true_eq, decide_eq_false_iff_not, gt_iff_lt, ge_iff_le, beq_iff_eq, beq_eq_false_iff_ne] at *; omega), ?_⟩
      intro x2
      intro h3
      replace h3 := getR (e := 3) a (Int.toNat (((x1 : Nat) : Int) - 1)) r_a (by simp only [decide_eq_true_eq, decide_eq_false_iff_not, gt_iff_lt, ge_iff_le, beq_iff_eq, beq_eq_false_iff_ne] at *; omega) h3
      refine ⟨rfl, ?_⟩
      refine ⟨fun h4 => ?_, fun h4 => ?_⟩
      · refine ⟨⟨(), trivial, congrArg (Value.int .i64) (wrap_i64 _ (by simp only [decide_eq_true_eq, decide_eq_false_iff_not, gt_iff_lt, ge_iff_le, beq_iff_eq, beq_eq_false_iff_ne] at *; omega) (by simp only [decide_eq_true_eq, decide_eq_false_iff_not, gt_iff_lt, ge_iff_le, beq_iff_eq, beq_eq_false_iff_ne] at *; omega))⟩, ?_⟩
        intro _
        intro _
        have hd : dgt (dg a) (x1 - 1) = 0 := by
          simp only [decide_eq_true_eq, decide_eq_false_iff_not, gt_iff_lt, ge_iff_le, beq_iff_eq, beq_eq_false_iff_ne] at *
          have e1 : Int.toNat (((x1 : Nat) : Int) - 1) = x1 - 1 := by omega
          simp_all
        exact ⟨x1 - 1, trim_step L (by simp only [decide_eq_true_eq, decide_eq_false_iff_not, gt_iff_lt, ge_iff_le, beq_iff_eq, beq_eq_false_iff_ne] at *; omega) hd, (by simp only [decide_eq_true_eq, decide_eq_false_iff_not, gt_iff_lt, ge_iff_le, beq_iff_eq, beq_eq_false_iff_ne] at *; omega), rfl, congrArg (Value.int .i64) (by simp only [decide_eq_true_eq, decide_eq_false_iff_not, gt_iff_lt, ge_iff_le, beq_iff_eq, beq_eq_false_iff_ne] at *; omega), rfl, trivial⟩
      · refine ⟨xtake Try.sl41 a .i64 ((x1 : Nat) : Int) (by omega) (by rw [← dg_len]; omega), ?_⟩
        refine ⟨a.take x1, ⟨(r_a.take _).1, ss_take _ _ _, ?_⟩, vtake_sv a _ (by rw [← dg_len]; exact L.le), (ss_take _ _ _).symm, trivial⟩
        rw [d_a, (r_a.take _).2]
        refine trim_end L ?_
        simp only [decide_eq_true_eq, decide_eq_false_iff_not, gt_iff_lt, ge_iff_le, beq_iff_eq, beq_eq_false_iff_ne] at *
        first | exact .inl (by omega) | exact .inr (by rename_i hne; intro h0; simp_all) | exact .inr (by intro h0; simp_all)
    · refine ⟨⟨(), trivial, congrArg Value.bool h2⟩, ?_⟩
      intro _
      intro _
      refine ⟨rfl, rfl, rfl, rfl, rfl, rfl, ?_⟩
      refine ⟨rfl, ?_⟩
      refine ⟨xtake Try.sl41 a .i64 ((x1 : Nat) : Int) (by omega) (by rw [← dg_len]; omega), ?_⟩
      refine ⟨a.take x1, ⟨(r_a.take _).1, ss_take _ _ _, ?_⟩, vtake_sv a _ (by rw [← dg_len]; exact L.le), (ss_take _ _ _).symm, trivial⟩
      rw [d_a, (r_a.take _).2]
      refine trim_end L ?_
      simp only [decide_eq_true_eq, decide_eq_false_iff_not, gt_iff_lt, ge_iff_le, beq_iff_eq, beq_eq_false_iff_ne] at *
      first | exact .inl (by omega) | exact .inr (by rename_i hne; intro h0; simp_all) | exact .inr (by intro h0; simp_all)

def ref1_Cmp_C : List Value → List Slot → Ctr := fun vs hs => ⟨Int, fun zx => .int .i64 zx, fun _ => hs, fun zx => zx = hCmp (nv (rdv (varg vs 1) (sarg hs 0))) (nv (rdv (varg vs 2) (sarg hs 1)))⟩
set_option maxRecDepth 100000 in
theorem ref1_Cmp_vc (a : Row) (b : Row) : codeW Try.prog 30 none 2000 none (bodyOf Try.f27) (.reg [.sem []] (.reg [.sem [], .eq (f_len), .sem [], .eq (f_len), .sem [], .gen [] (fun vs => one (.int .i64 (ci (varg vs 0) - ci (varg vs 1))) vs), .sem []] (.inv Nat (fun zx => [(0, sv a), (1, sv b), (5, .int .i64 (((zx : Nat) : Int) - 1))]) (fun zx => [(0, (ss 3 a)), (1, (ss 3 b))]) (fun zx => CmpI (dg a) (dg b) zx) (fun zx => zx) (fun x1 => .reg [.sem [], .sem []] (.cond (.reg [.sem [], .sem [], .callr [0] ref1_at_C, .sem [], .sem [], .callr [1] ref1_at_C, .sem []] (.cond (.reg [.sem []] (.done)) (.reg [.sem [], .sem [], .callr [0] ref1_at_C, .sem [], .sem [], .callr [1] ref1_at_C, .sem []] (.cond (.reg [.sem []] (.done)) (.reg [.sem [], .gen [] (fun vs => one (.int .i64 (ci (varg vs 0) - ci (varg vs 1))) vs), .sem []] (.done)))))) (.reg [.sem []] (.done)))))))
    (init #[sv a, sv b] [(ss 3 a), (ss 3 b)]) (finW Try.prog Try.f27 [] [0, 1] (X := Int) (fun zx => .int .i64 zx) (fun zx => [(ss 3 a), (ss 3 b)]) (fun zx => (zx = hCmp (nv (rdv (sv a) (ss 3 a))) (nv (rdv (sv b) (ss 3 b)))))) =
    ((PureRun Try.prog (do pure (.value (← Builtin.len_ #[41] 3 #[sv a]))) (.int .i64 ((vlen (sv a) : Nat) : Int))) ∧ (PureRun Try.prog (do pure (.value (← Builtin.len_ #[41] 3 #[sv b]))) (.int .i64 ((vlen (sv b) : Nat) : Int))) ∧ (∃ _ : Unit, True ∧ Value.int .i64 (IntKind.i64.wrap ((if ((vlen (sv b) : Nat) : Int) > ((vlen (sv a) : Nat) : Int) then ((vlen (sv b) : Nat) : Int) else ((vlen (sv a) : Nat) : Int)) - 1)) = .int .i64 ((if ((vlen (sv b) : Nat) : Int) > ((vlen (sv a) : Nat) : Int) then ((vlen (sv b) : Nat) : Int) else ((vlen (sv a) : Nat) : Int)) - 1)) ∧ ∀ _ : Unit, (True) → (∃ zx : Nat, (CmpI (dg a) (dg b) zx) ∧ sv a = sv a ∧ sv b = sv b ∧ Value.int .i64 ((if ((vlen (sv b) : Nat) : Int) > ((vlen (sv a) : Nat) : Int) then ((vlen (sv b) : Nat) : Int) else ((vlen (sv a) : Nat) : Int)) - 1) = .int .i64 (((zx : Nat) : Int) - 1) ∧ (ss 3 a) = (ss 3 a) ∧ (ss 3 b) = (ss 3 b) ∧ True) ∧ ∀ x1 : Nat, ∀ jx1 : Nat → Value, (CmpI (dg a) (dg b) x1) → ((decide ((((x1 : Nat) : Int) - 1) ≥ (0 : Int))) = true → (CallT Try.prog 72 #[sv a, .int .i64 (((x1 : Nat) : Int) - 1)] [(ss 3 a)] Int (fun zx => .int .i64 zx) (fun _ => [(ss 3 a)]) (fun zx => zx = dgt (rdv (sv a) (ss 3 a)) (((x1 : Nat) : Int) - 1).toNat)) ∧ (∃ zx : Int, (fun zx => zx = dgt (rdv (sv a) (ss 3 a)) (((x1 : Nat) : Int) - 1).toNat) zx) ∧ ∀ x2 : Int, (x2 = dgt (rdv (sv a) (ss 3 a)) (((x1 : Nat) : Int) - 1).toNat) → (CallT Try.prog 72 #[sv b, .int .i64 (((x1 : Nat) : Int) - 1)] [(ss 3 b)] Int (fun zx => .int .i64 zx) (fun _ => [(ss 3 b)]) (fun zx => zx = dgt (rdv (sv b) (ss 3 b)) (((x1 : Nat) : Int) - 1).toNat)) ∧ (∃ zx : Int, (fun zx => zx = dgt (rdv (sv b) (ss 3 b)) (((x1 : Nat) : Int) - 1).toNat) zx) ∧ ∀ x3 : Int, (x3 = dgt (rdv (sv b) (ss 3 b)) (((x1 : Nat) : Int) - 1).toNat) → ((decide (x2 < x3)) = true → ∃ zx : Int, (zx = hCmp (nv (rdv (sv a) (ss 3 a))) (nv (rdv (sv b) (ss 3 b)))) ∧ Value.int .i64 (-1) = .int .i64 zx ∧ (ss 3 a) = (ss 3 a) ∧ (ss 3 b) = (ss 3 b) ∧ True) ∧ ((decide (x2 < x3)) = false → (CallT Try.prog 72 #[sv a, .int .i64 (((x1 : Nat) : Int) - 1)] [(ss 3 a)] Int (fun zx => .int .i64 zx) (fun _ => [(ss 3 a)]) (fun zx => zx = dgt (rdv (sv a) (ss 3 a)) (((x1 : Nat) : Int) - 1).toNat)) ∧ (∃ zx : Int, (fun zx => zx = dgt (rdv (sv a) (ss 3 a)) (((x1 : Nat) : Int) - 1).toNat) zx) ∧ ∀ x4 : Int, (x4 = dgt (rdv (sv a) (ss 3 a)) (((x1 : Nat) : Int) - 1).toNat) → (CallT Try.prog 72 #[sv b, .int .i64 (((x1 : Nat) : Int) - 1)] [(ss 3 b)] Int (fun zx => .int .i64 zx) (fun _ => [(ss 3 b)]) (fun zx => zx = dgt (rdv (sv b) (ss 3 b)) (((x1 : Nat) : Int) - 1).toNat)) ∧ (∃ zx : Int, (fun zx => zx = dgt (rdv (sv b) (ss 3 b)) (((x1 : Nat) : Int) - 1).toNat) zx) ∧ ∀ x5 : Int, (x5 = dgt (rdv (sv b) (ss 3 b)) (((x1 : Nat) : Int) - 1).toNat) → ((decide (x4 > x5)) = true → ∃ zx : Int, (zx = hCmp (nv (rdv (sv a) (ss 3 a))) (nv (rdv (sv b) (ss 3 b)))) ∧ Value.int .i64 1 = .int .i64 zx ∧ (ss 3 a) = (ss 3 a) ∧ (ss 3 b) = (ss 3 b) ∧ True) ∧ ((decide (x4 > x5)) = false → (∃ _ : Unit, True ∧ Value.int .i64 (IntKind.i64.wrap ((((x1 : Nat) : Int) - 1) - 1)) = .int .i64 ((((x1 : Nat) : Int) - 1) - 1)) ∧ ∀ _ : Unit, (True) → ∃ zy : Nat, (CmpI (dg a) (dg b) zy) ∧ zy < x1 ∧ sv a = sv a ∧ sv b = sv b ∧ Value.int .i64 ((((x1 : Nat) : Int) - 1) - 1) = .int .i64 (((zy : Nat) : Int) - 1) ∧ (ss 3 a) = (ss 3 a) ∧ (ss 3 b) = (ss 3 b) ∧ True))) ∧ ((decide ((((x1 : Nat) : Int) - 1) ≥ (0 : Int))) = false → ∃ zx : Int, (zx = hCmp (nv (rdv (sv a) (ss 3 a))) (nv (rdv (sv b) (ss 3 b)))) ∧ Value.int .i64 0 = .int .i64 zx ∧ (ss 3 a) = (ss 3 a) ∧ (ss 3 b) = (ss 3 b) ∧ True)) := by kernel_rfl
set_option maxRecDepth 100000 in
theorem ref1_Cmp (a : Row) (b : Row) (r_a : RowOK a) (r_b : RowOK b) (la : (dg a).length ≤ 65536) (lb : (dg b).length ≤ 65536) : CallT Try.prog 27 #[sv a, sv b] [(ss 3 a), (ss 3 b)] Int (fun zx => .int .i64 zx) (fun zx => [(ss 3 a), (ss 3 b)]) (fun zx => (zx = hCmp (nv (rdv (sv a) (ss 3 a))) (nv (rdv (sv b) (ss 3 b))))) := by
  refine call_of (c := bodyOf Try.f27) (n := 30) (fn := Try.f27) Try.mixed Try.func27 (by kernel_rfl) (by kernel_rfl) (by kernel_rfl) 2000 _ [] [0, 1] rfl rfl (Eq.mpr (ref1_Cmp_vc a b) ?_)
  have d_a := rdv_eq a 3
  have d_b := rdv_eq b 3
  have e_a := vlen_dg a
  have e_b := vlen_dg b
  refine ⟨xlen Try.sl41 3 a, xlen Try.sl41 3 b, ⟨(), trivial, congrArg (Value.int .i64) (wrap_i64 _ (by rw [e_a, e_b]; split <;> omega) (by rw [e_a, e_b]; split <;> omega))⟩, ?_⟩
  intro _
  intro _
  refine ⟨?_, fun x1 jx1 h1 => ?_⟩
  · exact ⟨_, cmp_start _ _, rfl, rfl, congrArg (Value.int .i64) (by rw [e_a, e_b]; split <;> omega), rfl, rfl, trivial⟩
  · have L := h1
    have Ll := L.le
    refine ⟨fun h2 => ?_, fun h2 => ?_⟩
    · refine ⟨ref1_at a (((x1 : Nat) : Int) - 1) (by first | assumption | exact rowOK_lit _ _ (by decide)) (by simp only [decide_eq_true_eq, decide_eq_false_iff_not, gt_iff_lt, ge_iff_le, beq_iff_eq, beq_eq_false_iff_ne] at *; omega), ⟨_, rfl⟩, ?_⟩
      intro x2
      intro h3
      simp only [rdv_eq] at h3
      refine ⟨ref1_at b (((x1 : Nat) : Int) - 1) (by first | assumption | exact rowOK_lit _ _ (by decide)) (by simp only [decide_eq_true_eq, decide_eq_false_iff_not, gt_iff_lt, ge_iff_le, beq_iff_eq, beq_eq_false_iff_ne] at *; omega), ⟨_, rfl⟩, ?_⟩
      intro x3
      intro h4
      simp only [rdv_eq] at h4
      refine ⟨fun h5 => ?_, fun h5 => ?_⟩
      · have et : Int.toNat (((x1 : Nat) : Int) - 1) = x1 - 1 := by simp only [decide_eq_true_eq, decide_eq_false_iff_not, gt_iff_lt, ge_iff_le, beq_iff_eq, beq_eq_false_iff_ne] at *; omega
        have hd : dgt (dg a) (x1 - 1) < dgt (dg b) (x1 - 1) := by
          simp only [et] at *
          simp only [decide_eq_true_eq, decide_eq_false_iff_not, gt_iff_lt, ge_iff_le, beq_iff_eq, beq_eq_false_iff_ne] at *
          omega
        exact ⟨_, by rw [d_a, d_b]; exact hCmp_lt (cmp_lt r_a.dig r_b.dig L (by simp only [decide_eq_true_eq, decide_eq_false_iff_not, gt_iff_lt, ge_iff_le, beq_iff_eq, beq_eq_false_iff_ne] at *; omega) hd), rfl, rfl, rfl, trivial⟩
      · refine ⟨ref1_at a (((x1 : Nat) : Int) - 1) (by first | assumption | exact rowOK_lit _ _ (by decide)) (by simp only [decide_eq_true_eq, decide_eq_false_iff_not, gt_iff_lt, ge_iff_le, beq_iff_eq, beq_eq_false_iff_ne] at *; omega), ⟨_, rfl⟩, ?_⟩
        intro x4
        intro h6
        simp only [rdv_eq] at h6
        refine ⟨ref1_at b (((x1 : Nat) : Int) - 1) (by first | assumption | exact rowOK_lit _ _ (by decide)) (by simp only [decide_eq_true_eq, decide_eq_false_iff_not, gt_iff_lt, ge_iff_le, beq_iff_eq, beq_eq_false_iff_ne] at *; omega), ⟨_, rfl⟩, ?_⟩
        intro x5
        intro h7
        simp only [rdv_eq] at h7
        refine ⟨fun h8 => ?_, fun h8 => ?_⟩
        · have et : Int.toNat (((x1 : Nat) : Int) - 1) = x1 - 1 := by simp only [decide_eq_true_eq, decide_eq_false_iff_not, gt_iff_lt, ge_iff_le, beq_iff_eq, beq_eq_false_iff_ne] at *; omega
          have hd : dgt (dg a) (x1 - 1) > dgt (dg b) (x1 - 1) := by
            simp only [et] at *
            simp only [decide_eq_true_eq, decide_eq_false_iff_not, gt_iff_lt, ge_iff_le, beq_iff_eq, beq_eq_false_iff_ne] at *
            omega
          exact ⟨_, by rw [d_a, d_b]; exact hCmp_gt (cmp_lt r_b.dig r_a.dig L.symm (by simp only [decide_eq_true_eq, decide_eq_false_iff_not, gt_iff_lt, ge_iff_le, beq_iff_eq, beq_eq_false_iff_ne] at *; omega) hd), rfl, rfl, rfl, trivial⟩
        · refine ⟨⟨(), trivial, congrArg (Value.int .i64) (wrap_i64 _ (by simp only [decide_eq_true_eq, decide_eq_false_iff_not, gt_iff_lt, ge_iff_le, beq_iff_eq, beq_eq_false_iff_ne] at *; omega) (by simp only [decide_eq_true_eq, decide_eq_false_iff_not, gt_iff_lt, ge_iff_le, beq_iff_eq, beq_eq_false_iff_ne] at *; omega))⟩, ?_⟩
          intro _
          intro _
          have et : Int.toNat (((x1 : Nat) : Int) - 1) = x1 - 1 := by simp only [decide_eq_true_eq, decide_eq_false_iff_not, gt_iff_lt, ge_iff_le, beq_iff_eq, beq_eq_false_iff_ne] at *; omega
          have hd : dgt (dg a) (x1 - 1) = dgt (dg b) (x1 - 1) := by
            simp only [et] at *
            simp only [decide_eq_true_eq, decide_eq_false_iff_not, gt_iff_lt, ge_iff_le, beq_iff_eq, beq_eq_false_iff_ne] at *
            omega
          exact ⟨x1 - 1, cmp_step L (by simp only [decide_eq_true_eq, decide_eq_false_iff_not, gt_iff_lt, ge_iff_le, beq_iff_eq, beq_eq_false_iff_ne] at *; omega) hd, (by simp only [decide_eq_true_eq, decide_eq_false_iff_not, gt_iff_lt, ge_iff_le, beq_iff_eq, beq_eq_false_iff_ne] at *; omega), rfl, rfl, congrArg (Value.int .i64) (by simp only [decide_eq_true_eq, decide_eq_false_iff_not, gt_iff_lt, ge_iff_le, beq_iff_eq, beq_eq_false_iff_ne] at *; omega), rfl, rfl, trivial⟩
    · have ez : x1 = 0 := (by simp only [decide_eq_true_eq, decide_eq_false_iff_not, gt_iff_lt, ge_iff_le, beq_iff_eq, beq_eq_false_iff_ne] at *; omega)
      rw [ez] at L
      exact ⟨_, by rw [d_a, d_b]; exact hCmp_eq (cmp_end L), rfl, rfl, rfl, trivial⟩

def ref1_Add_C : List Value → List Slot → Ctr := fun vs hs => ⟨Row, fun zx => sv zx, fun zx => [(sarg hs 0), (sarg hs 1), (ss 3 zx)], fun zx => RowOK zx ∧ nv (dg zx) = nv (rdv (varg vs 1) (sarg hs 0)) + nv (rdv (varg vs 2) (sarg hs 1)) ∧ Canon (dg zx)⟩
set_option maxRecDepth 100000 in
set_option maxHeartbeats 1000000 in
theorem ref1_Add_vc (a : Row) (b : Row) : codeW Try.prog 40 none 2000 none (bodyOf Try.f22) (.reg [.sem []] (.reg [.sem []] (.reg [.sem []] (.reg [.sem []] (.inv (Nat × Int × Row) (fun zx => [(0, sv a), (1, sv b), (5, sv zx.2.2), (6, .int .i64 zx.2.1), (7, .int .i64 ((zx.1 : Nat) : Int))]) (fun zx => [(0, (ss 3 a)), (1, (ss 3 b)), (20, (ss 3 zx.2.2))]) (fun zx => AddI (dg a) (dg b) zx.1 zx.2.1 (dg zx.2.2) ∧ RowOK zx.2.2) (fun zx => 2 * ((max (dg a).length (dg b).length) + 1 - zx.1) + zx.2.1.toNat) (fun x1 => .caseP (fun s => decide ((ci (s.fr 7)) < (if ((vlen (sv b) : Nat) : Int) > ((vlen (sv a) : Nat) : Int) then ((vlen (sv b) : Nat) : Int) else ((vlen (sv a) : Nat) : Int)))) (.reg [.sem [], .sem [], .eq (f_len), .sem [], .eq (f_len), .sem [], .gen [] (one (.bool true)), .sem [], .no, .no, .sem []] (.condT (.reg [.sem [], .sem [], .callr [0] ref1_at_C, .sem [], .sem [], .callr [1] ref1_at_C, .gen [] (fun vs => one (.int .i64 (ci (varg vs 0) + ci (varg vs 1))) vs), .sem [], .gen [] (fun vs => one (.int .i64 (ci (varg vs 0) + ci (varg vs 1))) vs), .sem []] (.reg [.sem [], .sem [], .gen [] (fun vs => one (.int .i64 (ci (varg vs 0) % 65536)) vs), .sem [.nw 2], .specw [20, 2] [20, 2] (F_app 3), .sem []] (.reg [.sem [], .gen [] (fun vs => one (.int .i64 (ci (varg vs 0) / 65536)) vs), .sem []] (.reg [.sem [], .gen [] (fun vs => one (.int .i64 (ci (varg vs 0) + ci (varg vs 1))) vs), .sem []] (.done))))))) (.reg [.sem [], .sem [], .eq (f_len), .sem [], .eq (f_len), .sem [], .gen [] (one (.bool false)), .sem [], .sem [], .sem [], .sem []] (.cond (.reg [.sem [], .sem [], .callr [0] ref1_at_C, .sem [], .sem [], .callr [1] ref1_at_C, .gen [] (fun vs => one (.int .i64 (ci (varg vs 0) + ci (varg vs 1))) vs), .sem [], .gen [] (fun vs => one (.int .i64 (ci (varg vs 0) + ci (varg vs 1))) vs), .sem []] (.reg [.sem [], .sem [], .gen [] (fun vs => one (.int .i64 (ci (varg vs 0) % 65536)) vs), .sem [.nw 2], .specw [20, 2] [20, 2] (F_app 3), .sem []] (.reg [.sem [], .gen [] (fun vs => one (.int .i64 (ci (varg vs 0) / 65536)) vs), .sem []] (.reg [.sem [], .gen [] (fun vs => one (.int .i64 (ci (varg vs 0) + ci (varg vs 1))) vs), .sem []] (.done))))) (.reg [.sem [], .callw [20] [20] ref1_Trim_C, .sem []] (.done))))))))))
    (init #[sv a, sv b] [(ss 3 a), (ss 3 b)]) (finW Try.prog Try.f22 [] [0, 1, 20] (X := Row) (fun zx => sv zx) (fun zx => [(ss 3 a), (ss 3 b), (ss 3 zx)]) (fun zx => (RowOK zx ∧ nv (dg zx) = nv (rdv (sv a) (ss 3 a)) + nv (rdv (sv b) (ss 3 b)) ∧ Canon (dg zx)))) =
    ((∃ zx : Nat × Int × Row, (AddI (dg a) (dg b) zx.1 zx.2.1 (dg zx.2.2) ∧ RowOK zx.2.2) ∧ sv a = sv a ∧ sv b = sv b ∧ Value.slice none 0 0 = sv zx.2.2 ∧ Value.int .i64 0 = .int .i64 zx.2.1 ∧ Value.int .i64 0 = .int .i64 ((zx.1 : Nat) : Int) ∧ (ss 3 a) = (ss 3 a) ∧ (ss 3 b) = (ss 3 b) ∧ Slot.free = (ss 3 zx.2.2) ∧ True) ∧ ∀ x1 : Nat × Int × Row, ∀ jx1 : Nat → Value, (AddI (dg a) (dg b) x1.1 x1.2.1 (dg x1.2.2) ∧ RowOK x1.2.2) → ((decide (((x1.1 : Nat) : Int) < (if ((vlen (sv b) : Nat) : Int) > ((vlen (sv a) : Nat) : Int) then ((vlen (sv b) : Nat) : Int) else ((vlen (sv a) : Nat) : Int)))) = true → (PureRun Try.prog (do pure (.value (← Builtin.len_ #[41] 3 #[sv a]))) (.int .i64 ((vlen (sv a) : Nat) : Int))) ∧ (PureRun Try.prog (do pure (.value (← Builtin.len_ #[41] 3 #[sv b]))) (.int .i64 ((vlen (sv b) : Nat) : Int))) ∧ (∃ _ : Unit, True ∧ Value.bool (decide (((x1.1 : Nat) : Int) < (if ((vlen (sv b) : Nat) : Int) > ((vlen (sv a) : Nat) : Int) then ((vlen (sv b) : Nat) : Int) else ((vlen (sv a) : Nat) : Int)))) = .bool true) ∧ ∀ _ : Unit, (True) → true = !false ∧ true = !false ∧ (true = true) ∧ (CallT Try.prog 72 #[sv a, .int .i64 ((x1.1 : Nat) : Int)] [(ss 3 a)] Int (fun zx => .int .i64 zx) (fun _ => [(ss 3 a)]) (fun zx => zx = dgt (rdv (sv a) (ss 3 a)) ((x1.1 : Nat) : Int).toNat)) ∧ (∃ zx : Int, (fun zx => zx = dgt (rdv (sv a) (ss 3 a)) ((x1.1 : Nat) : Int).toNat) zx) ∧ ∀ x2 : Int, (x2 = dgt (rdv (sv a) (ss 3 a)) ((x1.1 : Nat) : Int).toNat) → (CallT Try.prog 72 #[sv b, .int .i64 ((x1.1 : Nat) : Int)] [(ss 3 b)] Int (fun zx => .int .i64 zx) (fun _ => [(ss 3 b)]) (fun zx => zx = dgt (rdv (sv b) (ss 3 b)) ((x1.1 : Nat) : Int).toNat)) ∧ (∃ zx : Int, (fun zx => zx = dgt (rdv (sv b) (ss 3 b)) ((x1.1 : Nat) : Int).toNat) zx) ∧ ∀ x3 : Int, (x3 = dgt (rdv (sv b) (ss 3 b)) ((x1.1 : Nat) : Int).toNat) → (∃ _ : Unit, True ∧ Value.int .i64 (IntKind.i64.wrap (x2 + x3)) = .int .i64 (x2 + x3)) ∧ ∀ _ : Unit, (True) → (∃ _ : Unit, True ∧ Value.int .i64 (IntKind.i64.wrap ((x2 + x3) + x1.2.1)) = .int .i64 ((x2 + x3) + x1.2.1)) ∧ ∀ _ : Unit, (True) → (∃ _ : Unit, True ∧ Value.int .i64 (Int.tmod ((x2 + x3) + x1.2.1) 65536) = .int .i64 (((x2 + x3) + x1.2.1) % 65536)) ∧ ∀ _ : Unit, (True) → ∀ b4 : Nat, (OpT Try.prog (do pure (.value (← Builtin.append_ #[41, 41] 41 #[sv x1.2.2, .slice (some ⟨b4, 0, none⟩) 1 1]))) [(ss 3 x1.2.2), .blk b4 (.cells #[.int .i64 (((x2 + x3) + x1.2.1) % 65536)] 3 (0, 0))] Row (fun zx => sv zx) (fun zx => [(ss 3 zx), .blk b4 (.cells #[.int .i64 (((x2 + x3) + x1.2.1) % 65536)] 3 (0, 0))]) (fun zx => vals zx = rvals (sv x1.2.2) (ss 3 x1.2.2) ++ [.int .i64 (((x2 + x3) + x1.2.1) % 65536)])) ∧ (∃ zx : Row, (fun zx => vals zx = rvals (sv x1.2.2) (ss 3 x1.2.2) ++ [.int .i64 (((x2 + x3) + x1.2.1) % 65536)]) zx) ∧ ∀ x5 : Row, (vals x5 = rvals (sv x1.2.2) (ss 3 x1.2.2) ++ [.int .i64 (((x2 + x3) + x1.2.1) % 65536)]) → (∃ _ : Unit, True ∧ Value.int .i64 (IntKind.i64.wrap (Int.tdiv ((x2 + x3) + x1.2.1) 65536)) = .int .i64 (((x2 + x3) + x1.2.1) / 65536)) ∧ ∀ _ : Unit, (True) → (∃ _ : Unit, True ∧ Value.int .i64 (IntKind.i64.wrap (((x1.1 : Nat) : Int) + 1)) = .int .i64 (((x1.1 : Nat) : Int) + 1)) ∧ ∀ _ : Unit, (True) → ∃ zy : Nat × Int × Row, (AddI (dg a) (dg b) zy.1 zy.2.1 (dg zy.2.2) ∧ RowOK zy.2.2) ∧ 2 * ((max (dg a).length (dg b).length) + 1 - zy.1) + zy.2.1.toNat < 2 * ((max (dg a).length (dg b).length) + 1 - x1.1) + x1.2.1.toNat ∧ sv a = sv a ∧ sv b = sv b ∧ sv x5 = sv zy.2.2 ∧ Value.int .i64 (((x2 + x3) + x1.2.1) / 65536) = .int .i64 zy.2.1 ∧ Value.int .i64 (((x1.1 : Nat) : Int) + 1) = .int .i64 ((zy.1 : Nat) : Int) ∧ (ss 3 a) = (ss 3 a) ∧ (ss 3 b) = (ss 3 b) ∧ (ss 3 x5) = (ss 3 zy.2.2) ∧ True) ∧ ((decide (((x1.1 : Nat) : Int) < (if ((vlen (sv b) : Nat) : Int) > ((vlen (sv a) : Nat) : Int) then ((vlen (sv b) : Nat) : Int) else ((vlen (sv a) : Nat) : Int)))) = false → (PureRun Try.prog (do pure (.value (← Builtin.len_ #[41] 3 #[sv a]))) (.int .i64 ((vlen (sv a) : Nat) : Int))) ∧ (PureRun Try.prog (do pure (.value (← Builtin.len_ #[41] 3 #[sv b]))) (.int .i64 ((vlen (sv b) : Nat) : Int))) ∧ (∃ _ : Unit, True ∧ Value.bool (decide (((x1.1 : Nat) : Int) < (if ((vlen (sv b) : Nat) : Int) > ((vlen (sv a) : Nat) : Int) then ((vlen (sv b) : Nat) : Int) else ((vlen (sv a) : Nat) : Int)))) = .bool false) ∧ ∀ _ : Unit, (True) → false = false ∧ false = false ∧ ((decide (x1.2.1 > (0 : Int))) = true → (CallT Try.prog 72 #[sv a, .int .i64 ((x1.1 : Nat) : Int)] [(ss 3 a)] Int (fun zx => .int .i64 zx) (fun _ => [(ss 3 a)]) (fun zx => zx = dgt (rdv (sv a) (ss 3 a)) ((x1.1 : Nat) : Int).toNat)) ∧ (∃ zx : Int, (fun zx => zx = dgt (rdv (sv a) (ss 3 a)) ((x1.1 : Nat) : Int).toNat) zx) ∧ ∀ x6 : Int, (x6 = dgt (rdv (sv a) (ss 3 a)) ((x1.1 : Nat) : Int).toNat) → (CallT Try.prog 72 #[sv b, .int .i64 ((x1.1 : Nat) : Int)] [(ss 3 b)] Int (fun zx => .int .i64 zx) (fun _ => [(ss 3 b)]) (fun zx => zx = dgt (rdv (sv b) (ss 3 b)) ((x1.1 : Nat) : Int).toNat)) ∧ (∃ zx : Int, (fun zx => zx = dgt (rdv (sv b) (ss 3 b)) ((x1.1 : Nat) : Int).toNat) zx) ∧ ∀ x7 : Int, (x7 = dgt (rdv (sv b) (ss 3 b)) ((x1.1 : Nat) : Int).toNat) → (∃ _ : Unit, True ∧ Value.int .i64 (IntKind.i64.wrap (x6 + x7)) = .int .i64 (x6 + x7)) ∧ ∀ _ : Unit, (True) → (∃ _ : Unit, True ∧ Value.int .i64 (IntKind.i64.wrap ((x6 + x7) + x1.2.1)) = .int .i64 ((x6 + x7) + x1.2.1)) ∧ ∀ _ : Unit, (True) → (∃ _ : Unit, True ∧ Value.int .i64 (Int.tmod ((x6 + x7) + x1.2.1) 65536) = .int .i64 (((x6 + x7) + x1.2.1) % 65536)) ∧ ∀ _ : Unit, (True) → ∀ b8 : Nat, (OpT Try.prog (do pure (.value (← Builtin.append_ #[41, 41] 41 #[sv x1.2.2, .slice (some ⟨b8, 0, none⟩) 1 1]))) [(ss 3 x1.2.2), .blk b8 (.cells #[.int .i64 (((x6 + x7) + x1.2.1) % 65536)] 3 (0, 0))] Row (fun zx => sv zx) (fun zx => [(ss 3 zx), .blk b8 (.cells #[.int .i64 (((x6 + x7) + x1.2.1) % 65536)] 3 (0, 0))]) (fun zx => vals zx = rvals (sv x1.2.2) (ss 3 x1.2.2) ++ [.int .i64 (((x6 + x7) + x1.2.1) % 65536)])) ∧ (∃ zx : Row, (fun zx => vals zx = rvals (sv x1.2.2) (ss 3 x1.2.2) ++ [.int .i64 (((x6 + x7) + x1.2.1) % 65536)]) zx) ∧ ∀ x9 : Row, (vals x9 = rvals (sv x1.2.2) (ss 3 x1.2.2) ++ [.int .i64 (((x6 + x7) + x1.2.1) % 65536)]) → (∃ _ : Unit, True ∧ Value.int .i64 (IntKind.i64.wrap (Int.tdiv ((x6 + x7) + x1.2.1) 65536)) = .int .i64 (((x6 + x7) + x1.2.1) / 65536)) ∧ ∀ _ : Unit, (True) → (∃ _ : Unit, True ∧ Value.int .i64 (IntKind.i64.wrap (((x1.1 : Nat) : Int) + 1)) = .int .i64 (((x1.1 : Nat) : Int) + 1)) ∧ ∀ _ : Unit, (True) → ∃ zy : Nat × Int × Row, (AddI (dg a) (dg b) zy.1 zy.2.1 (dg zy.2.2) ∧ RowOK zy.2.2) ∧ 2 * ((max (dg a).length (dg b).length) + 1 - zy.1) + zy.2.1.toNat < 2 * ((max (dg a).length (dg b).length) + 1 - x1.1) + x1.2.1.toNat ∧ sv a = sv a ∧ sv b = sv b ∧ sv x9 = sv zy.2.2 ∧ Value.int .i64 (((x6 + x7) + x1.2.1) / 65536) = .int .i64 zy.2.1 ∧ Value.int .i64 (((x1.1 : Nat) : Int) + 1) = .int .i64 ((zy.1 : Nat) : Int) ∧ (ss 3 a) = (ss 3 a) ∧ (ss 3 b) = (ss 3 b) ∧ (ss 3 x9) = (ss 3 zy.2.2) ∧ True) ∧ ((decide (x1.2.1 > (0 : Int))) = false → (CallT Try.prog 68 #[sv x1.2.2] [(ss 3 x1.2.2)] Row (fun zx => sv zx) (fun zx => [(ss 3 zx)]) (fun zx => RowOK zx ∧ ss 3 zx = (ss 3 x1.2.2) ∧ TrimR (rdv (sv x1.2.2) (ss 3 x1.2.2)) (dg zx))) ∧ (∃ zx : Row, (fun zx => RowOK zx ∧ ss 3 zx = (ss 3 x1.2.2) ∧ TrimR (rdv (sv x1.2.2) (ss 3 x1.2.2)) (dg zx)) zx) ∧ ∀ x10 : Row, (RowOK x10 ∧ ss 3 x10 = (ss 3 x1.2.2) ∧ TrimR (rdv (sv x1.2.2) (ss 3 x1.2.2)) (dg x10)) → ∃ zx : Row, (RowOK zx ∧ nv (dg zx) = nv (rdv (sv a) (ss 3 a)) + nv (rdv (sv b) (ss 3 b)) ∧ Canon (dg zx)) ∧ sv x10 = sv zx ∧ (ss 3 a) = (ss 3 a) ∧ (ss 3 b) = (ss 3 b) ∧ (ss 3 x10) = (ss 3 zx) ∧ True))) := by kernel_rfl
set_option maxRecDepth 100000 in
set_option maxHeartbeats 1000000 in
theorem ref1_Add (a : Row) (b : Row) (r_a : RowOK a) (r_b : RowOK b) (la : (dg a).length ≤ 65536) (lb : (dg b).length ≤ 65536) : CallT Try.prog 22 #[sv a, sv b] [(ss 3 a), (ss 3 b)] Row (fun zx => sv zx) (fun zx => [(ss 3 a), (ss 3 b), (ss 3 zx)]) (fun zx => (RowOK zx ∧ nv (dg zx) = nv (rdv (sv a) (ss 3 a)) + nv (rdv (sv b) (ss 3 b)) ∧ Canon (dg zx))) := by
  refine call_of (c := bodyOf Try.f22) (n := 40) (fn := Try.f22) Try.mixed Try.func22 (by kernel_rfl) (by kernel_rfl) (by kernel_rfl) 2000 _ [] [0, 1, 20] rfl rfl (Eq.mpr (ref1_Add_vc a b) ?_)
  have d_a := rdv_eq a 3
  have d_b := rdv_eq b 3
  have e_a := vlen_dg a
  have e_b := vlen_dg b
  have hm : (if (((vlen (sv b) : Nat) : Int)) > (((vlen (sv a) : Nat) : Int)) then (((vlen (sv b) : Nat) : Int)) else (((vlen (sv a) : Nat) : Int))) = (((max (dg a).length (dg b).length) : Nat) : Int) := by rw [e_a, e_b]; split <;> omega
  refine ⟨?_, fun x1 jx1 h1 => ?_⟩
  · exact ⟨(0, 0, Row.nil), ⟨add_start _ _, RowOK.nil⟩, rfl, rfl, rfl, rfl, rfl, rfl, rfl, rfl, trivial⟩
  · obtain ⟨L, ok⟩ := h1
    have l1 := L.le; have l2 := L.len; have l3 := L.c0; have l4 := L.c1; have l5 := L.ends
    have da := r_a.dig.dgt (Int.toNat ((x1.1 : Nat) : Int))
    have db := r_b.dig.dgt (Int.toNat ((x1.1 : Nat) : Int))
    refine ⟨fun h2 => ?_, fun h2 => ?_⟩
    · refine ⟨xlen Try.sl41 3 a, xlen Try.sl41 3 b, ⟨(), trivial, congrArg Value.bool h2⟩, ?_⟩
      intro _
      intro _
      refine ⟨rfl, rfl, ?_⟩
      refine ⟨rfl, ?_⟩
      try rw [hm] at *
      refine ⟨ref1_at a ((x1.1 : Nat) : Int) (by first | assumption | exact rowOK_lit _ _ (by decide)) (by omega), ⟨_, rfl⟩, ?_⟩
      intro x2
      intro h3
      simp only [rdv_eq] at h3
      refine ⟨ref1_at b ((x1.1 : Nat) : Int) (by first | assumption | exact rowOK_lit _ _ (by decide)) (by omega), ⟨_, rfl⟩, ?_⟩
      intro x3
      intro h4
      simp only [rdv_eq] at h4
      refine ⟨⟨(), trivial, congrArg (Value.int .i64) (wrap_i64 _ (by omega) (by omega))⟩, ?_⟩
      intro _
      intro _
      refine ⟨⟨(), trivial, congrArg (Value.int .i64) (wrap_i64 _ (by omega) (by omega))⟩, ?_⟩
      intro _
      intro _
      refine ⟨⟨(), trivial, congrArg (Value.int .i64) (tmod_nat (by omega))⟩, ?_⟩
      intro _
      intro _
      intro b4
      refine ⟨xappendR Try.sl41 41 x1.2.2 (by omega) b4 1 (.int .i64 (((x2 + x3) + x1.2.1) % 65536)) rfl, wit_app _, ?_⟩
      intro x5
      intro h5
      rw [rvals_eq] at h5
      refine ⟨⟨(), trivial, congrArg (Value.int .i64) (quo_i64 (by omega) (by omega))⟩, ?_⟩
      intro _
      intro _
      refine ⟨⟨(), trivial, congrArg (Value.int .i64) (wrap_i64 _ (by omega) (by omega))⟩, ?_⟩
      intro _
      intro _
      have hx : ((x2 + x3) + x1.2.1) = dgt (dg a) x1.1 + dgt (dg b) x1.1 + x1.2.1 := by
        simp only [Int.toNat_natCast] at *
        omega
      have hlt : (x1.1 < (max (dg a).length (dg b).length)) ∨ 0 < x1.2.1 := by
        simp only [decide_eq_true_eq, decide_eq_false_iff_not, gt_iff_lt, ge_iff_le, beq_iff_eq, beq_eq_false_iff_ne] at *
        omega
      obtain ⟨q1, q2, q3⟩ := add_step r_a.dig r_b.dig L hx hlt
      have q := RowOK.snoc ok q2 q3 (by assumption)
      have hmu := q1.c1
      exact ⟨(x1.1 + 1, ((x2 + x3) + x1.2.1) / 65536, x5), ⟨q.2 ▸ q1, q.1⟩, by dsimp only; omega, rfl, rfl, rfl, rfl, congrArg (Value.int .i64) (by dsimp only; omega), rfl, rfl, rfl, trivial⟩
    · refine ⟨xlen Try.sl41 3 a, xlen Try.sl41 3 b, ⟨(), trivial, congrArg Value.bool h2⟩, ?_⟩
      intro _
      intro _
      refine ⟨rfl, rfl, ?_⟩
      refine ⟨fun h6 => ?_, fun h6 => ?_⟩
      · try rw [hm] at *
        refine ⟨ref1_at a ((x1.1 : Nat) : Int) (by first | assumption | exact rowOK_lit _ _ (by decide)) (by omega), ⟨_, rfl⟩, ?_⟩
        intro x6
        intro h7
        simp only [rdv_eq] at h7
        refine ⟨ref1_at b ((x1.1 : Nat) : Int) (by first | assumption | exact rowOK_lit _ _ (by decide)) (by omega), ⟨_, rfl⟩, ?_⟩
        intro x7
        intro h8
        simp only [rdv_eq] at h8
        refine ⟨⟨(), trivial, congrArg (Value.int .i64) (wrap_i64 _ (by omega) (by omega))⟩, ?_⟩
        intro _
        intro _
        refine ⟨⟨(), trivial, congrArg (Value.int .i64) (wrap_i64 _ (by omega) (by omega))⟩, ?_⟩
        intro _
        intro _
        refine ⟨⟨(), trivial, congrArg (Value.int .i64) (tmod_nat (by omega))⟩, ?_⟩
        intro _
        intro _
        intro b8
        refine ⟨xappendR Try.sl41 41 x1.2.2 (by omega) b8 1 (.int .i64 (((x6 + x7) + x1.2.1) % 65536)) rfl, wit_app _, ?_⟩
        intro x9
        intro h9
        rw [rvals_eq] at h9
        refine ⟨⟨(), trivial, congrArg (Value.int .i64) (quo_i64 (by omega) (by omega))⟩, ?_⟩
        intro _
        intro _
        refine ⟨⟨(), trivial, congrArg (Value.int .i64) (wrap_i64 _ (by omega) (by omega))⟩, ?_⟩
        intro _
        intro _
        have hx : ((x6 + x7) + x1.2.1) = dgt (dg a) x1.1 + dgt (dg b) x1.1 + x1.2.1 := by
          simp only [Int.toNat_natCast] at *
          omega
        have hlt : (x1.1 < (max (dg a).length (dg b).length)) ∨ 0 < x1.2.1 := by
          simp only [decide_eq_true_eq, decide_eq_false_iff_not, gt_iff_lt, ge_iff_le, beq_iff_eq, beq_eq_false_iff_ne] at *
          omega
        obtain ⟨q1, q2, q3⟩ := add_step r_a.dig r_b.dig L hx hlt
        have q := RowOK.snoc ok q2 q3 (by assumption)
        have hmu := q1.c1
        exact ⟨(x1.1 + 1, ((x6 + x7) + x1.2.1) / 65536, x9), ⟨q.2 ▸ q1, q.1⟩, by dsimp only; omega, rfl, rfl, rfl, rfl, congrArg (Value.int .i64) (by dsimp only; omega), rfl, rfl, rfl, trivial⟩
      · refine ⟨ref1_Trim x1.2.2 (by first | assumption | exact rowOK_lit _ _ (by decide)) (by omega), wit_trim x1.2.2 (by first | assumption | exact rowOK_lit _ _ (by decide)), ?_⟩
        intro x10
        intro h10
        simp only [rdv_eq] at h10
        obtain ⟨rh10_, h10⟩ := h10
        have T : TrimR (dg x1.2.2) (dg x10) := by first | exact And.right (by assumption) | assumption
        have hi : (max (dg a).length (dg b).length) ≤ x1.1 := by
          simp only [decide_eq_true_eq, decide_eq_false_iff_not, gt_iff_lt, ge_iff_le, beq_iff_eq, beq_eq_false_iff_ne] at *
          omega
        have hc : x1.2.1 ≤ 0 := by
          simp only [decide_eq_true_eq, decide_eq_false_iff_not, gt_iff_lt, ge_iff_le, beq_iff_eq, beq_eq_false_iff_ne] at *
          omega
        exact ⟨_, ⟨by assumption, by rw [d_a, d_b]; exact T.eq.trans (add_end L hi hc), T.canon⟩, rfl, rfl, rfl, rfl, trivial⟩

def ref1_Mul_C : List Value → List Slot → Ctr := fun vs hs => ⟨Row, fun zx => sv zx, fun zx => [(sarg hs 0), (sarg hs 1), (ss 3 zx)], fun zx => RowOK zx ∧ nv (dg zx) = nv (rdv (varg vs 1) (sarg hs 0)) * nv (rdv (varg vs 2) (sarg hs 1)) ∧ Canon (dg zx)⟩
set_option maxRecDepth 100000 in
set_option maxHeartbeats 2000000 in
theorem ref1_Mul_vc (a : Row) (b : Row) : codeW Try.prog 72 none 2000 none (bodyOf Try.f31) (.reg [.sem []] (.reg [.sem [], .eq (f_len), .sem [], .eq (f_len), .gen [] (fun vs => one (.int .i64 (ci (varg vs 0) + ci (varg vs 1))) vs), .specw [] [20] (F_make 3 (.int .i64 0)), .sem []] (.reg [.sem [], .eq (f_len), .sem []] (.inv (Nat × Row) (fun zx => [(0, sv a), (1, sv b), (5, sv zx.2), (17, .int .i64 ((vlen (sv a) : Nat) : Int)), (18, .int .i64 ((zx.1 : Nat) : Int))]) (fun zx => [(0, (ss 3 a)), (1, (ss 3 b)), (20, (ss 3 zx.2))]) (fun zx => MulO (dg a) (dg b) zx.1 (dg zx.2) ∧ RowOK zx.2) (fun zx => (dg a).length - zx.1) (fun x2 => .reg [.sem []] (.cond (.reg [.sem [], .sem []] (.reg [.sem []] (.reg [.sem [], .eq (f_len), .sem []] (.inv (Nat × Int × Row) (fun zx => [(0, sv a), (1, sv b), (5, sv zx.2.2), (6, .int .i64 ((x2.1 : Nat) : Int)), (7, .int .i64 zx.2.1), (22, .int .i64 ((vlen (sv b) : Nat) : Int)), (23, .int .i64 ((zx.1 : Nat) : Int)), (17, .int .i64 ((vlen (sv a) : Nat) : Int)), (18, .int .i64 ((x2.1 : Nat) : Int))]) (fun zx => [(0, (ss 3 a)), (1, (ss 3 b)), (20, (ss 3 zx.2.2))]) (fun zx => MulN (dg a) (dg b) x2.1 zx.1 zx.2.1 (dg zx.2.2) ∧ RowOK zx.2.2) (fun zx => (dg b).length - zx.1) (fun x3 => .reg [.sem []] (.cond (.reg [.sem [], .sem []] (.reg [.sem [], .sem [], .sem [], .gen [] (fun vs => one (.int .i64 (ci (varg vs 0) + ci (varg vs 1))) vs), .eq (f_idx), .specr [20] F_get, .sem [], .sem [], .eq (f_idx), .specr [0] F_get, .sem [], .sem [], .eq (f_idx), .specr [1] F_get, .gen [] (fun vs => one (.int .i64 (ci (varg vs 0) * ci (varg vs 1))) vs), .gen [] (fun vs => one (.int .i64 (ci (varg vs 0) + ci (varg vs 1))) vs), .sem [], .gen [] (fun vs => one (.int .i64 (ci (varg vs 0) + ci (varg vs 1))) vs), .sem []] (.reg [.sem [], .sem [], .sem [], .gen [] (fun vs => one (.int .i64 (ci (varg vs 0) + ci (varg vs 1))) vs), .sem [], .gen [] (fun vs => one (.int .i64 (ci (varg vs 0) % 65536)) vs), .eq (f_idx), .specw [20] [20] F_put] (.reg [.sem [], .gen [] (fun vs => one (.int .i64 (ci (varg vs 0) / 65536)) vs), .sem []] (.reg [.gen [] (fun vs => one (.int .i64 (ci (varg vs 0) + ci (varg vs 1))) vs), .sem []] (.done)))))) (.reg [.sem [], .sem [], .sem [], .eq (f_len), .gen [] (fun vs => one (.int .i64 (ci (varg vs 0) + ci (varg vs 1))) vs), .sem [], .sem [], .sem [], .eq (f_len), .gen [] (fun vs => one (.int .i64 (ci (varg vs 0) + ci (varg vs 1))) vs), .eq (f_idx), .specr [20] F_get, .sem [], .gen [] (fun vs => one (.int .i64 (ci (varg vs 0) + ci (varg vs 1))) vs), .eq (f_idx), .specw [20] [20] F_put] (.reg [.gen [] (fun vs => one (.int .i64 (ci (varg vs 0) + ci (varg vs 1))) vs), .sem []] (.done))))))))) (.reg [.sem [], .callw [20] [20] ref1_Trim_C, .sem []] (.done))))))))
    (init #[sv a, sv b] [(ss 3 a), (ss 3 b)]) (finW Try.prog Try.f31 [] [0, 1, 20] (X := Row) (fun zx => sv zx) (fun zx => [(ss 3 a), (ss 3 b), (ss 3 zx)]) (fun zx => (RowOK zx ∧ nv (dg zx) = nv (rdv (sv a) (ss 3 a)) * nv (rdv (sv b) (ss 3 b)) ∧ Canon (dg zx)))) =
    ((PureRun Try.prog (do pure (.value (← Builtin.len_ #[41] 3 #[sv a]))) (.int .i64 ((vlen (sv a) : Nat) : Int))) ∧ (PureRun Try.prog (do pure (.value (← Builtin.len_ #[41] 3 #[sv b]))) (.int .i64 ((vlen (sv b) : Nat) : Int))) ∧ (∃ _ : Unit, True ∧ Value.int .i64 (IntKind.i64.wrap (((vlen (sv a) : Nat) : Int) + ((vlen (sv b) : Nat) : Int))) = .int .i64 (((vlen (sv a) : Nat) : Int) + ((vlen (sv b) : Nat) : Int))) ∧ ∀ _ : Unit, (True) → (OpT Try.prog (do pure (.value (← Instr.makeSlice 41 (.int .i64 (((vlen (sv a) : Nat) : Int) + ((vlen (sv b) : Nat) : Int))) (.int .i64 (((vlen (sv a) : Nat) : Int) + ((vlen (sv b) : Nat) : Int)))))) [] Row (fun zx => sv zx) (fun zx => [(ss 3 zx)]) (fun zx => vals zx = List.replicate (Int.toNat (((vlen (sv a) : Nat) : Int) + ((vlen (sv b) : Nat) : Int))) (.int .i64 0))) ∧ (∃ zx : Row, (fun zx => vals zx = List.replicate (Int.toNat (((vlen (sv a) : Nat) : Int) + ((vlen (sv b) : Nat) : Int))) (.int .i64 0)) zx) ∧ ∀ x1 : Row, (vals x1 = List.replicate (Int.toNat (((vlen (sv a) : Nat) : Int) + ((vlen (sv b) : Nat) : Int))) (.int .i64 0)) → (PureRun Try.prog (do pure (.value (← Builtin.len_ #[41] 3 #[sv a]))) (.int .i64 ((vlen (sv a) : Nat) : Int))) ∧ (∃ zx : Nat × Row, (MulO (dg a) (dg b) zx.1 (dg zx.2) ∧ RowOK zx.2) ∧ sv a = sv a ∧ sv b = sv b ∧ sv x1 = sv zx.2 ∧ Value.int .i64 ((vlen (sv a) : Nat) : Int) = .int .i64 ((vlen (sv a) : Nat) : Int) ∧ Value.int .i64 0 = .int .i64 ((zx.1 : Nat) : Int) ∧ (ss 3 a) = (ss 3 a) ∧ (ss 3 b) = (ss 3 b) ∧ (ss 3 x1) = (ss 3 zx.2) ∧ True) ∧ ∀ x2 : Nat × Row, ∀ jx2 : Nat → Value, (MulO (dg a) (dg b) x2.1 (dg x2.2) ∧ RowOK x2.2) → ((decide (((x2.1 : Nat) : Int) < ((vlen (sv a) : Nat) : Int))) = true → (PureRun Try.prog (do pure (.value (← Builtin.len_ #[41] 3 #[sv b]))) (.int .i64 ((vlen (sv b) : Nat) : Int))) ∧ (∃ zx : Nat × Int × Row, (MulN (dg a) (dg b) x2.1 zx.1 zx.2.1 (dg zx.2.2) ∧ RowOK zx.2.2) ∧ sv a = sv a ∧ sv b = sv b ∧ sv x2.2 = sv zx.2.2 ∧ Value.int .i64 ((x2.1 : Nat) : Int) = .int .i64 ((x2.1 : Nat) : Int) ∧ Value.int .i64 0 = .int .i64 zx.2.1 ∧ Value.int .i64 ((vlen (sv b) : Nat) : Int) = .int .i64 ((vlen (sv b) : Nat) : Int) ∧ Value.int .i64 0 = .int .i64 ((zx.1 : Nat) : Int) ∧ Value.int .i64 ((vlen (sv a) : Nat) : Int) = .int .i64 ((vlen (sv a) : Nat) : Int) ∧ Value.int .i64 ((x2.1 : Nat) : Int) = .int .i64 ((x2.1 : Nat) : Int) ∧ (ss 3 a) = (ss 3 a) ∧ (ss 3 b) = (ss 3 b) ∧ (ss 3 x2.2) = (ss 3 zx.2.2) ∧ True) ∧ ∀ x3 : Nat × Int × Row, ∀ jx3 : Nat → Value, (MulN (dg a) (dg b) x2.1 x3.1 x3.2.1 (dg x3.2.2) ∧ RowOK x3.2.2) → ((decide (((x3.1 : Nat) : Int) < ((vlen (sv b) : Nat) : Int))) = true → (∃ _ : Unit, True ∧ Value.int .i64 (IntKind.i64.wrap (((x2.1 : Nat) : Int) + ((x3.1 : Nat) : Int))) = .int .i64 (((x2.1 : Nat) : Int) + ((x3.1 : Nat) : Int))) ∧ ∀ _ : Unit, (True) → (PureRun Try.prog (do pure (.value (← Instr.indexAt 41 (sv x3.2.2) (.int .i64 (((x2.1 : Nat) : Int) + ((x3.1 : Nat) : Int)))))) (.pointer (some ⟨(vblk (sv x3.2.2)), (Int.toNat (((x2.1 : Nat) : Int) + ((x3.1 : Nat) : Int))), none⟩))) ∧ (OpT Try.prog (do pure (.value (← Instr.loadAt 3 (.pointer (some ⟨(vblk (sv x3.2.2)), (Int.toNat (((x2.1 : Nat) : Int) + ((x3.1 : Nat) : Int))), none⟩))))) [(ss 3 x3.2.2)] Int (fun zx => .int .i64 zx) (fun _ => [(ss 3 x3.2.2)]) (fun zx => (scells (ss 3 x3.2.2))[(Int.toNat (((x2.1 : Nat) : Int) + ((x3.1 : Nat) : Int)))]? = some (.int .i64 zx))) ∧ (∃ zx : Int, (fun zx => (scells (ss 3 x3.2.2))[(Int.toNat (((x2.1 : Nat) : Int) + ((x3.1 : Nat) : Int)))]? = some (.int .i64 zx)) zx) ∧ ∀ x4 : Int, ((scells (ss 3 x3.2.2))[(Int.toNat (((x2.1 : Nat) : Int) + ((x3.1 : Nat) : Int)))]? = some (.int .i64 x4)) → (PureRun Try.prog (do pure (.value (← Instr.indexAt 41 (sv a) (.int .i64 ((x2.1 : Nat) : Int))))) (.pointer (some ⟨(vblk (sv a)), (Int.toNat ((x2.1 : Nat) : Int)), none⟩))) ∧ (OpT Try.prog (do pure (.value (← Instr.loadAt 3 (.pointer (some ⟨(vblk (sv a)), (Int.toNat ((x2.1 : Nat) : Int)), none⟩))))) [(ss 3 a)] Int (fun zx => .int .i64 zx) (fun _ => [(ss 3 a)]) (fun zx => (scells (ss 3 a))[(Int.toNat ((x2.1 : Nat) : Int))]? = some (.int .i64 zx))) ∧ (∃ zx : Int, (fun zx => (scells (ss 3 a))[(Int.toNat ((x2.1 : Nat) : Int))]? = some (.int .i64 zx)) zx) ∧ ∀ x5 : Int, ((scells (ss 3 a))[(Int.toNat ((x2.1 : Nat) : Int))]? = some (.int .i64 x5)) → (PureRun Try.prog (do pure (.value (← Instr.indexAt 41 (sv b) (.int .i64 ((x3.1 : Nat) : Int))))) (.pointer (some ⟨(vblk (sv b)), (Int.toNat ((x3.1 : Nat) : Int)), none⟩))) ∧ (OpT Try.prog (do pure (.value (← Instr.loadAt 3 (.pointer (some ⟨(vblk (sv b)), (Int.toNat ((x3.1 : Nat) : Int)), none⟩))))) [(ss 3 b)] Int (fun zx => .int .i64 zx) (fun _ => [(ss 3 b)]) (fun zx => (scells (ss 3 b))[(Int.toNat ((x3.1 : Nat) : Int))]? = some (.int .i64 zx))) ∧ (∃ zx : Int, (fun zx => (scells (ss 3 b))[(Int.toNat ((x3.1 : Nat) : Int))]? = some (.int .i64 zx)) zx) ∧ ∀ x6 : Int, ((scells (ss 3 b))[(Int.toNat ((x3.1 : Nat) : Int))]? = some (.int .i64 x6)) → (∃ _ : Unit, True ∧ Value.int .i64 (IntKind.i64.wrap (x5 * x6)) = .int .i64 (x5 * x6)) ∧ ∀ _ : Unit, (True) → (∃ _ : Unit, True ∧ Value.int .i64 (IntKind.i64.wrap (x4 + (x5 * x6))) = .int .i64 (x4 + (x5 * x6))) ∧ ∀ _ : Unit, (True) → (∃ _ : Unit, True ∧ Value.int .i64 (IntKind.i64.wrap ((x4 + (x5 * x6)) + x3.2.1)) = .int .i64 ((x4 + (x5 * x6)) + x3.2.1)) ∧ ∀ _ : Unit, (True) → (∃ _ : Unit, True ∧ Value.int .i64 (IntKind.i64.wrap (((x2.1 : Nat) : Int) + ((x3.1 : Nat) : Int))) = .int .i64 (((x2.1 : Nat) : Int) + ((x3.1 : Nat) : Int))) ∧ ∀ _ : Unit, (True) → (∃ _ : Unit, True ∧ Value.int .i64 (Int.tmod ((x4 + (x5 * x6)) + x3.2.1) 65536) = .int .i64 (((x4 + (x5 * x6)) + x3.2.1) % 65536)) ∧ ∀ _ : Unit, (True) → (PureRun Try.prog (do pure (.value (← Instr.indexAt 41 (sv x3.2.2) (.int .i64 (((x2.1 : Nat) : Int) + ((x3.1 : Nat) : Int)))))) (.pointer (some ⟨(vblk (sv x3.2.2)), (Int.toNat (((x2.1 : Nat) : Int) + ((x3.1 : Nat) : Int))), none⟩))) ∧ (OpT Try.prog (do Instr.storeAt 3 (.pointer (some ⟨(vblk (sv x3.2.2)), (Int.toNat (((x2.1 : Nat) : Int) + ((x3.1 : Nat) : Int))), none⟩)) (.int .i64 (((x4 + (x5 * x6)) + x3.2.1) % 65536)); pure .skip) [(ss 3 x3.2.2)] Unit (fun _ => .tuple #[]) (fun _ => [(sset (ss 3 x3.2.2) (Int.toNat (((x2.1 : Nat) : Int) + ((x3.1 : Nat) : Int))) (.int .i64 (((x4 + (x5 * x6)) + x3.2.1) % 65536)))]) (fun _ => True)) ∧ (∃ zx : Unit, (fun _ => True) zx) ∧ ∀ _ : Unit, (True) → (∃ _ : Unit, True ∧ Value.int .i64 (IntKind.i64.wrap (Int.tdiv ((x4 + (x5 * x6)) + x3.2.1) 65536)) = .int .i64 (((x4 + (x5 * x6)) + x3.2.1) / 65536)) ∧ ∀ _ : Unit, (True) → (∃ _ : Unit, True ∧ Value.int .i64 (IntKind.i64.wrap (((x3.1 : Nat) : Int) + 1)) = .int .i64 (((x3.1 : Nat) : Int) + 1)) ∧ ∀ _ : Unit, (True) → ∃ zy : Nat × Int × Row, (MulN (dg a) (dg b) x2.1 zy.1 zy.2.1 (dg zy.2.2) ∧ RowOK zy.2.2) ∧ (dg b).length - zy.1 < (dg b).length - x3.1 ∧ sv a = sv a ∧ sv b = sv b ∧ sv x3.2.2 = sv zy.2.2 ∧ Value.int .i64 ((x2.1 : Nat) : Int) = .int .i64 ((x2.1 : Nat) : Int) ∧ Value.int .i64 (((x4 + (x5 * x6)) + x3.2.1) / 65536) = .int .i64 zy.2.1 ∧ Value.int .i64 ((vlen (sv b) : Nat) : Int) = .int .i64 ((vlen (sv b) : Nat) : Int) ∧ Value.int .i64 (((x3.1 : Nat) : Int) + 1) = .int .i64 ((zy.1 : Nat) : Int) ∧ Value.int .i64 ((vlen (sv a) : Nat) : Int) = .int .i64 ((vlen (sv a) : Nat) : Int) ∧ Value.int .i64 ((x2.1 : Nat) : Int) = .int .i64 ((x2.1 : Nat) : Int) ∧ (ss 3 a) = (ss 3 a) ∧ (ss 3 b) = (ss 3 b) ∧ (sset (ss 3 x3.2.2) (Int.toNat (((x2.1 : Nat) : Int) + ((x3.1 : Nat) : Int))) (.int .i64 (((x4 + (x5 * x6)) + x3.2.1) % 65536))) = (ss 3 zy.2.2) ∧ True) ∧ ((decide (((x3.1 : Nat) : Int) < ((vlen (sv b) : Nat) : Int))) = false → (PureRun Try.prog (do pure (.value (← Builtin.len_ #[41] 3 #[sv b]))) (.int .i64 ((vlen (sv b) : Nat) : Int))) ∧ (∃ _ : Unit, True ∧ Value.int .i64 (IntKind.i64.wrap (((x2.1 : Nat) : Int) + ((vlen (sv b) : Nat) : Int))) = .int .i64 (((x2.1 : Nat) : Int) + ((vlen (sv b) : Nat) : Int))) ∧ ∀ _ : Unit, (True) → (PureRun Try.prog (do pure (.value (← Builtin.len_ #[41] 3 #[sv b]))) (.int .i64 ((vlen (sv b) : Nat) : Int))) ∧ (∃ _ : Unit, True ∧ Value.int .i64 (IntKind.i64.wrap (((x2.1 : Nat) : Int) + ((vlen (sv b) : Nat) : Int))) = .int .i64 (((x2.1 : Nat) : Int) + ((vlen (sv b) : Nat) : Int))) ∧ ∀ _ : Unit, (True) → (PureRun Try.prog (do pure (.value (← Instr.indexAt 41 (sv x3.2.2) (.int .i64 (((x2.1 : Nat) : Int) + ((vlen (sv b) : Nat) : Int)))))) (.pointer (some ⟨(vblk (sv x3.2.2)), (Int.toNat (((x2.1 : Nat) : Int) + ((vlen (sv b) : Nat) : Int))), none⟩))) ∧ (OpT Try.prog (do pure (.value (← Instr.loadAt 3 (.pointer (some ⟨(vblk (sv x3.2.2)), (Int.toNat (((x2.1 : Nat) : Int) + ((vlen (sv b) : Nat) : Int))), none⟩))))) [(ss 3 x3.2.2)] Int (fun zx => .int .i64 zx) (fun _ => [(ss 3 x3.2.2)]) (fun zx => (scells (ss 3 x3.2.2))[(Int.toNat (((x2.1 : Nat) : Int) + ((vlen (sv b) : Nat) : Int)))]? = some (.int .i64 zx))) ∧ (∃ zx : Int, (fun zx => (scells (ss 3 x3.2.2))[(Int.toNat (((x2.1 : Nat) : Int) + ((vlen (sv b) : Nat) : Int)))]? = some (.int .i64 zx)) zx) ∧ ∀ x7 : Int, ((scells (ss 3 x3.2.2))[(Int.toNat (((x2.1 : Nat) : Int) + ((vlen (sv b) : Nat) : Int)))]? = some (.int .i64 x7)) → (∃ _ : Unit, True ∧ Value.int .i64 (IntKind.i64.wrap (x7 + x3.2.1)) = .int .i64 (x7 + x3.2.1)) ∧ ∀ _ : Unit, (True) → (PureRun Try.prog (do pure (.value (← Instr.indexAt 41 (sv x3.2.2) (.int .i64 (((x2.1 : Nat) : Int) + ((vlen (sv b) : Nat) : Int)))))) (.pointer (some ⟨(vblk (sv x3.2.2)), (Int.toNat (((x2.1 : Nat) : Int) + ((vlen (sv b) : Nat) : Int))), none⟩))) ∧ (OpT Try.prog (do Instr.storeAt 3 (.pointer (some ⟨(vblk (sv x3.2.2)), (Int.toNat (((x2.1 : Nat) : Int) + ((vlen (sv b) : Nat) : Int))), none⟩)) (.int .i64 (x7 + x3.2.1)); pure .skip) [(ss 3 x3.2.2)] Unit (fun _ => .tuple #[]) (fun _ => [(sset (ss 3 x3.2.2) (Int.toNat (((x2.1 : Nat) : Int) + ((vlen (sv b) : Nat) : Int))) (.int .i64 (x7 + x3.2.1)))]) (fun _ => True)) ∧ (∃ zx : Unit, (fun _ => True) zx) ∧ ∀ _ : Unit, (True) → (∃ _ : Unit, True ∧ Value.int .i64 (IntKind.i64.wrap (((x2.1 : Nat) : Int) + 1)) = .int .i64 (((x2.1 : Nat) : Int) + 1)) ∧ ∀ _ : Unit, (True) → ∃ zy : Nat × Row, (MulO (dg a) (dg b) zy.1 (dg zy.2) ∧ RowOK zy.2) ∧ (dg a).length - zy.1 < (dg a).length - x2.1 ∧ sv a = sv a ∧ sv b = sv b ∧ sv x3.2.2 = sv zy.2 ∧ Value.int .i64 ((vlen (sv a) : Nat) : Int) = .int .i64 ((vlen (sv a) : Nat) : Int) ∧ Value.int .i64 (((x2.1 : Nat) : Int) + 1) = .int .i64 ((zy.1 : Nat) : Int) ∧ (ss 3 a) = (ss 3 a) ∧ (ss 3 b) = (ss 3 b) ∧ (sset (ss 3 x3.2.2) (Int.toNat (((x2.1 : Nat) : Int) + ((vlen (sv b) : Nat) : Int))) (.int .i64 (x7 + x3.2.1))) = (ss 3 zy.2) ∧ True)) ∧ ((decide (((x2.1 : Nat) : Int) < ((vlen (sv a) : Nat) : Int))) = false → (CallT Try.prog 68 #[sv x2.2] [(ss 3 x2.2)] Row (fun zx => sv zx) (fun zx => [(ss 3 zx)]) (fun zx => RowOK zx ∧ ss 3 zx = (ss 3 x2.2) ∧ TrimR (rdv (sv x2.2) (ss 3 x2.2)) (dg zx))) ∧ (∃ zx : Row, (fun zx => RowOK zx ∧ ss 3 zx = (ss 3 x2.2) ∧ TrimR (rdv (sv x2.2) (ss 3 x2.2)) (dg zx)) zx) ∧ ∀ x8 : Row, (RowOK x8 ∧ ss 3 x8 = (ss 3 x2.2) ∧ TrimR (rdv (sv x2.2) (ss 3 x2.2)) (dg x8)) → ∃ zx : Row, (RowOK zx ∧ nv (dg zx) = nv (rdv (sv a) (ss 3 a)) * nv (rdv (sv b) (ss 3 b)) ∧ Canon (dg zx)) ∧ sv x8 = sv zx ∧ (ss 3 a) = (ss 3 a) ∧ (ss 3 b) = (ss 3 b) ∧ (ss 3 x8) = (ss 3 zx) ∧ True)) := by kernel_rfl
set_option maxRecDepth 100000 in
set_option maxHeartbeats 2000000 in
theorem ref1_Mul (a : Row) (b : Row) (r_a : RowOK a) (r_b : RowOK b) (la : (dg a).length ≤ 65536) (lb : (dg b).length ≤ 65536) : CallT Try.prog 31 #[sv a, sv b] [(ss 3 a), (ss 3 b)] Row (fun zx => sv zx) (fun zx => [(ss 3 a), (ss 3 b), (ss 3 zx)]) (fun zx => (RowOK zx ∧ nv (dg zx) = nv (rdv (sv a) (ss 3 a)) * nv (rdv (sv b) (ss 3 b)) ∧ Canon (dg zx))) := by
  refine call_of (c := bodyOf Try.f31) (n := 72) (fn := Try.f31) Try.mixed Try.func31 (by kernel_rfl) (by kernel_rfl) (by kernel_rfl) 2000 _ [] [0, 1, 20] rfl rfl (Eq.mpr (ref1_Mul_vc a b) ?_)
  have d_a := rdv_eq a 3
  have d_b := rdv_eq b 3
  have e_a := vlen_dg a
  have e_b := vlen_dg b
  refine ⟨xlen Try.sl41 3 a, xlen Try.sl41 3 b, ⟨(), trivial, congrArg (Value.int .i64) (wrap_i64 _ (by omega) (by omega))⟩, ?_⟩
  intro _
  intro _
  refine ⟨xmake Try.sl41 .i64 (((vlen (sv a) : Nat) : Int) + ((vlen (sv b) : Nat) : Int)) (by omega) (by omega), wit_make (e := 3) _ _, ?_⟩
  intro x1
  intro h1
  refine ⟨xlen Try.sl41 3 a, ?_⟩
  refine ⟨?_, fun x2 jx2 h2 => ?_⟩
  · have q := RowOK.zeros (y := x1) (by assumption)
    exact ⟨(0, x1), ⟨by rw [q.2]; exact mul_start _ _ _ (by omega), q.1⟩, rfl, rfl, rfl, rfl, rfl, rfl, rfl, rfl, trivial⟩
  · obtain ⟨L, ok⟩ := h2
    have l1 := L.le; have l2 := L.len
    have da := r_a.dig.dgt (Int.toNat ((x2.1 : Nat) : Int))
    refine ⟨fun h3 => ?_, fun h3 => ?_⟩
    · have hi : x2.1 < (dg a).length := by
        simp only [decide_eq_true_eq, decide_eq_false_iff_not, gt_iff_lt, ge_iff_le, beq_iff_eq, beq_eq_false_iff_ne] at *
        omega
      refine ⟨xlen Try.sl41 3 b, ?_⟩
      refine ⟨?_, fun x3 jx3 h4 => ?_⟩
      · exact ⟨(0, 0, x2.2), ⟨muln_start L, ok⟩, rfl, rfl, rfl, rfl, rfl, rfl, rfl, rfl, rfl, rfl, rfl, rfl, trivial⟩
      · obtain ⟨M, okn⟩ := h4
        have m1 := M.le; have m2 := M.len; have m3 := M.c0; have m4 := M.c1
        have db := r_b.dig.dgt (Int.toNat ((x3.1 : Nat) : Int))
        have dn := okn.dig.dgt (Int.toNat (((x2.1 : Nat) : Int) + ((x3.1 : Nat) : Int)))
        refine ⟨fun h5 => ?_, fun h5 => ?_⟩
        · have hk : x3.1 < (dg b).length := by
            simp only [decide_eq_true_eq, decide_eq_false_iff_not, gt_iff_lt, ge_iff_le, beq_iff_eq, beq_eq_false_iff_ne] at *
            omega
          refine ⟨⟨(), trivial, congrArg (Value.int .i64) (wrap_i64 _ (by omega) (by omega))⟩, ?_⟩
          intro _
          intro _
          refine ⟨xidx Try.sl41 x3.2.2 .i64 (((x2.1 : Nat) : Int) + ((x3.1 : Nat) : Int)) (by omega) (by rw [← dg_len]; omega), xgetR (e := 3) x3.2.2 3 Try.agg3 (Int.toNat (((x2.1 : Nat) : Int) + ((x3.1 : Nat) : Int))) okn (by omega), wit_get (e := 3) x3.2.2 (Int.toNat (((x2.1 : Nat) : Int) + ((x3.1 : Nat) : Int))) okn (by omega), ?_⟩
          intro x4
          intro h6
          replace h6 := getR (e := 3) x3.2.2 (Int.toNat (((x2.1 : Nat) : Int) + ((x3.1 : Nat) : Int))) okn (by omega) h6
          refine ⟨xidx Try.sl41 a .i64 ((x2.1 : Nat) : Int) (by omega) (by rw [← dg_len]; omega), xgetR (e := 3) a 3 Try.agg3 (Int.toNat ((x2.1 : Nat) : Int)) r_a (by omega), wit_get (e := 3) a (Int.toNat ((x2.1 : Nat) : Int)) r_a (by omega), ?_⟩
          intro x5
          intro h7
          replace h7 := getR (e := 3) a (Int.toNat ((x2.1 : Nat) : Int)) r_a (by omega) h7
          refine ⟨xidx Try.sl41 b .i64 ((x3.1 : Nat) : Int) (by omega) (by rw [← dg_len]; omega), xgetR (e := 3) b 3 Try.agg3 (Int.toNat ((x3.1 : Nat) : Int)) r_b (by omega), wit_get (e := 3) b (Int.toNat ((x3.1 : Nat) : Int)) r_b (by omega), ?_⟩
          intro x6
          intro h8
          replace h8 := getR (e := 3) b (Int.toNat ((x3.1 : Nat) : Int)) r_b (by omega) h8
          refine ⟨⟨(), trivial, congrArg (Value.int .i64) (wrap_i64 _ (by have hab := dmul (a := x5) (b := x6) (by omega) (by omega) (by omega) (by omega); omega) (by have hab := dmul (a := x5) (b := x6) (by omega) (by omega) (by omega) (by omega); omega))⟩, ?_⟩
          intro _
          intro _
          refine ⟨⟨(), trivial, congrArg (Value.int .i64) (wrap_i64 _ (by have hab := dmul (a := x5) (b := x6) (by omega) (by omega) (by omega) (by omega); omega) (by have hab := dmul (a := x5) (b := x6) (by omega) (by omega) (by omega) (by omega); omega))⟩, ?_⟩
          intro _
          intro _
          refine ⟨⟨(), trivial, congrArg (Value.int .i64) (wrap_i64 _ (by have hab := dmul (a := x5) (b := x6) (by omega) (by omega) (by omega) (by omega); omega) (by have hab := dmul (a := x5) (b := x6) (by omega) (by omega) (by omega) (by omega); omega))⟩, ?_⟩
          intro _
          intro _
          have hab := dmul (a := x5) (b := x6) (by omega) (by omega) (by omega) (by omega)
          refine ⟨⟨(), trivial, congrArg (Value.int .i64) (wrap_i64 _ (by omega) (by omega))⟩, ?_⟩
          intro _
          intro _
          refine ⟨⟨(), trivial, congrArg (Value.int .i64) (tmod_nat (by omega))⟩, ?_⟩
          intro _
          intro _
          refine ⟨xidx Try.sl41 x3.2.2 .i64 (((x2.1 : Nat) : Int) + ((x3.1 : Nat) : Int)) (by omega) (by rw [← dg_len]; omega), xput (e := 3) x3.2.2 3 Try.size3 (Int.toNat (((x2.1 : Nat) : Int) + ((x3.1 : Nat) : Int))) (.int .i64 (((x4 + (x5 * x6)) + x3.2.1) % 65536)) rfl rfl (by rw [← dg_len]; omega), ⟨(), trivial⟩, ?_⟩
          intro _
          intro _
          refine ⟨⟨(), trivial, congrArg (Value.int .i64) (quo_i64 (by omega) (by omega))⟩, ?_⟩
          intro _
          intro _
          refine ⟨⟨(), trivial, congrArg (Value.int .i64) (wrap_i64 _ (by omega) (by omega))⟩, ?_⟩
          intro _
          intro _
          have et : Int.toNat (((x2.1 : Nat) : Int) + ((x3.1 : Nat) : Int)) = x2.1 + x3.1 := by omega
          have q := muln_step (x := ((x4 + (x5 * x6)) + x3.2.1)) r_a.dig r_b.dig okn.dig M hi hk (by simp only [et, Int.toNat_natCast] at *; simp only [*])
          have p := okn.set (x2.1 + x3.1) q.2.1 q.2.2
          exact ⟨(x3.1 + 1, _, x3.2.2.set (x2.1 + x3.1) (.int .i64 (((x4 + (x5 * x6)) + x3.2.1) % 65536))), ⟨p.2.symm ▸ q.1, p.1⟩, by dsimp only; omega, rfl, rfl, (sv_set _ _ _).symm, rfl, rfl, rfl, congrArg (Value.int .i64) (by dsimp only; omega), rfl, rfl, rfl, rfl, by rw [et]; exact ss_set _ _ _ _ (by rw [← dg_len]; omega), trivial⟩
        · have hz := (dgt_zero_of okn.dig M.z).1
          have hk : x3.1 = (dg b).length := by
            simp only [decide_eq_true_eq, decide_eq_false_iff_not, gt_iff_lt, ge_iff_le, beq_iff_eq, beq_eq_false_iff_ne] at *
            omega
          have et' : Int.toNat (((x2.1 : Nat) : Int) + ((vlen (sv b) : Nat) : Int)) = x2.1 + (dg b).length := by omega
          have hz' : dgt (dg x3.2.2) (Int.toNat (((x2.1 : Nat) : Int) + ((vlen (sv b) : Nat) : Int))) = 0 := by rw [et']; exact hz
          refine ⟨xlen Try.sl41 3 b, ⟨(), trivial, congrArg (Value.int .i64) (wrap_i64 _ (by omega) (by omega))⟩, ?_⟩
          intro _
          intro _
          refine ⟨xlen Try.sl41 3 b, ⟨(), trivial, congrArg (Value.int .i64) (wrap_i64 _ (by omega) (by omega))⟩, ?_⟩
          intro _
          intro _
          refine ⟨xidx Try.sl41 x3.2.2 .i64 (((x2.1 : Nat) : Int) + ((vlen (sv b) : Nat) : Int)) (by omega) (by rw [← dg_len]; omega), xgetR (e := 3) x3.2.2 3 Try.agg3 (Int.toNat (((x2.1 : Nat) : Int) + ((vlen (sv b) : Nat) : Int))) okn (by omega), wit_get (e := 3) x3.2.2 (Int.toNat (((x2.1 : Nat) : Int) + ((vlen (sv b) : Nat) : Int))) okn (by omega), ?_⟩
          intro x7
          intro h9
          replace h9 := getR (e := 3) x3.2.2 (Int.toNat (((x2.1 : Nat) : Int) + ((vlen (sv b) : Nat) : Int))) okn (by omega) h9
          refine ⟨⟨(), trivial, congrArg (Value.int .i64) (wrap_i64 _ (by omega) (by omega))⟩, ?_⟩
          intro _
          intro _
          refine ⟨xidx Try.sl41 x3.2.2 .i64 (((x2.1 : Nat) : Int) + ((vlen (sv b) : Nat) : Int)) (by omega) (by rw [← dg_len]; omega), xput (e := 3) x3.2.2 3 Try.size3 (Int.toNat (((x2.1 : Nat) : Int) + ((vlen (sv b) : Nat) : Int))) (.int .i64 (x7 + x3.2.1)) rfl rfl (by rw [← dg_len]; omega), ⟨(), trivial⟩, ?_⟩
          intro _
          intro _
          refine ⟨⟨(), trivial, congrArg (Value.int .i64) (wrap_i64 _ (by omega) (by omega))⟩, ?_⟩
          intro _
          intro _
          have et : Int.toNat (((x2.1 : Nat) : Int) + ((vlen (sv b) : Nat) : Int)) = x2.1 + (dg b).length := by omega
          have hk : x3.1 = (dg b).length := by
            simp only [decide_eq_true_eq, decide_eq_false_iff_not, gt_iff_lt, ge_iff_le, beq_iff_eq, beq_eq_false_iff_ne] at *
            omega
          rw [hk] at M
          have q := muln_end okn.dig M hi
          have hv : x7 + x3.2.1 = dgt (dg x3.2.2) (x2.1 + (dg b).length) + x3.2.1 := by simp only [et] at *; simp only [*]
          have p := okn.set (x2.1 + (dg b).length) q.2.1 q.2.2
          exact ⟨(x2.1 + 1, x3.2.2.set (x2.1 + (dg b).length) (.int .i64 (dgt (dg x3.2.2) (x2.1 + (dg b).length) + x3.2.1))), ⟨p.2.symm ▸ q.1, p.1⟩, by dsimp only; omega, rfl, rfl, (sv_set _ _ _).symm, rfl, congrArg (Value.int .i64) (by dsimp only; omega), rfl, rfl, by rw [et, hv]; exact ss_set _ _ _ _ (by rw [← dg_len]; omega), trivial⟩
    · refine ⟨ref1_Trim x2.2 (by first | assumption | exact rowOK_lit _ _ (by decide)) (by omega), wit_trim x2.2 (by first | assumption | exact rowOK_lit _ _ (by decide)), ?_⟩
      intro x8
      intro h10
      simp only [rdv_eq] at h10
      obtain ⟨rh10_, h10⟩ := h10
      have T : TrimR (dg x2.2) (dg x8) := by first | exact And.right (by assumption) | assumption
      have hi : x2.1 = (dg a).length := by
        simp only [decide_eq_true_eq, decide_eq_false_iff_not, gt_iff_lt, ge_iff_le, beq_iff_eq, beq_eq_false_iff_ne] at *
        omega
      rw [hi] at L
      exact ⟨_, ⟨by assumption, by rw [d_a, d_b]; exact T.eq.trans (mul_end L), T.canon⟩, rfl, rfl, rfl, rfl, trivial⟩

def ref2_Row_C : List Value → List Slot → Ctr := fun vs hs => ⟨Row, fun zx => sv zx, fun zx => [(ss 3 zx)], fun zx => RowOK zx ∧ nv (dg zx) = (num (varg vs 1)) ∧ Canon (dg zx) ∧ (dg zx).length ≤ 16⟩
set_option maxRecDepth 100000 in
set_option maxHeartbeats 2000000 in
theorem ref2_Row_vc (a : Int) : codeW Try.prog 24 none 2000 none (bodyOf Try.f20) (.reg [.sem [.nw 0], .sem []] (.reg [.sem []] (.reg [.sem [.rd 0, .rd 0, .rd 0, .rd 0], .sem []] (.reg [.sem []] (.condT (.reg [.sem [], .sem []] (.reg [.sem []] (.reg [.sem []] (.condT (.reg [.sem [], .sem [], .gen [] (fun vs => one (.int .u64 (ci (varg vs 0) % 65536)) vs), .gen [] (fun vs => one (.int .i64 (ci (varg vs 0))) vs), .sem [.nw 1], .specw [2, 1] [20, 1] (F_app 3), .sem []] (.reg [.sem [], .gen [] (fun vs => one (.int .u64 (ci (varg vs 0) / 65536)) vs), .sem []] (.reg [.sem [], .sem []] (.reg [.sem []] (.condT (.reg [.sem [], .sem [], .gen [] (fun vs => one (.int .u64 (ci (varg vs 0) % 65536)) vs), .gen [] (fun vs => one (.int .i64 (ci (varg vs 0))) vs), .sem [.nw 1], .specw [20, 1] [20, 1] (F_app 3), .sem []] (.reg [.sem [], .gen [] (fun vs => one (.int .u64 (ci (varg vs 0) / 65536)) vs), .sem []] (.reg [.sem [], .sem []] (.reg [.sem []] (.condT (.reg [.sem [], .sem [], .gen [] (fun vs => one (.int .u64 (ci (varg vs 0) % 65536)) vs), .gen [] (fun vs => one (.int .i64 (ci (varg vs 0))) vs), .sem [.nw 1], .specw [20, 1] [20, 1] (F_app 3), .sem []] (.reg [.sem [], .gen [] (fun vs => one (.int .u64 (ci (varg vs 0) / 65536)) vs), .sem []] (.reg [.sem [], .sem []] (.reg [.sem []] (.condT (.reg [.sem [], .sem [], .gen [] (fun vs => one (.int .u64 (ci (varg vs 0) % 65536)) vs), .gen [] (fun vs => one (.int .i64 (ci (varg vs 0))) vs), .sem [.nw 1], .specw [20, 1] [20, 1] (F_app 3), .sem []] (.reg [.sem [], .gen [] (fun vs => one (.int .u64 (ci (varg vs 0) / 65536)) vs), .sem []] (.reg [.sem [], .sem []] (.reg [.sem []] (.condF (.reg [.sem [], .sem []] (.reg [.sem []] (.condT (.reg [.sem [], .sem []] (.reg [.sem []] (.reg [.sem []] (.condT (.reg [.sem [], .sem [], .gen [] (fun vs => one (.int .u64 (ci (varg vs 0) % 65536)) vs), .gen [] (fun vs => one (.int .i64 (ci (varg vs 0))) vs), .sem [.nw 1], .specw [20, 1] [20, 1] (F_app 3), .sem []] (.reg [.sem [], .gen [] (fun vs => one (.int .u64 (ci (varg vs 0) / 65536)) vs), .sem []] (.reg [.sem [], .sem []] (.reg [.sem []] (.condT (.reg [.sem [], .sem [], .gen [] (fun vs => one (.int .u64 (ci (varg vs 0) % 65536)) vs), .gen [] (fun vs => one (.int .i64 (ci (varg vs 0))) vs), .sem [.nw 1], .specw [20, 1] [20, 1] (F_app 3), .sem []] (.reg [.sem [], .gen [] (fun vs => one (.int .u64 (ci (varg vs 0) / 65536)) vs), .sem []] (.reg [.sem [], .sem []] (.reg [.sem []] (.condT (.reg [.sem [], .sem [], .gen [] (fun vs => one (.int .u64 (ci (varg vs 0) % 65536)) vs), .gen [] (fun vs => one (.int .i64 (ci (varg vs 0))) vs), .sem [.nw 1], .specw [20, 1] [20, 1] (F_app 3), .sem []] (.reg [.sem [], .gen [] (fun vs => one (.int .u64 (ci (varg vs 0) / 65536)) vs), .sem []] (.reg [.sem [], .sem []] (.reg [.sem []] (.condT (.reg [.sem [], .sem [], .gen [] (fun vs => one (.int .u64 (ci (varg vs 0) % 65536)) vs), .gen [] (fun vs => one (.int .i64 (ci (varg vs 0))) vs), .sem [.nw 1], .specw [20, 1] [20, 1] (F_app 3), .sem []] (.reg [.sem [], .gen [] (fun vs => one (.int .u64 (ci (varg vs 0) / 65536)) vs), .sem []] (.reg [.sem [], .sem []] (.reg [.sem []] (.condF (.reg [.sem [], .sem []] (.reg [.sem []] (.condT (.reg [.sem [], .sem []] (.reg [.sem []] (.reg [.sem []] (.condT (.reg [.sem [], .sem [], .gen [] (fun vs => one (.int .u64 (ci (varg vs 0) % 65536)) vs), .gen [] (fun vs => one (.int .i64 (ci (varg vs 0))) vs), .sem [.nw 1], .specw [20, 1] [20, 1] (F_app 3), .sem []] (.reg [.sem [], .gen [] (fun vs => one (.int .u64 (ci (varg vs 0) / 65536)) vs), .sem []] (.reg [.sem [], .sem []] (.reg [.sem []] (.condT (.reg [.sem [], .sem [], .gen [] (fun vs => one (.int .u64 (ci (varg vs 0) % 65536)) vs), .gen [] (fun vs => one (.int .i64 (ci (varg vs 0))) vs), .sem [.nw 1], .specw [20, 1] [20, 1] (F_app 3), .sem []] (.reg [.sem [], .gen [] (fun vs => one (.int .u64 (ci (varg vs 0) / 65536)) vs), .sem []] (.reg [.sem [], .sem []] (.reg [.sem []] (.condT (.reg [.sem [], .sem [], .gen [] (fun vs => one (.int .u64 (ci (varg vs 0) % 65536)) vs), .gen [] (fun vs => one (.int .i64 (ci (varg vs 0))) vs), .sem [.nw 1], .specw [20, 1] [20, 1] (F_app 3), .sem []] (.reg [.sem [], .gen [] (fun vs => one (.int .u64 (ci (varg vs 0) / 65536)) vs), .sem []] (.reg [.sem [], .sem []] (.reg [.sem []] (.condT (.reg [.sem [], .sem [], .gen [] (fun vs => one (.int .u64 (ci (varg vs 0) % 65536)) vs), .gen [] (fun vs => one (.int .i64 (ci (varg vs 0))) vs), .sem [.nw 1], .specw [20, 1] [20, 1] (F_app 3), .sem []] (.reg [.sem [], .gen [] (fun vs => one (.int .u64 (ci (varg vs 0) / 65536)) vs), .sem []] (.reg [.sem [], .sem []] (.reg [.sem []] (.condF (.reg [.sem [], .sem []] (.reg [.sem []] (.condT (.reg [.sem [], .sem []] (.reg [.sem []] (.reg [.sem []] (.condT (.reg [.sem [], .sem [], .gen [] (fun vs => one (.int .u64 (ci (varg vs 0) % 65536)) vs), .gen [] (fun vs => one (.int .i64 (ci (varg vs 0))) vs), .sem [.nw 1], .specw [20, 1] [20, 1] (F_app 3), .sem []] (.reg [.sem [], .gen [] (fun vs => one (.int .u64 (ci (varg vs 0) / 65536)) vs), .sem []] (.reg [.sem [], .sem []] (.reg [.sem []] (.condT (.reg [.sem [], .sem [], .gen [] (fun vs => one (.int .u64 (ci (varg vs 0) % 65536)) vs), .gen [] (fun vs => one (.int .i64 (ci (varg vs 0))) vs), .sem [.nw 1], .specw [20, 1] [20, 1] (F_app 3), .sem []] (.reg [.sem [], .gen [] (fun vs => one (.int .u64 (ci (varg vs 0) / 65536)) vs), .sem []] (.reg [.sem [], .sem []] (.reg [.sem []] (.condT (.reg [.sem [], .sem [], .gen [] (fun vs => one (.int .u64 (ci (varg vs 0) % 65536)) vs), .gen [] (fun vs => one (.int .i64 (ci (varg vs 0))) vs), .sem [.nw 1], .specw [20, 1] [20, 1] (F_app 3), .sem []] (.reg [.sem [], .gen [] (fun vs => one (.int .u64 (ci (varg vs 0) / 65536)) vs), .sem []] (.reg [.sem [], .sem []] (.reg [.sem []] (.condT (.reg [.sem [], .sem [], .gen [] (fun vs => one (.int .u64 (ci (varg vs 0) % 65536)) vs), .gen [] (fun vs => one (.int .i64 (ci (varg vs 0))) vs), .sem [.nw 1], .specw [20, 1] [20, 1] (F_app 3), .sem []] (.reg [.sem [], .gen [] (fun vs => one (.int .u64 (ci (varg vs 0) / 65536)) vs), .sem []] (.reg [.sem [], .sem []] (.reg [.sem []] (.condF (.reg [.sem [], .sem []] (.reg [.sem []] (.condF (.reg [.sem [], .callw [20] [20] ref1_Trim_C, .sem []] (.done)))))))))))))))))))))))))))))))))))))))))))))))))))))))))))))))))))))))))))))))))))))))))))))))))))))))))))))))))))
    (init #[vI a] []) (finW Try.prog Try.f20 [] [20] (X := Row) (fun zx => sv zx) (fun zx => [(ss 3 zx)]) (fun zx => (RowOK zx ∧ nv (dg zx) = (num (vI a)) ∧ Canon (dg zx) ∧ (dg zx).length ≤ 16))) =
    (∀ b1 : Nat, b1 = b1 ∧ (none : Option Nat) = none ∧ b1 = b1 ∧ (none : Option Nat) = none ∧ b1 = b1 ∧ (none : Option Nat) = none ∧ b1 = b1 ∧ (none : Option Nat) = none ∧ (true = true) ∧ (true = true) ∧ (∃ _ : Unit, True ∧ Value.int .u64 (Int.tmod (lim a 0) 65536) = .int .u64 ((lim a 0) % 65536)) ∧ ∀ _ : Unit, (True) → (∃ _ : Unit, True ∧ Value.int .i64 (IntKind.i64.wrap ((lim a 0) % 65536)) = .int .i64 ((lim a 0) % 65536)) ∧ ∀ _ : Unit, (True) → ∀ b2 : Nat, (OpT Try.prog (do pure (.value (← Builtin.append_ #[41, 41] 41 #[sv Row.nil, .slice (some ⟨b2, 0, none⟩) 1 1]))) [.free, .blk b2 (.cells #[.int .i64 ((lim a 0) % 65536)] 3 (0, 0))] Row (fun zx => sv zx) (fun zx => [(ss 3 zx), .blk b2 (.cells #[.int .i64 ((lim a 0) % 65536)] 3 (0, 0))]) (fun zx => vals zx = rvals (sv Row.nil) (ss 3 Row.nil) ++ [.int .i64 ((lim a 0) % 65536)])) ∧ (∃ zx : Row, (fun zx => vals zx = rvals (sv Row.nil) (ss 3 Row.nil) ++ [.int .i64 ((lim a 0) % 65536)]) zx) ∧ ∀ x3 : Row, (vals x3 = rvals (sv Row.nil) (ss 3 Row.nil) ++ [.int .i64 ((lim a 0) % 65536)]) → (∃ _ : Unit, True ∧ Value.int .u64 (IntKind.u64.wrap (Int.tdiv (lim a 0) 65536)) = .int .u64 ((lim a 0) / 65536)) ∧ ∀ _ : Unit, (True) → (true = true) ∧ (∃ _ : Unit, True ∧ Value.int .u64 (Int.tmod ((lim a 0) / 65536) 65536) = .int .u64 (((lim a 0) / 65536) % 65536)) ∧ ∀ _ : Unit, (True) → (∃ _ : Unit, True ∧ Value.int .i64 (IntKind.i64.wrap (((lim a 0) / 65536) % 65536)) = .int .i64 (((lim a 0) / 65536) % 65536)) ∧ ∀ _ : Unit, (True) → ∀ b4 : Nat, (OpT Try.prog (do pure (.value (← Builtin.append_ #[41, 41] 41 #[sv x3, .slice (some ⟨b4, 0, none⟩) 1 1]))) [(ss 3 x3), .blk b4 (.cells #[.int .i64 (((lim a 0) / 65536) % 65536)] 3 (0, 0))] Row (fun zx => sv zx) (fun zx => [(ss 3 zx), .blk b4 (.cells #[.int .i64 (((lim a 0) / 65536) % 65536)] 3 (0, 0))]) (fun zx => vals zx = rvals (sv x3) (ss 3 x3) ++ [.int .i64 (((lim a 0) / 65536) % 65536)])) ∧ (∃ zx : Row, (fun zx => vals zx = rvals (sv x3) (ss 3 x3) ++ [.int .i64 (((lim a 0) / 65536) % 65536)]) zx) ∧ ∀ x5 : Row, (vals x5 = rvals (sv x3) (ss 3 x3) ++ [.int .i64 (((lim a 0) / 65536) % 65536)]) → (∃ _ : Unit, True ∧ Value.int .u64 (IntKind.u64.wrap (Int.tdiv ((lim a 0) / 65536) 65536)) = .int .u64 (((lim a 0) / 65536) / 65536)) ∧ ∀ _ : Unit, (True) → (true = true) ∧ (∃ _ : Unit, True ∧ Value.int .u64 (Int.tmod (((lim a 0) / 65536) / 65536) 65536) = .int .u64 ((((lim a 0) / 65536) / 65536) % 65536)) ∧ ∀ _ : Unit, (True) → (∃ _ : Unit, True ∧ Value.int .i64 (IntKind.i64.wrap ((((lim a 0) / 65536) / 65536) % 65536)) = .int .i64 ((((lim a 0) / 65536) / 65536) % 65536)) ∧ ∀ _ : Unit, (True) → ∀ b6 : Nat, (OpT Try.prog (do pure (.value (← Builtin.append_ #[41, 41] 41 #[sv x5, .slice (some ⟨b6, 0, none⟩) 1 1]))) [(ss 3 x5), .blk b6 (.cells #[.int .i64 ((((lim a 0) / 65536) / 65536) % 65536)] 3 (0, 0))] Row (fun zx => sv zx) (fun zx => [(ss 3 zx), .blk b6 (.cells #[.int .i64 ((((lim a 0) / 65536) / 65536) % 65536)] 3 (0, 0))]) (fun zx => vals zx = rvals (sv x5) (ss 3 x5) ++ [.int .i64 ((((lim a 0) / 65536) / 65536) % 65536)])) ∧ (∃ zx : Row, (fun zx => vals zx = rvals (sv x5) (ss 3 x5) ++ [.int .i64 ((((lim a 0) / 65536) / 65536) % 65536)]) zx) ∧ ∀ x7 : Row, (vals x7 = rvals (sv x5) (ss 3 x5) ++ [.int .i64 ((((lim a 0) / 65536) / 65536) % 65536)]) → (∃ _ : Unit, True ∧ Value.int .u64 (IntKind.u64.wrap (Int.tdiv (((lim a 0) / 65536) / 65536) 65536)) = .int .u64 ((((lim a 0) / 65536) / 65536) / 65536)) ∧ ∀ _ : Unit, (True) → (true = true) ∧ (∃ _ : Unit, True ∧ Value.int .u64 (Int.tmod ((((lim a 0) / 65536) / 65536) / 65536) 65536) = .int .u64 (((((lim a 0) / 65536) / 65536) / 65536) % 65536)) ∧ ∀ _ : Unit, (True) → (∃ _ : Unit, True ∧ Value.int .i64 (IntKind.i64.wrap (((((lim a 0) / 65536) / 65536) / 65536) % 65536)) = .int .i64 (((((lim a 0) / 65536) / 65536) / 65536) % 65536)) ∧ ∀ _ : Unit, (True) → ∀ b8 : Nat, (OpT Try.prog (do pure (.value (← Builtin.append_ #[41, 41] 41 #[sv x7, .slice (some ⟨b8, 0, none⟩) 1 1]))) [(ss 3 x7), .blk b8 (.cells #[.int .i64 (((((lim a 0) / 65536) / 65536) / 65536) % 65536)] 3 (0, 0))] Row (fun zx => sv zx) (fun zx => [(ss 3 zx), .blk b8 (.cells #[.int .i64 (((((lim a 0) / 65536) / 65536) / 65536) % 65536)] 3 (0, 0))]) (fun zx => vals zx = rvals (sv x7) (ss 3 x7) ++ [.int .i64 (((((lim a 0) / 65536) / 65536) / 65536) % 65536)])) ∧ (∃ zx : Row, (fun zx => vals zx = rvals (sv x7) (ss 3 x7) ++ [.int .i64 (((((lim a 0) / 65536) / 65536) / 65536) % 65536)]) zx) ∧ ∀ x9 : Row, (vals x9 = rvals (sv x7) (ss 3 x7) ++ [.int .i64 (((((lim a 0) / 65536) / 65536) / 65536) % 65536)]) → (∃ _ : Unit, True ∧ Value.int .u64 (IntKind.u64.wrap (Int.tdiv ((((lim a 0) / 65536) / 65536) / 65536) 65536)) = .int .u64 (((((lim a 0) / 65536) / 65536) / 65536) / 65536)) ∧ ∀ _ : Unit, (True) → (false = false) ∧ (true = true) ∧ (true = true) ∧ (∃ _ : Unit, True ∧ Value.int .u64 (Int.tmod (lim a 1) 65536) = .int .u64 ((lim a 1) % 65536)) ∧ ∀ _ : Unit, (True) → (∃ _ : Unit, True ∧ Value.int .i64 (IntKind.i64.wrap ((lim a 1) % 65536)) = .int .i64 ((lim a 1) % 65536)) ∧ ∀ _ : Unit, (True) → ∀ b10 : Nat, (OpT Try.prog (do pure (.value (← Builtin.append_ #[41, 41] 41 #[sv x9, .slice (some ⟨b10, 0, none⟩) 1 1]))) [(ss 3 x9), .blk b10 (.cells #[.int .i64 ((lim a 1) % 65536)] 3 (0, 0))] Row (fun zx => sv zx) (fun zx => [(ss 3 zx), .blk b10 (.cells #[.int .i64 ((lim a 1) % 65536)] 3 (0, 0))]) (fun zx => vals zx = rvals (sv x9) (ss 3 x9) ++ [.int .i64 ((lim a 1) % 65536)])) ∧ (∃ zx : Row, (fun zx => vals zx = rvals (sv x9) (ss 3 x9) ++ [.int .i64 ((lim a 1) % 65536)]) zx) ∧ ∀ x11 : Row, (vals x11 = rvals (sv x9) (ss 3 x9) ++ [.int .i64 ((lim a 1) % 65536)]) → (∃ _ : Unit, True ∧ Value.int .u64 (IntKind.u64.wrap (Int.tdiv (lim a 1) 65536)) = .int .u64 ((lim a 1) / 65536)) ∧ ∀ _ : Unit, (True) → (true = true) ∧ (∃ _ : Unit, True ∧ Value.int .u64 (Int.tmod ((lim a 1) / 65536) 65536) = .int .u64 (((lim a 1) / 65536) % 65536)) ∧ ∀ _ : Unit, (True) → (∃ _ : Unit, True ∧ Value.int .i64 (IntKind.i64.wrap (((lim a 1) / 65536) % 65536)) = .int .i64 (((lim a 1) / 65536) % 65536)) ∧ ∀ _ : Unit, (True) → ∀ b12 : Nat, (OpT Try.prog (do pure (.value (← Builtin.append_ #[41, 41] 41 #[sv x11, .slice (some ⟨b12, 0, none⟩) 1 1]))) [(ss 3 x11), .blk b12 (.cells #[.int .i64 (((lim a 1) / 65536) % 65536)] 3 (0, 0))] Row (fun zx => sv zx) (fun zx => [(ss 3 zx), .blk b12 (.cells #[.int .i64 (((lim a 1) / 65536) % 65536)] 3 (0, 0))]) (fun zx => vals zx = rvals (sv x11) (ss 3 x11) ++ [.int .i64 (((lim a 1) / 65536) % 65536)])) ∧ (∃ zx : Row, (fun zx => vals zx = rvals (sv x11) (ss 3 x11) ++ [.int .i64 (((lim a 1) / 65536) % 65536)]) zx) ∧ ∀ x13 : Row, (vals x13 = rvals (sv x11) (ss 3 x11) ++ [.int .i64 (((lim a 1) / 65536) % 65536)]) → (∃ _ : Unit, True ∧ Value.int .u64 (IntKind.u64.wrap (Int.tdiv ((lim a 1) / 65536) 65536)) = .int .u64 (((lim a 1) / 65536) / 65536)) ∧ ∀ _ : Unit, (True) → (true = true) ∧ (∃ _ : Unit, True ∧ Value.int .u64 (Int.tmod (((lim a 1) / 65536) / 65536) 65536) = .int .u64 ((((lim a 1) / 65536) / 65536) % 65536)) ∧ ∀ _ : Unit, (True) → (∃ _ : Unit, True ∧ Value.int .i64 (IntKind.i64.wrap ((((lim a 1) / 65536) / 65536) % 65536)) = .int .i64 ((((lim a 1) / 65536) / 65536) % 65536)) ∧ ∀ _ : Unit, (True) → ∀ b14 : Nat, (OpT Try.prog (do pure (.value (← Builtin.append_ #[41, 41] 41 #[sv x13, .slice (some ⟨b14, 0, none⟩) 1 1]))) [(ss 3 x13), .blk b14 (.cells #[.int .i64 ((((lim a 1) / 65536) / 65536) % 65536)] 3 (0, 0))] Row (fun zx => sv zx) (fun zx => [(ss 3 zx), .blk b14 (.cells #[.int .i64 ((((lim a 1) / 65536) / 65536) % 65536)] 3 (0, 0))]) (fun zx => vals zx = rvals (sv x13) (ss 3 x13) ++ [.int .i64 ((((lim a 1) / 65536) / 65536) % 65536)])) ∧ (∃ zx : Row, (fun zx => vals zx = rvals (sv x13) (ss 3 x13) ++ [.int .i64 ((((lim a 1) / 65536) / 65536) % 65536)]) zx) ∧ ∀ x15 : Row, (vals x15 = rvals (sv x13) (ss 3 x13) ++ [.int .i64 ((((lim a 1) / 65536) / 65536) % 65536)]) → (∃ _ : Unit, True ∧ Value.int .u64 (IntKind.u64.wrap (Int.tdiv (((lim a 1) / 65536) / 65536) 65536)) = .int .u64 ((((lim a 1) / 65536) / 65536) / 65536)) ∧ ∀ _ : Unit, (True) → (true = true) ∧ (∃ _ : Unit, True ∧ Value.int .u64 (Int.tmod ((((lim a 1) / 65536) / 65536) / 65536) 65536) = .int .u64 (((((lim a 1) / 65536) / 65536) / 65536) % 65536)) ∧ ∀ _ : Unit, (True) → (∃ _ : Unit, True ∧ Value.int .i64 (IntKind.i64.wrap (((((lim a 1) / 65536) / 65536) / 65536) % 65536)) = .int .i64 (((((lim a 1) / 65536) / 65536) / 65536) % 65536)) ∧ ∀ _ : Unit, (True) → ∀ b16 : Nat, (OpT Try.prog (do pure (.value (← Builtin.append_ #[41, 41] 41 #[sv x15, .slice (some ⟨b16, 0, none⟩) 1 1]))) [(ss 3 x15), .blk b16 (.cells #[.int .i64 (((((lim a 1) / 65536) / 65536) / 65536) % 65536)] 3 (0, 0))] Row (fun zx => sv zx) (fun zx => [(ss 3 zx), .blk b16 (.cells #[.int .i64 (((((lim a 1) / 65536) / 65536) / 65536) % 65536)] 3 (0, 0))]) (fun zx => vals zx = rvals (sv x15) (ss 3 x15) ++ [.int .i64 (((((lim a 1) / 65536) / 65536) / 65536) % 65536)])) ∧ (∃ zx : Row, (fun zx => vals zx = rvals (sv x15) (ss 3 x15) ++ [.int .i64 (((((lim a 1) / 65536) / 65536) / 65536) % 65536)]) zx) ∧ ∀ x17 : Row, (vals x17 = rvals (sv x15) (ss 3 x15) ++ [.int .i64 (((((lim a 1) / 65536) / 65536) / 65536) % 65536)]) → (∃ _ : Unit, True ∧ Value.int .u64 (IntKind.u64.wrap (Int.tdiv ((((lim a 1) / 65536) / 65536) / 65536) 65536)) = .int .u64 (((((lim a 1) / 65536) / 65536) / 65536) / 65536)) ∧ ∀ _ : Unit, (True) → (false = false) ∧ (true = true) ∧ (true = true) ∧ (∃ _ : Unit, True ∧ Value.int .u64 (Int.tmod (lim a 2) 65536) = .int .u64 ((lim a 2) % 65536)) ∧ ∀ _ : Unit, (True) → (∃ _ : Unit, True ∧ Value.int .i64 (IntKind.i64.wrap ((lim a 2) % 65536)) = .int .i64 ((lim a 2) % 65536)) ∧ ∀ _ : Unit, (True) → ∀ b18 : Nat, (OpT Try.prog (do pure (.value (← Builtin.append_ #[41, 41] 41 #[sv x17, .slice (some ⟨b18, 0, none⟩) 1 1]))) [(ss 3 x17), .blk b18 (.cells #[.int .i64 ((lim a 2) % 65536)] 3 (0, 0))] Row (fun zx => sv zx) (fun zx => [(ss 3 zx), .blk b18 (.cells #[.int .i64 ((lim a 2) % 65536)] 3 (0, 0))]) (fun zx => vals zx = rvals (sv x17) (ss 3 x17) ++ [.int .i64 ((lim a 2) % 65536)])) ∧ (∃ zx : Row, (fun zx => vals zx = rvals (sv x17) (ss 3 x17) ++ [.int .i64 ((lim a 2) % 65536)]) zx) ∧ ∀ x19 : Row, (vals x19 = rvals (sv x17) (ss 3 x17) ++ [.int .i64 ((lim a 2) % 65536)]) → (∃ _ : Unit, True ∧ Value.int .u64 (IntKind.u64.wrap (Int.tdiv (lim a 2) 65536)) = .int .u64 ((lim a 2) / 65536)) ∧ ∀ _ : Unit, (True) → (true = true) ∧ (∃ _ : Unit, True ∧ Value.int .u64 (Int.tmod ((lim a 2) / 65536) 65536) = .int .u64 (((lim a 2) / 65536) % 65536)) ∧ ∀ _ : Unit, (True) → (∃ _ : Unit, True ∧ Value.int .i64 (IntKind.i64.wrap (((lim a 2) / 65536) % 65536)) = .int .i64 (((lim a 2) / 65536) % 65536)) ∧ ∀ _ : Unit, (True) → ∀ b20 : Nat, (OpT Try.prog (do pure (.value (← Builtin.append_ #[41, 41] 41 #[sv x19, .slice (some ⟨b20, 0, none⟩) 1 1]))) [(ss 3 x19), .blk b20 (.cells #[.int .i64 (((lim a 2) / 65536) % 65536)] 3 (0, 0))] Row (fun zx => sv zx) (fun zx => [(ss 3 zx), .blk b20 (.cells #[.int .i64 (((lim a 2) / 65536) % 65536)] 3 (0, 0))]) (fun zx => vals zx = rvals (sv x19) (ss 3 x19) ++ [.int .i64 (((lim a 2) / 65536) % 65536)])) ∧ (∃ zx : Row, (fun zx => vals zx = rvals (sv x19) (ss 3 x19) ++ [.int .i64 (((lim a 2) / 65536) % 65536)]) zx) ∧ ∀ x21 : Row, (vals x21 = rvals (sv x19) (ss 3 x19) ++ [.int .i64 (((lim a 2) / 65536) % 65536)]) → (∃ _ : Unit, True ∧ Value.int .u64 (IntKind.u64.wrap (Int.tdiv ((lim a 2) / 65536) 65536)) = .int .u64 (((lim a 2) / 65536) / 65536)) ∧ ∀ _ : Unit, (True) → (true = true) ∧ (∃ _ : Unit, True ∧ Value.int .u64 (Int.tmod (((lim a 2) / 65536) / 65536) 65536) = .int .u64 ((((lim a 2) / 65536) / 65536) % 65536)) ∧ ∀ _ : Unit, (True) → (∃ _ : Unit, True ∧ Value.int .i64 (IntKind.i64.wrap ((((lim a 2) / 65536) / 65536) % 65536)) = .int .i64 ((((lim a 2) / 65536) / 65536) % 65536)) ∧ ∀ _ : Unit, (True) → ∀ b22 : Nat, (OpT Try.prog (do pure (.value (← Builtin.append_ #[41, 41] 41 #[sv x21, .slice (some ⟨b22, 0, none⟩) 1 1]))) [(ss 3 x21), .blk b22 (.cells #[.int .i64 ((((lim a 2) / 65536) / 65536) % 65536)] 3 (0, 0))] Row (fun zx => sv zx) (fun zx => [(ss 3 zx), .blk b22 (.cells #[.int .i64 ((((lim a 2) / 65536) / 65536) % 65536)] 3 (0, 0))]) (fun zx => vals zx = rvals (sv x21) (ss 3 x21) ++ [.int .i64 ((((lim a 2) / 65536) / 65536) % 65536)])) ∧ (∃ zx : Row, (fun zx => vals zx = rvals (sv x21) (ss 3 x21) ++ [.int .i64 ((((lim a 2) / 65536) / 65536) % 65536)]) zx) ∧ ∀ x23 : Row, (vals x23 = rvals (sv x21) (ss 3 x21) ++ [.int .i64 ((((lim a 2) / 65536) / 65536) % 65536)]) → (∃ _ : Unit, True ∧ Value.int .u64 (IntKind.u64.wrap (Int.tdiv (((lim a 2) / 65536) / 65536) 65536)) = .int .u64 ((((lim a 2) / 65536) / 65536) / 65536)) ∧ ∀ _ : Unit, (True) → (true = true) ∧ (∃ _ : Unit, True ∧ Value.int .u64 (Int.tmod ((((lim a 2) / 65536) / 65536) / 65536) 65536) = .int .u64 (((((lim a 2) / 65536) / 65536) / 65536) % 65536)) ∧ ∀ _ : Unit, (True) → (∃ _ : Unit, True ∧ Value.int .i64 (IntKind.i64.wrap (((((lim a 2) / 65536) / 65536) / 65536) % 65536)) = .int .i64 (((((lim a 2) / 65536) / 65536) / 65536) % 65536)) ∧ ∀ _ : Unit, (True) → ∀ b24 : Nat, (OpT Try.prog (do pure (.value (← Builtin.append_ #[41, 41] 41 #[sv x23, .slice (some ⟨b24, 0, none⟩) 1 1]))) [(ss 3 x23), .blk b24 (.cells #[.int .i64 (((((lim a 2) / 65536) / 65536) / 65536) % 65536)] 3 (0, 0))] Row (fun zx => sv zx) (fun zx => [(ss 3 zx), .blk b24 (.cells #[.int .i64 (((((lim a 2) / 65536) / 65536) / 65536) % 65536)] 3 (0, 0))]) (fun zx => vals zx = rvals (sv x23) (ss 3 x23) ++ [.int .i64 (((((lim a 2) / 65536) / 65536) / 65536) % 65536)])) ∧ (∃ zx : Row, (fun zx => vals zx = rvals (sv x23) (ss 3 x23) ++ [.int .i64 (((((lim a 2) / 65536) / 65536) / 65536) % 65536)]) zx) ∧ ∀ x25 : Row, (vals x25 = rvals (sv x23) (ss 3 x23) ++ [.int .i64 (((((lim a 2) / 65536) / 65536) / 65536) % 65536)]) → (∃ _ : Unit, True ∧ Value.int .u64 (IntKind.u64.wrap (Int.tdiv ((((lim a 2) / 65536) / 65536) / 65536) 65536)) = .int .u64 (((((lim a 2) / 65536) / 65536) / 65536) / 65536)) ∧ ∀ _ : Unit, (True) → (false = false) ∧ (true = true) ∧ (true = true) ∧ (∃ _ : Unit, True ∧ Value.int .u64 (Int.tmod (lim a 3) 65536) = .int .u64 ((lim a 3) % 65536)) ∧ ∀ _ : Unit, (True) → (∃ _ : Unit, True ∧ Value.int .i64 (IntKind.i64.wrap ((lim a 3) % 65536)) = .int .i64 ((lim a 3) % 65536)) ∧ ∀ _ : Unit, (True) → ∀ b26 : Nat, (OpT Try.prog (do pure (.value (← Builtin.append_ #[41, 41] 41 #[sv x25, .slice (some ⟨b26, 0, none⟩) 1 1]))) [(ss 3 x25), .blk b26 (.cells #[.int .i64 ((lim a 3) % 65536)] 3 (0, 0))] Row (fun zx => sv zx) (fun zx => [(ss 3 zx), .blk b26 (.cells #[.int .i64 ((lim a 3) % 65536)] 3 (0, 0))]) (fun zx => vals zx = rvals (sv x25) (ss 3 x25) ++ [.int .i64 ((lim a 3) % 65536)])) ∧ (∃ zx : Row, (fun zx => vals zx = rvals (sv x25) (ss 3 x25) ++ [.int .i64 ((lim a 3) % 65536)]) zx) ∧ ∀ x27 : Row, (vals x27 = rvals (sv x25) (ss 3 x25) ++ [.int .i64 ((lim a 3) % 65536)]) → (∃ _ : Unit, True ∧ Value.int .u64 (IntKind.u64.wrap (Int.tdiv (lim a 3) 65536)) = .int .u64 ((lim a 3) / 65536)) ∧ ∀ _ : Unit, (True) → (true = true) ∧ (∃ _ : Unit, True ∧ Value.int .u64 (Int.tmod ((lim a 3) / 65536) 65536) = .int .u64 (((lim a 3) / 65536) % 65536)) ∧ ∀ _ : Unit, (True) → (∃ _ : Unit, True ∧ Value.int .i64 (IntKind.i64.wrap (((lim a 3) / 65536) % 65536)) = .int .i64 (((lim a 3) / 65536) % 65536)) ∧ ∀ _ : Unit, (True) → ∀ b28 : Nat, (OpT Try.prog (do pure (.value (← Builtin.append_ #[41, 41] 41 #[sv x27, .slice (some ⟨b28, 0, none⟩) 1 1]))) [(ss 3 x27), .blk b28 (.cells #[.int .i64 (((lim a 3) / 65536) % 65536)] 3 (0, 0))] Row (fun zx => sv zx) (fun zx => [(ss 3 zx), .blk b28 (.cells #[.int .i64 (((lim a 3) / 65536) % 65536)] 3 (0, 0))]) (fun zx => vals zx = rvals (sv x27) (ss 3 x27) ++ [.int .i64 (((lim a 3) / 65536) % 65536)])) ∧ (∃ zx : Row, (fun zx => vals zx = rvals (sv x27) (ss 3 x27) ++ [.int .i64 (((lim a 3) / 65536) % 65536)]) zx) ∧ ∀ x29 : Row, (vals x29 = rvals (sv x27) (ss 3 x27) ++ [.int .i64 (((lim a 3) / 65536) % 65536)]) → (∃ _ : Unit, True ∧ Value.int .u64 (IntKind.u64.wrap (Int.tdiv ((lim a 3) / 65536) 65536)) = .int .u64 (((lim a 3) / 65536) / 65536)) ∧ ∀ _ : Unit, (True) → (true = true) ∧ (∃ _ : Unit, True ∧ Value.int .u64 (Int.tmod (((lim a 3) / 65536) / 65536) 65536) = .int .u64 ((((lim a 3) / 65536) / 65536) % 65536)) ∧ ∀ _ : Unit, (True) → (∃ _ : Unit, True ∧ Value.int .i64 (IntKind.i64.wrap ((((lim a 3) / 65536) / 65536) % 65536)) = .int .i64 ((((lim a 3) / 65536) / 65536) % 65536)) ∧ ∀ _ : Unit, (True) → ∀ b30 : Nat, (OpT Try.prog (do pure (.value (← Builtin.append_ #[41, 41] 41 #[sv x29, .slice (some ⟨b30, 0, none⟩) 1 1]))) [(ss 3 x29), .blk b30 (.cells #[.int .i64 ((((lim a 3) / 65536) / 65536) % 65536)] 3 (0, 0))] Row (fun zx => sv zx) (fun zx => [(ss 3 zx), .blk b30 (.cells #[.int .i64 ((((lim a 3) / 65536) / 65536) % 65536)] 3 (0, 0))]) (fun zx => vals zx = rvals (sv x29) (ss 3 x29) ++ [.int .i64 ((((lim a 3) / 65536) / 65536) % 65536)])) ∧ (∃ zx : Row, (fun zx => vals zx = rvals (sv x29) (ss 3 x29) ++ [.int .i64 ((((lim a 3) / 65536) / 65536) % 65536)]) zx) ∧ ∀ x31 : Row, (vals x31 = rvals (sv x29) (ss 3 x29) ++ [.int .i64 ((((lim a 3) / 65536) / 65536) % 65536)]) → (∃ _ : Unit, True ∧ Value.int .u64 (IntKind.u64.wrap (Int.tdiv (((lim a 3) / 65536) / 65536) 65536)) = .int .u64 ((((lim a 3) / 65536) / 65536) / 65536)) ∧ ∀ _ : Unit, (True) → (true = true) ∧ (∃ _ : Unit, True ∧ Value.int .u64 (Int.tmod ((((lim a 3) / 65536) / 65536) / 65536) 65536) = .int .u64 (((((lim a 3) / 65536) / 65536) / 65536) % 65536)) ∧ ∀ _ : Unit, (True) → (∃ _ : Unit, True ∧ Value.int .i64 (IntKind.i64.wrap (((((lim a 3) / 65536) / 65536) / 65536) % 65536)) = .int .i64 (((((lim a 3) / 65536) / 65536) / 65536) % 65536)) ∧ ∀ _ : Unit, (True) → ∀ b32 : Nat, (OpT Try.prog (do pure (.value (← Builtin.append_ #[41, 41] 41 #[sv x31, .slice (some ⟨b32, 0, none⟩) 1 1]))) [(ss 3 x31), .blk b32 (.cells #[.int .i64 (((((lim a 3) / 65536) / 65536) / 65536) % 65536)] 3 (0, 0))] Row (fun zx => sv zx) (fun zx => [(ss 3 zx), .blk b32 (.cells #[.int .i64 (((((lim a 3) / 65536) / 65536) / 65536) % 65536)] 3 (0, 0))]) (fun zx => vals zx = rvals (sv x31) (ss 3 x31) ++ [.int .i64 (((((lim a 3) / 65536) / 65536) / 65536) % 65536)])) ∧ (∃ zx : Row, (fun zx => vals zx = rvals (sv x31) (ss 3 x31) ++ [.int .i64 (((((lim a 3) / 65536) / 65536) / 65536) % 65536)]) zx) ∧ ∀ x33 : Row, (vals x33 = rvals (sv x31) (ss 3 x31) ++ [.int .i64 (((((lim a 3) / 65536) / 65536) / 65536) % 65536)]) → (∃ _ : Unit, True ∧ Value.int .u64 (IntKind.u64.wrap (Int.tdiv ((((lim a 3) / 65536) / 65536) / 65536) 65536)) = .int .u64 (((((lim a 3) / 65536) / 65536) / 65536) / 65536)) ∧ ∀ _ : Unit, (True) → (false = false) ∧ (false = false) ∧ (CallT Try.prog 68 #[sv x33] [(ss 3 x33)] Row (fun zx => sv zx) (fun zx => [(ss 3 zx)]) (fun zx => RowOK zx ∧ ss 3 zx = (ss 3 x33) ∧ TrimR (rdv (sv x33) (ss 3 x33)) (dg zx))) ∧ (∃ zx : Row, (fun zx => RowOK zx ∧ ss 3 zx = (ss 3 x33) ∧ TrimR (rdv (sv x33) (ss 3 x33)) (dg zx)) zx) ∧ ∀ x34 : Row, (RowOK x34 ∧ ss 3 x34 = (ss 3 x33) ∧ TrimR (rdv (sv x33) (ss 3 x33)) (dg x34)) → ∃ zx : Row, (RowOK zx ∧ nv (dg zx) = (num (vI a)) ∧ Canon (dg zx) ∧ (dg zx).length ≤ 16) ∧ sv x34 = sv zx ∧ (ss 3 x34) = (ss 3 zx) ∧ True) := by kernel_rfl
set_option maxRecDepth 100000 in
set_option maxHeartbeats 2000000 in
theorem ref2_Row (a : Int) (r_a : R4 a) : CallT Try.prog 20 #[vI a] [] Row (fun zx => sv zx) (fun zx => [(ss 3 zx)]) (fun zx => (RowOK zx ∧ nv (dg zx) = (num (vI a)) ∧ Canon (dg zx) ∧ (dg zx).length ≤ 16)) := by
  refine call_of (c := bodyOf Try.f20) (n := 24) (fn := Try.f20) Try.mixed Try.func20 (by kernel_rfl) (by kernel_rfl) (by kernel_rfl) 2000 _ [] [20] rfl rfl (Eq.mpr (ref2_Row_vc a) ?_)
  have q0 := nil3
  intro b1
  refine ⟨rfl, rfl, rfl, rfl, rfl, rfl, rfl, rfl, ?_⟩
  refine ⟨rfl, ?_⟩
  have ww := W_lim a 0
  refine ⟨rfl, ?_⟩
  refine ⟨⟨(), trivial, congrArg (Value.int .u64) (tmod_nat ww.1)⟩, ?_⟩
  intro _
  intro _
  refine ⟨⟨(), trivial, congrArg (Value.int .i64) (conv16 _)⟩, ?_⟩
  intro _
  intro _
  intro b2
  refine ⟨xappendR Try.sl41 41 Row.nil (Nat.le_trans (Nat.le_of_eq q0.2.1) (by decide)) b2 1 (.int .i64 ((lim a 0) % 65536)) rfl, wit_app _, ?_⟩
  intro x3
  intro h1
  rw [rvals_eq] at h1
  have q1 := snoc3 (x := ((lim a 0) % 65536)) q0 (show P16 0 = 1 from rfl) (by assumption) (m16_0 _) (m16_1 _)
  refine ⟨⟨(), trivial, congrArg (Value.int .u64) (quo_u16 ww)⟩, ?_⟩
  intro _
  intro _
  refine ⟨rfl, ?_⟩
  refine ⟨⟨(), trivial, congrArg (Value.int .u64) (tmod_nat (W_div ww).1)⟩, ?_⟩
  intro _
  intro _
  refine ⟨⟨(), trivial, congrArg (Value.int .i64) (conv16 _)⟩, ?_⟩
  intro _
  intro _
  intro b4
  refine ⟨xappendR Try.sl41 41 x3 (Nat.le_trans (Nat.le_of_eq q1.2.1) (by decide)) b4 1 (.int .i64 (((lim a 0) / 65536) % 65536)) rfl, wit_app _, ?_⟩
  intro x5
  intro h2
  rw [rvals_eq] at h2
  have q2 := snoc3 (x := (((lim a 0) / 65536) % 65536)) q1 (show P16 1 = 65536 from rfl) (by assumption) (m16_0 _) (m16_1 _)
  refine ⟨⟨(), trivial, congrArg (Value.int .u64) (quo_u16 (W_div ww))⟩, ?_⟩
  intro _
  intro _
  refine ⟨rfl, ?_⟩
  refine ⟨⟨(), trivial, congrArg (Value.int .u64) (tmod_nat (W_div (W_div ww)).1)⟩, ?_⟩
  intro _
  intro _
  refine ⟨⟨(), trivial, congrArg (Value.int .i64) (conv16 _)⟩, ?_⟩
  intro _
  intro _
  intro b6
  refine ⟨xappendR Try.sl41 41 x5 (Nat.le_trans (Nat.le_of_eq q2.2.1) (by decide)) b6 1 (.int .i64 ((((lim a 0) / 65536) / 65536) % 65536)) rfl, wit_app _, ?_⟩
  intro x7
  intro h3
  rw [rvals_eq] at h3
  have q3 := snoc3 (x := ((((lim a 0) / 65536) / 65536) % 65536)) q2 (show P16 2 = 4294967296 from rfl) (by assumption) (m16_0 _) (m16_1 _)
  refine ⟨⟨(), trivial, congrArg (Value.int .u64) (quo_u16 (W_div (W_div ww)))⟩, ?_⟩
  intro _
  intro _
  refine ⟨rfl, ?_⟩
  refine ⟨⟨(), trivial, congrArg (Value.int .u64) (tmod_nat (W_div (W_div (W_div ww))).1)⟩, ?_⟩
  intro _
  intro _
  refine ⟨⟨(), trivial, congrArg (Value.int .i64) (conv16 _)⟩, ?_⟩
  intro _
  intro _
  intro b8
  refine ⟨xappendR Try.sl41 41 x7 (Nat.le_trans (Nat.le_of_eq q3.2.1) (by decide)) b8 1 (.int .i64 (((((lim a 0) / 65536) / 65536) / 65536) % 65536)) rfl, wit_app _, ?_⟩
  intro x9
  intro h4
  rw [rvals_eq] at h4
  have q4 := snoc3 (x := (((((lim a 0) / 65536) / 65536) / 65536) % 65536)) q3 (show P16 3 = 281474976710656 from rfl) (by assumption) (m16_0 _) (m16_1 _)
  refine ⟨⟨(), trivial, congrArg (Value.int .u64) (quo_u16 (W_div (W_div (W_div ww))))⟩, ?_⟩
  intro _
  intro _
  refine ⟨rfl, ?_⟩
  refine ⟨rfl, ?_⟩
  have ww := W_lim a 1
  refine ⟨rfl, ?_⟩
  refine ⟨⟨(), trivial, congrArg (Value.int .u64) (tmod_nat ww.1)⟩, ?_⟩
  intro _
  intro _
  refine ⟨⟨(), trivial, congrArg (Value.int .i64) (conv16 _)⟩, ?_⟩
  intro _
  intro _
  intro b10
  refine ⟨xappendR Try.sl41 41 x9 (Nat.le_trans (Nat.le_of_eq q4.2.1) (by decide)) b10 1 (.int .i64 ((lim a 1) % 65536)) rfl, wit_app _, ?_⟩
  intro x11
  intro h5
  rw [rvals_eq] at h5
  have q5 := snoc3 (x := ((lim a 1) % 65536)) q4 (show P16 4 = 18446744073709551616 from rfl) (by assumption) (m16_0 _) (m16_1 _)
  refine ⟨⟨(), trivial, congrArg (Value.int .u64) (quo_u16 ww)⟩, ?_⟩
  intro _
  intro _
  refine ⟨rfl, ?_⟩
  refine ⟨⟨(), trivial, congrArg (Value.int .u64) (tmod_nat (W_div ww).1)⟩, ?_⟩
  intro _
  intro _
  refine ⟨⟨(), trivial, congrArg (Value.int .i64) (conv16 _)⟩, ?_⟩
  intro _
  intro _
  intro b12
  refine ⟨xappendR Try.sl41 41 x11 (Nat.le_trans (Nat.le_of_eq q5.2.1) (by decide)) b12 1 (.int .i64 (((lim a 1) / 65536) % 65536)) rfl, wit_app _, ?_⟩
  intro x13
  intro h6
  rw [rvals_eq] at h6
  have q6 := snoc3 (x := (((lim a 1) / 65536) % 65536)) q5 (show P16 5 = 1208925819614629174706176 from rfl) (by assumption) (m16_0 _) (m16_1 _)
  refine ⟨⟨(), trivial, congrArg (Value.int .u64) (quo_u16 (W_div ww))⟩, ?_⟩
  intro _
  intro _
  refine ⟨rfl, ?_⟩
  refine ⟨⟨(), trivial, congrArg (Value.int .u64) (tmod_nat (W_div (W_div ww)).1)⟩, ?_⟩
  intro _
  intro _
  refine ⟨⟨(), trivial, congrArg (Value.int .i64) (conv16 _)⟩, ?_⟩
  intro _
  intro _
  intro b14
  refine ⟨xappendR Try.sl41 41 x13 (Nat.le_trans (Nat.le_of_eq q6.2.1) (by decide)) b14 1 (.int .i64 ((((lim a 1) / 65536) / 65536) % 65536)) rfl, wit_app _, ?_⟩
  intro x15
  intro h7
  rw [rvals_eq] at h7
  have q7 := snoc3 (x := ((((lim a 1) / 65536) / 65536) % 65536)) q6 (show P16 6 = 79228162514264337593543950336 from rfl) (by assumption) (m16_0 _) (m16_1 _)
  refine ⟨⟨(), trivial, congrArg (Value.int .u64) (quo_u16 (W_div (W_div ww)))⟩, ?_⟩
  intro _
  intro _
  refine ⟨rfl, ?_⟩
  refine ⟨⟨(), trivial, congrArg (Value.int .u64) (tmod_nat (W_div (W_div (W_div ww))).1)⟩, ?_⟩
  intro _
  intro _
  refine ⟨⟨(), trivial, congrArg (Value.int .i64) (conv16 _)⟩, ?_⟩
  intro _
  intro _
  intro b16
  refine ⟨xappendR Try.sl41 41 x15 (Nat.le_trans (Nat.le_of_eq q7.2.1) (by decide)) b16 1 (.int .i64 (((((lim a 1) / 65536) / 65536) / 65536) % 65536)) rfl, wit_app _, ?_⟩
  intro x17
  intro h8
  rw [rvals_eq] at h8
  have q8 := snoc3 (x := (((((lim a 1) / 65536) / 65536) / 65536) % 65536)) q7 (show P16 7 = 5192296858534827628530496329220096 from rfl) (by assumption) (m16_0 _) (m16_1 _)
  refine ⟨⟨(), trivial, congrArg (Value.int .u64) (quo_u16 (W_div (W_div (W_div ww))))⟩, ?_⟩
  intro _
  intro _
  refine ⟨rfl, ?_⟩
  refine ⟨rfl, ?_⟩
  have ww := W_lim a 2
  refine ⟨rfl, ?_⟩
  refine ⟨⟨(), trivial, congrArg (Value.int .u64) (tmod_nat ww.1)⟩, ?_⟩
  intro _
  intro _
  refine ⟨⟨(), trivial, congrArg (Value.int .i64) (conv16 _)⟩, ?_⟩
  intro _
  intro _
  intro b18
  refine ⟨xappendR Try.sl41 41 x17 (Nat.le_trans (Nat.le_of_eq q8.2.1) (by decide)) b18 1 (.int .i64 ((lim a 2) % 65536)) rfl, wit_app _, ?_⟩
  intro x19
  intro h9
  rw [rvals_eq] at h9
  have q9 := snoc3 (x := ((lim a 2) % 65536)) q8 (show P16 8 = 340282366920938463463374607431768211456 from rfl) (by assumption) (m16_0 _) (m16_1 _)
  refine ⟨⟨(), trivial, congrArg (Value.int .u64) (quo_u16 ww)⟩, ?_⟩
  intro _
  intro _
  refine ⟨rfl, ?_⟩
  refine ⟨⟨(), trivial, congrArg (Value.int .u64) (tmod_nat (W_div ww).1)⟩, ?_⟩
  intro _
  intro _
  refine ⟨⟨(), trivial, congrArg (Value.int .i64) (conv16 _)⟩, ?_⟩
  intro _
  intro _
  intro b20
  refine ⟨xappendR Try.sl41 41 x19 (Nat.le_trans (Nat.le_of_eq q9.2.1) (by decide)) b20 1 (.int .i64 (((lim a 2) / 65536) % 65536)) rfl, wit_app _, ?_⟩
  intro x21
  intro h10
  rw [rvals_eq] at h10
  have q10 := snoc3 (x := (((lim a 2) / 65536) % 65536)) q9 (show P16 9 = 22300745198530623141535718272648361505980416 from rfl) (by assumption) (m16_0 _) (m16_1 _)
  refine ⟨⟨(), trivial, congrArg (Value.int .u64) (quo_u16 (W_div ww))⟩, ?_⟩
  intro _
  intro _
  refine ⟨rfl, ?_⟩
  refine ⟨⟨(), trivial, congrArg (Value.int .u64) (tmod_nat (W_div (W_div ww)).1)⟩, ?_⟩
  intro _
  intro _
  refine ⟨⟨(), trivial, congrArg (Value.int .i64) (conv16 _)⟩, ?_⟩
  intro _
  intro _
  intro b22
  refine ⟨xappendR Try.sl41 41 x21 (Nat.le_trans (Nat.le_of_eq q10.2.1) (by decide)) b22 1 (.int .i64 ((((lim a 2) / 65536) / 65536) % 65536)) rfl, wit_app _, ?_⟩
  intro x23
  intro h11
  rw [rvals_eq] at h11
  have q11 := snoc3 (x := ((((lim a 2) / 65536) / 65536) % 65536)) q10 (show P16 10 = 1461501637330902918203684832716283019655932542976 from rfl) (by assumption) (m16_0 _) (m16_1 _)
  refine ⟨⟨(), trivial, congrArg (Value.int .u64) (quo_u16 (W_div (W_div ww)))⟩, ?_⟩
  intro _
  intro _
  refine ⟨rfl, ?_⟩
  refine ⟨⟨(), trivial, congrArg (Value.int .u64) (tmod_nat (W_div (W_div (W_div ww))).1)⟩, ?_⟩
  intro _
  intro _
  refine ⟨⟨(), trivial, congrArg (Value.int .i64) (conv16 _)⟩, ?_⟩
  intro _
  intro _
  intro b24
  refine ⟨xappendR Try.sl41 41 x23 (Nat.le_trans (Nat.le_of_eq q11.2.1) (by decide)) b24 1 (.int .i64 (((((lim a 2) / 65536) / 65536) / 65536) % 65536)) rfl, wit_app _, ?_⟩
  intro x25
  intro h12
  rw [rvals_eq] at h12
  have q12 := snoc3 (x := (((((lim a 2) / 65536) / 65536) / 65536) % 65536)) q11 (show P16 11 = 95780971304118053647396689196894323976171195136475136 from rfl) (by assumption) (m16_0 _) (m16_1 _)
  refine ⟨⟨(), trivial, congrArg (Value.int .u64) (quo_u16 (W_div (W_div (W_div ww))))⟩, ?_⟩
  intro _
  intro _
  refine ⟨rfl, ?_⟩
  refine ⟨rfl, ?_⟩
  have ww := W_lim a 3
  refine ⟨rfl, ?_⟩
  refine ⟨⟨(), trivial, congrArg (Value.int .u64) (tmod_nat ww.1)⟩, ?_⟩
  intro _
  intro _
  refine ⟨⟨(), trivial, congrArg (Value.int .i64) (conv16 _)⟩, ?_⟩
  intro _
  intro _
  intro b26
  refine ⟨xappendR Try.sl41 41 x25 (Nat.le_trans (Nat.le_of_eq q12.2.1) (by decide)) b26 1 (.int .i64 ((lim a 3) % 65536)) rfl, wit_app _, ?_⟩
  intro x27
  intro h13
  rw [rvals_eq] at h13
  have q13 := snoc3 (x := ((lim a 3) % 65536)) q12 (show P16 12 = 6277101735386680763835789423207666416102355444464034512896 from rfl) (by assumption) (m16_0 _) (m16_1 _)
  refine ⟨⟨(), trivial, congrArg (Value.int .u64) (quo_u16 ww)⟩, ?_⟩
  intro _
  intro _
  refine ⟨rfl, ?_⟩
  refine ⟨⟨(), trivial, congrArg (Value.int .u64) (tmod_nat (W_div ww).1)⟩, ?_⟩
  intro _
  intro _
  refine ⟨⟨(), trivial, congrArg (Value.int .i64) (conv16 _)⟩, ?_⟩
  intro _
  intro _
  intro b28
  refine ⟨xappendR Try.sl41 41 x27 (Nat.le_trans (Nat.le_of_eq q13.2.1) (by decide)) b28 1 (.int .i64 (((lim a 3) / 65536) % 65536)) rfl, wit_app _, ?_⟩
  intro x29
  intro h14
  rw [rvals_eq] at h14
  have q14 := snoc3 (x := (((lim a 3) / 65536) % 65536)) q13 (show P16 13 = 411376139330301510538742295639337626245683966408394965837152256 from rfl) (by assumption) (m16_0 _) (m16_1 _)
  refine ⟨⟨(), trivial, congrArg (Value.int .u64) (quo_u16 (W_div ww))⟩, ?_⟩
  intro _
  intro _
  refine ⟨rfl, ?_⟩
  refine ⟨⟨(), trivial, congrArg (Value.int .u64) (tmod_nat (W_div (W_div ww)).1)⟩, ?_⟩
  intro _
  intro _
  refine ⟨⟨(), trivial, congrArg (Value.int .i64) (conv16 _)⟩, ?_⟩
  intro _
  intro _
  intro b30
  refine ⟨xappendR Try.sl41 41 x29 (Nat.le_trans (Nat.le_of_eq q14.2.1) (by decide)) b30 1 (.int .i64 ((((lim a 3) / 65536) / 65536) % 65536)) rfl, wit_app _, ?_⟩
  intro x31
  intro h15
  rw [rvals_eq] at h15
  have q15 := snoc3 (x := ((((lim a 3) / 65536) / 65536) % 65536)) q14 (show P16 14 = 26959946667150639794667015087019630673637144422540572481103610249216 from rfl) (by assumption) (m16_0 _) (m16_1 _)
  refine ⟨⟨(), trivial, congrArg (Value.int .u64) (quo_u16 (W_div (W_div ww)))⟩, ?_⟩
  intro _
  intro _
  refine ⟨rfl, ?_⟩
  refine ⟨⟨(), trivial, congrArg (Value.int .u64) (tmod_nat (W_div (W_div (W_div ww))).1)⟩, ?_⟩
  intro _
  intro _
  refine ⟨⟨(), trivial, congrArg (Value.int .i64) (conv16 _)⟩, ?_⟩
  intro _
  intro _
  intro b32
  refine ⟨xappendR Try.sl41 41 x31 (Nat.le_trans (Nat.le_of_eq q15.2.1) (by decide)) b32 1 (.int .i64 (((((lim a 3) / 65536) / 65536) / 65536) % 65536)) rfl, wit_app _, ?_⟩
  intro x33
  intro h16
  rw [rvals_eq] at h16
  have q16 := snoc3 (x := (((((lim a 3) / 65536) / 65536) / 65536) % 65536)) q15 (show P16 15 = 1766847064778384329583297500742918515827483896875618958121606201292619776 from rfl) (by assumption) (m16_0 _) (m16_1 _)
  refine ⟨⟨(), trivial, congrArg (Value.int .u64) (quo_u16 (W_div (W_div (W_div ww))))⟩, ?_⟩
  intro _
  intro _
  refine ⟨rfl, ?_⟩
  refine ⟨rfl, ?_⟩
  obtain ⟨ok16, ql, hq⟩ := q16
  clear q0 q1 q2 q3 q4 q5 q6 q7 q8 q9 q10 q11 q12 q13 q14 q15
  refine ⟨ref1_Trim x33 (by first | assumption | exact rowOK_lit _ _ (by decide)) (by omega), wit_trim x33 (by first | assumption | exact rowOK_lit _ _ (by decide)), ?_⟩
  intro x34
  intro h17
  simp only [rdv_eq] at h17
  obtain ⟨rh17_, h17⟩ := h17
  have T : TrimR (dg x33) (dg x34) := by first | exact And.right (by assumption) | assumption
  have w0 := limb_digits (W_lim a 0)
  have w1 := limb_digits (W_lim a 1)
  have w2 := limb_digits (W_lim a 2)
  have w3 := limb_digits (W_lim a 3)
  have ea := lims a
  rw [num_vI r_a] at ea
  have hn : nv (dg x34) = a := by
    rw [T.eq, hq]
    refine Eq.trans ?_ ea.symm
    clear hq ea
    omega
  exact ⟨_, ⟨by assumption, by rw [num_vI r_a]; exact hn, T.canon, num_len (RowOK.dig (by assumption)) T.canon hn r_a⟩, rfl, rfl, trivial⟩

def share_more_C : List Value → List Slot → Ctr := fun vs hs => ⟨Int × Int × Int, fun zx => .tuple #[vI zx.1, vI zx.2.1, .int .i64 zx.2.2], fun _ => hs, fun zx => R4 zx.1 ∧ R4 zx.2.1 ∧ zx = sMore (num (varg vs 1)) (num (varg vs 2))⟩
set_option maxRecDepth 100000 in
theorem share_more_vc (a : Int) (b : Int) : codeW Try.prog 27 none 2000 none (bodyOf Try.f87) (.reg [.sem [.nw 0], .sem [.nw 1], .sem [.nw 2], .sem [.nw 3], .sem []] (.reg [.callr [] huge_Of_C, .sem [.nw 4], .sem [.wr 4, .wr 4, .wr 4, .wr 4]] (.reg [.sem [.rd 0, .rd 0, .rd 0, .rd 0], .sem [.rd 4, .rd 4, .rd 4, .rd 4], .callr [] huge_Add_C, .sem [], .sem [], .sem [], .sem [.wr 2, .wr 2, .wr 2, .wr 2], .sem []] (.reg [.sem [.rd 1, .rd 1, .rd 1, .rd 1], .sem [.rd 4, .rd 4, .rd 4, .rd 4], .callr [] huge_Add_C, .sem [], .sem [], .sem [], .sem [.wr 3, .wr 3, .wr 3, .wr 3], .sem []] (.reg [.sem [.rd 2, .rd 2, .rd 2, .rd 2], .sem [.rd 3, .rd 3, .rd 3, .rd 3], .sem [], .sem [], .sem [], .sem [.wr 2, .wr 2, .wr 2, .wr 2], .sem [.wr 3, .wr 3, .wr 3, .wr 3], .sem []] (.done))))))
    (init #[vI a, vI b] []) (finW Try.prog Try.f87 [.rd 2, .rd 2, .rd 2, .rd 2, .rd 3, .rd 3, .rd 3, .rd 3] [] (X := Int × Int × Int) (fun zx => .tuple #[vI zx.1, vI zx.2.1, .int .i64 zx.2.2]) (fun zx => []) (fun zx => (R4 zx.1 ∧ R4 zx.2.1 ∧ zx = sMore (num (vI a)) (num (vI b))))) =
    (∀ b1 : Nat, ∀ b2 : Nat, ∀ b3 : Nat, ∀ b4 : Nat, (CallT Try.prog 75 #[.int .u64 1] [] Unit (fun _ => vI (1 : Int)) (fun _ => []) (fun _ => True)) ∧ (∃ zx : Unit, (fun _ => True) zx) ∧ ∀ _ : Unit, (True) → ∀ b5 : Nat, b5 = b5 ∧ (none : Option Nat) = none ∧ b5 = b5 ∧ (none : Option Nat) = none ∧ b5 = b5 ∧ (none : Option Nat) = none ∧ b5 = b5 ∧ (none : Option Nat) = none ∧ b1 = b1 ∧ (none : Option Nat) = none ∧ b1 = b1 ∧ (none : Option Nat) = none ∧ b1 = b1 ∧ (none : Option Nat) = none ∧ b1 = b1 ∧ (none : Option Nat) = none ∧ b5 = b5 ∧ (none : Option Nat) = none ∧ b5 = b5 ∧ (none : Option Nat) = none ∧ b5 = b5 ∧ (none : Option Nat) = none ∧ b5 = b5 ∧ (none : Option Nat) = none ∧ (CallT Try.prog 47 #[vI a, vI (1 : Int)] [] (Int × Int) (fun zx => .tuple #[vI zx.1, .int .i64 zx.2]) (fun _ => []) (fun zx => R4 zx.1 ∧ zx = hAdd (num (vI a)) (num (vI (1 : Int))))) ∧ (∃ zx : Int × Int, (fun zx => R4 zx.1 ∧ zx = hAdd (num (vI a)) (num (vI (1 : Int)))) zx) ∧ ∀ x6 : Int × Int, (R4 x6.1 ∧ x6 = hAdd (num (vI a)) (num (vI (1 : Int)))) → b3 = b3 ∧ (none : Option Nat) = none ∧ b3 = b3 ∧ (none : Option Nat) = none ∧ b3 = b3 ∧ (none : Option Nat) = none ∧ b3 = b3 ∧ (none : Option Nat) = none ∧ b2 = b2 ∧ (none : Option Nat) = none ∧ b2 = b2 ∧ (none : Option Nat) = none ∧ b2 = b2 ∧ (none : Option Nat) = none ∧ b2 = b2 ∧ (none : Option Nat) = none ∧ b5 = b5 ∧ (none : Option Nat) = none ∧ b5 = b5 ∧ (none : Option Nat) = none ∧ b5 = b5 ∧ (none : Option Nat) = none ∧ b5 = b5 ∧ (none : Option Nat) = none ∧ (CallT Try.prog 47 #[vI b, vI (1 : Int)] [] (Int × Int) (fun zx => .tuple #[vI zx.1, .int .i64 zx.2]) (fun _ => []) (fun zx => R4 zx.1 ∧ zx = hAdd (num (vI b)) (num (vI (1 : Int))))) ∧ (∃ zx : Int × Int, (fun zx => R4 zx.1 ∧ zx = hAdd (num (vI b)) (num (vI (1 : Int)))) zx) ∧ ∀ x7 : Int × Int, (R4 x7.1 ∧ x7 = hAdd (num (vI b)) (num (vI (1 : Int)))) → b4 = b4 ∧ (none : Option Nat) = none ∧ b4 = b4 ∧ (none : Option Nat) = none ∧ b4 = b4 ∧ (none : Option Nat) = none ∧ b4 = b4 ∧ (none : Option Nat) = none ∧ b3 = b3 ∧ (none : Option Nat) = none ∧ b3 = b3 ∧ (none : Option Nat) = none ∧ b3 = b3 ∧ (none : Option Nat) = none ∧ b3 = b3 ∧ (none : Option Nat) = none ∧ b4 = b4 ∧ (none : Option Nat) = none ∧ b4 = b4 ∧ (none : Option Nat) = none ∧ b4 = b4 ∧ (none : Option Nat) = none ∧ b4 = b4 ∧ (none : Option Nat) = none ∧ b3 = b3 ∧ (none : Option Nat) = none ∧ b3 = b3 ∧ (none : Option Nat) = none ∧ b3 = b3 ∧ (none : Option Nat) = none ∧ b3 = b3 ∧ (none : Option Nat) = none ∧ b4 = b4 ∧ (none : Option Nat) = none ∧ b4 = b4 ∧ (none : Option Nat) = none ∧ b4 = b4 ∧ (none : Option Nat) = none ∧ b4 = b4 ∧ (none : Option Nat) = none ∧ b3 = b3 ∧ (none : Option Nat) = none ∧ b3 = b3 ∧ (none : Option Nat) = none ∧ b3 = b3 ∧ (none : Option Nat) = none ∧ b3 = b3 ∧ (none : Option Nat) = none ∧ b4 = b4 ∧ (none : Option Nat) = none ∧ b4 = b4 ∧ (none : Option Nat) = none ∧ b4 = b4 ∧ (none : Option Nat) = none ∧ b4 = b4 ∧ (none : Option Nat) = none ∧ ∃ zx : Int × Int × Int, (R4 zx.1 ∧ R4 zx.2.1 ∧ zx = sMore (num (vI a)) (num (vI b))) ∧ Value.tuple #[vI x6.1, vI x7.1, .int .i64 (if x7.2 > x6.2 then x7.2 else x6.2)] = .tuple #[vI zx.1, vI zx.2.1, .int .i64 zx.2.2] ∧ True) := by kernel_rfl
set_option maxRecDepth 100000 in
theorem share_more (a : Int) (b : Int) (r_a : R4 a) (r_b : R4 b) : CallT Try.prog 87 #[vI a, vI b] [] (Int × Int × Int) (fun zx => .tuple #[vI zx.1, vI zx.2.1, .int .i64 zx.2.2]) (fun zx => []) (fun zx => (R4 zx.1 ∧ R4 zx.2.1 ∧ zx = sMore (num (vI a)) (num (vI b)))) := by
  refine call_of (c := bodyOf Try.f87) (n := 27) (fn := Try.f87) Try.mixed Try.func87 (by kernel_rfl) (by kernel_rfl) (by kernel_rfl) 2000 _ [.rd 2, .rd 2, .rd 2, .rd 2, .rd 3, .rd 3, .rd 3, .rd 3] [] rfl rfl (Eq.mpr (share_more_vc a b) ?_)
  intro b1
  intro b2
  intro b3
  intro b4
  refine ⟨huge_Of (1 : Int) (by first | assumption | exact W_lim _ _ | (unfold W; decide)), ⟨(), trivial⟩, ?_⟩
  intro _
  intro _
  intro b5
  refine ⟨rfl, rfl, rfl, rfl, rfl, rfl, rfl, rfl, ?_⟩
  refine ⟨rfl, rfl, rfl, rfl, rfl, rfl, rfl, rfl, rfl, rfl, rfl, rfl, rfl, rfl, rfl, rfl, huge_Add a (1 : Int) (by assumption) (by unfold R4; decide), ⟨hAdd (num (vI a)) (num (vI (1 : Int))), hAdd_R (R4_num _) (R4_num _), rfl⟩, ?_⟩
  intro x6
  intro h1
  obtain ⟨rh1_1, h1⟩ := h1
  try simp only [num_vI (n := a) (by assumption), num_vI (n := (1 : Int)) (by unfold R4; decide)] at h1
  have h1 := h1
  refine ⟨rfl, rfl, rfl, rfl, rfl, rfl, rfl, rfl, ?_⟩
  refine ⟨rfl, rfl, rfl, rfl, rfl, rfl, rfl, rfl, rfl, rfl, rfl, rfl, rfl, rfl, rfl, rfl, huge_Add b (1 : Int) (by assumption) (by unfold R4; decide), ⟨hAdd (num (vI b)) (num (vI (1 : Int))), hAdd_R (R4_num _) (R4_num _), rfl⟩, ?_⟩
  intro x7
  intro h2
  obtain ⟨rh2_1, h2⟩ := h2
  try simp only [num_vI (n := b) (by assumption), num_vI (n := (1 : Int)) (by unfold R4; decide)] at h2
  have h2 := h2
  refine ⟨rfl, rfl, rfl, rfl, rfl, rfl, rfl, rfl, ?_⟩
  refine ⟨rfl, rfl, rfl, rfl, rfl, rfl, rfl, rfl, rfl, rfl, rfl, rfl, rfl, rfl, rfl, rfl, rfl, rfl, rfl, rfl, rfl, rfl, rfl, rfl, rfl, rfl, rfl, rfl, rfl, rfl, rfl, rfl, ?_⟩
  refine ⟨rfl, rfl, rfl, rfl, rfl, rfl, rfl, rfl, rfl, rfl, rfl, rfl, rfl, rfl, rfl, rfl, ?_⟩
  exact ⟨sMore a b, ⟨(sMore_R r_a r_b).1, (sMore_R r_a r_b).2, by rw [num_vI r_a, num_vI r_b]⟩, by subst h1 h2; rfl, trivial⟩

def share_In_C : List Value → List Slot → Ctr := fun vs hs => ⟨Int × Int, fun zx => .tuple #[vI zx.1, .int .i64 zx.2], fun _ => hs, fun zx => R4 zx.1 ∧ zx = sIn (num (varg vs 1)) (num (varg vs 2)) (num (varg vs 3))⟩
set_option maxRecDepth 100000 in
set_option maxHeartbeats 1000000 in
theorem share_In_vc (A : Int) (S : Int) (n : Int) : codeW Try.prog 66 none 2000 none (bodyOf Try.f50) (.reg [.sem [.nw 0], .sem [.nw 1], .sem [.nw 2], .sem [.nw 3], .sem []] (.reg [.sem [.rd 2, .rd 2, .rd 2, .rd 2], .sem [], .eq (f_eq)] (.cond (.reg [.sem [.rd 2, .rd 2, .rd 2, .rd 2], .sem [.wr 3, .wr 3, .wr 3, .wr 3], .sem []] (.done)) (.reg [.sem [.rd 0, .rd 0, .rd 0, .rd 0], .sem [.rd 1, .rd 1, .rd 1, .rd 1], .callr [] share_more_C, .sem [], .sem [], .sem [], .sem [], .sem [.nw 4], .sem [.nw 5], .sem [.wr 4, .wr 4, .wr 4, .wr 4], .sem [.wr 5, .wr 5, .wr 5, .wr 5], .sem []] (.reg [.sem [], .sem []] (.cond (.reg [.sem [], .sem [], .sem [.wr 3, .wr 3, .wr 3, .wr 3], .sem []] (.done)) (.reg [.sem [.rd 2, .rd 2, .rd 2, .rd 2], .sem [.rd 5, .rd 5, .rd 5, .rd 5], .sem [.rd 4, .rd 4, .rd 4, .rd 4], .callr [] wide_MulDiv_C, .sem [], .sem [], .sem [], .sem [.nw 6], .sem [.wr 6, .wr 6, .wr 6, .wr 6], .sem []] (.reg [.sem [], .sem [], .sem []] (.cond (.reg [.sem [], .sem [], .sem [.wr 3, .wr 3, .wr 3, .wr 3], .sem []] (.done)) (.reg [.sem [.rd 6, .rd 6, .rd 6, .rd 6], .sem [], .eq (f_eq), .sem []] (.cond (.reg [.sem [.rd 6, .rd 6, .rd 6, .rd 6], .sem [.wr 3, .wr 3, .wr 3, .wr 3], .sem []] (.done)) (.reg [.sem [.rd 0, .rd 0, .rd 0, .rd 0], .sem [.rd 2, .rd 2, .rd 2, .rd 2], .callr [] huge_Add_C, .sem [], .sem [], .sem [], .sem []] (.reg [.sem [.rd 1, .rd 1, .rd 1, .rd 1], .sem [.rd 6, .rd 6, .rd 6, .rd 6], .callr [] huge_Add_C, .sem [], .sem [], .sem [], .sem [.nw 7], .sem [.wr 7, .wr 7, .wr 7, .wr 7], .sem []] (.caseP (fun s => (ci (s.fr 10)) != (0 : Int)) (.reg [.sem [], .gen [] (one (.bool true)), .sem [], .no, .no, .sem []] (.condT (.reg [.sem [], .sem [.wr 3, .wr 3, .wr 3, .wr 3], .sem []] (.done)))) (.reg [.sem [], .gen [] (one (.bool false)), .sem [], .sem [], .sem [], .sem []] (.cond (.reg [.sem [], .sem [.wr 3, .wr 3, .wr 3, .wr 3], .sem []] (.done)) (.reg [.sem [.rd 6, .rd 6, .rd 6, .rd 6], .sem [.wr 3, .wr 3, .wr 3, .wr 3], .sem []] (.done))))))))))))))))))
    (init #[vI A, vI S, vI n] []) (finW Try.prog Try.f50 [.rd 3, .rd 3, .rd 3, .rd 3] [] (X := Int × Int) (fun zx => .tuple #[vI zx.1, .int .i64 zx.2]) (fun zx => []) (fun zx => (R4 zx.1 ∧ zx = sIn (num (vI A)) (num (vI S)) (num (vI n))))) =
    (∀ b1 : Nat, ∀ b2 : Nat, ∀ b3 : Nat, ∀ b4 : Nat, b3 = b3 ∧ (none : Option Nat) = none ∧ b3 = b3 ∧ (none : Option Nat) = none ∧ b3 = b3 ∧ (none : Option Nat) = none ∧ b3 = b3 ∧ (none : Option Nat) = none ∧ (PureRun Try.prog (xBin .eql 44 (vI n) (vI 0)) (.bool (num (vI n) == num (vI 0)))) ∧ ((num (vI n) == num (vI 0)) = true → b3 = b3 ∧ (none : Option Nat) = none ∧ b3 = b3 ∧ (none : Option Nat) = none ∧ b3 = b3 ∧ (none : Option Nat) = none ∧ b3 = b3 ∧ (none : Option Nat) = none ∧ b4 = b4 ∧ (none : Option Nat) = none ∧ b4 = b4 ∧ (none : Option Nat) = none ∧ b4 = b4 ∧ (none : Option Nat) = none ∧ b4 = b4 ∧ (none : Option Nat) = none ∧ b4 = b4 ∧ (none : Option Nat) = none ∧ b4 = b4 ∧ (none : Option Nat) = none ∧ b4 = b4 ∧ (none : Option Nat) = none ∧ b4 = b4 ∧ (none : Option Nat) = none ∧ ∃ zx : Int × Int, (R4 zx.1 ∧ zx = sIn (num (vI A)) (num (vI S)) (num (vI n))) ∧ Value.tuple #[vI n, .int .i64 3] = .tuple #[vI zx.1, .int .i64 zx.2] ∧ True) ∧ ((num (vI n) == num (vI 0)) = false → b1 = b1 ∧ (none : Option Nat) = none ∧ b1 = b1 ∧ (none : Option Nat) = none ∧ b1 = b1 ∧ (none : Option Nat) = none ∧ b1 = b1 ∧ (none : Option Nat) = none ∧ b2 = b2 ∧ (none : Option Nat) = none ∧ b2 = b2 ∧ (none : Option Nat) = none ∧ b2 = b2 ∧ (none : Option Nat) = none ∧ b2 = b2 ∧ (none : Option Nat) = none ∧ (CallT Try.prog 87 #[vI A, vI S] [] (Int × Int × Int) (fun zx => .tuple #[vI zx.1, vI zx.2.1, .int .i64 zx.2.2]) (fun _ => []) (fun zx => R4 zx.1 ∧ R4 zx.2.1 ∧ zx = sMore (num (vI A)) (num (vI S)))) ∧ (∃ zx : Int × Int × Int, (fun zx => R4 zx.1 ∧ R4 zx.2.1 ∧ zx = sMore (num (vI A)) (num (vI S))) zx) ∧ ∀ x5 : Int × Int × Int, (R4 x5.1 ∧ R4 x5.2.1 ∧ x5 = sMore (num (vI A)) (num (vI S))) → ∀ b6 : Nat, ∀ b7 : Nat, b6 = b6 ∧ (none : Option Nat) = none ∧ b6 = b6 ∧ (none : Option Nat) = none ∧ b6 = b6 ∧ (none : Option Nat) = none ∧ b6 = b6 ∧ (none : Option Nat) = none ∧ b7 = b7 ∧ (none : Option Nat) = none ∧ b7 = b7 ∧ (none : Option Nat) = none ∧ b7 = b7 ∧ (none : Option Nat) = none ∧ b7 = b7 ∧ (none : Option Nat) = none ∧ ((x5.2.2 != (0 : Int)) = true → b4 = b4 ∧ (none : Option Nat) = none ∧ b4 = b4 ∧ (none : Option Nat) = none ∧ b4 = b4 ∧ (none : Option Nat) = none ∧ b4 = b4 ∧ (none : Option Nat) = none ∧ b4 = b4 ∧ (none : Option Nat) = none ∧ b4 = b4 ∧ (none : Option Nat) = none ∧ b4 = b4 ∧ (none : Option Nat) = none ∧ b4 = b4 ∧ (none : Option Nat) = none ∧ ∃ zx : Int × Int, (R4 zx.1 ∧ zx = sIn (num (vI A)) (num (vI S)) (num (vI n))) ∧ Value.tuple #[.agg #[.int .u64 0, .int .u64 0, .int .u64 0, .int .u64 0], .int .i64 x5.2.2] = .tuple #[vI zx.1, .int .i64 zx.2] ∧ True) ∧ ((x5.2.2 != (0 : Int)) = false → b3 = b3 ∧ (none : Option Nat) = none ∧ b3 = b3 ∧ (none : Option Nat) = none ∧ b3 = b3 ∧ (none : Option Nat) = none ∧ b3 = b3 ∧ (none : Option Nat) = none ∧ b7 = b7 ∧ (none : Option Nat) = none ∧ b7 = b7 ∧ (none : Option Nat) = none ∧ b7 = b7 ∧ (none : Option Nat) = none ∧ b7 = b7 ∧ (none : Option Nat) = none ∧ b6 = b6 ∧ (none : Option Nat) = none ∧ b6 = b6 ∧ (none : Option Nat) = none ∧ b6 = b6 ∧ (none : Option Nat) = none ∧ b6 = b6 ∧ (none : Option Nat) = none ∧ (CallT Try.prog 34 #[vI n, vI x5.2.1, vI x5.1] [] (Int × Int) (fun zx => .tuple #[vI zx.1, .int .i64 zx.2]) (fun _ => []) (fun zx => R4 zx.1 ∧ zx = wMulDiv (num (vI n)) (num (vI x5.2.1)) (num (vI x5.1)))) ∧ (∃ zx : Int × Int, (fun zx => R4 zx.1 ∧ zx = wMulDiv (num (vI n)) (num (vI x5.2.1)) (num (vI x5.1))) zx) ∧ ∀ x8 : Int × Int, (R4 x8.1 ∧ x8 = wMulDiv (num (vI n)) (num (vI x5.2.1)) (num (vI x5.1))) → ∀ b9 : Nat, b9 = b9 ∧ (none : Option Nat) = none ∧ b9 = b9 ∧ (none : Option Nat) = none ∧ b9 = b9 ∧ (none : Option Nat) = none ∧ b9 = b9 ∧ (none : Option Nat) = none ∧ ((x8.2 != (0 : Int)) = true → b4 = b4 ∧ (none : Option Nat) = none ∧ b4 = b4 ∧ (none : Option Nat) = none ∧ b4 = b4 ∧ (none : Option Nat) = none ∧ b4 = b4 ∧ (none : Option Nat) = none ∧ b4 = b4 ∧ (none : Option Nat) = none ∧ b4 = b4 ∧ (none : Option Nat) = none ∧ b4 = b4 ∧ (none : Option Nat) = none ∧ b4 = b4 ∧ (none : Option Nat) = none ∧ ∃ zx : Int × Int, (R4 zx.1 ∧ zx = sIn (num (vI A)) (num (vI S)) (num (vI n))) ∧ Value.tuple #[.agg #[.int .u64 0, .int .u64 0, .int .u64 0, .int .u64 0], .int .i64 x8.2] = .tuple #[vI zx.1, .int .i64 zx.2] ∧ True) ∧ ((x8.2 != (0 : Int)) = false → b9 = b9 ∧ (none : Option Nat) = none ∧ b9 = b9 ∧ (none : Option Nat) = none ∧ b9 = b9 ∧ (none : Option Nat) = none ∧ b9 = b9 ∧ (none : Option Nat) = none ∧ (PureRun Try.prog (xBin .eql 44 (vI x8.1) (vI 0)) (.bool (num (vI x8.1) == num (vI 0)))) ∧ ((num (vI x8.1) == num (vI 0)) = true → b9 = b9 ∧ (none : Option Nat) = none ∧ b9 = b9 ∧ (none : Option Nat) = none ∧ b9 = b9 ∧ (none : Option Nat) = none ∧ b9 = b9 ∧ (none : Option Nat) = none ∧ b4 = b4 ∧ (none : Option Nat) = none ∧ b4 = b4 ∧ (none : Option Nat) = none ∧ b4 = b4 ∧ (none : Option Nat) = none ∧ b4 = b4 ∧ (none : Option Nat) = none ∧ b4 = b4 ∧ (none : Option Nat) = none ∧ b4 = b4 ∧ (none : Option Nat) = none ∧ b4 = b4 ∧ (none : Option Nat) = none ∧ b4 = b4 ∧ (none : Option Nat) = none ∧ ∃ zx : Int × Int, (R4 zx.1 ∧ zx = sIn (num (vI A)) (num (vI S)) (num (vI n))) ∧ Value.tuple #[vI x8.1, .int .i64 3] = .tuple #[vI zx.1, .int .i64 zx.2] ∧ True) ∧ ((num (vI x8.1) == num (vI 0)) = false → b1 = b1 ∧ (none : Option Nat) = none ∧ b1 = b1 ∧ (none : Option Nat) = none ∧ b1 = b1 ∧ (none : Option Nat) = none ∧ b1 = b1 ∧ (none : Option Nat) = none ∧ b3 = b3 ∧ (none : Option Nat) = none ∧ b3 = b3 ∧ (none : Option Nat) = none ∧ b3 = b3 ∧ (none : Option Nat) = none ∧ b3 = b3 ∧ (none : Option Nat) = none ∧ (CallT Try.prog 47 #[vI A, vI n] [] (Int × Int) (fun zx => .tuple #[vI zx.1, .int .i64 zx.2]) (fun _ => []) (fun zx => R4 zx.1 ∧ zx = hAdd (num (vI A)) (num (vI n)))) ∧ (∃ zx : Int × Int, (fun zx => R4 zx.1 ∧ zx = hAdd (num (vI A)) (num (vI n))) zx) ∧ ∀ x10 : Int × Int, (R4 x10.1 ∧ x10 = hAdd (num (vI A)) (num (vI n))) → b2 = b2 ∧ (none : Option Nat) = none ∧ b2 = b2 ∧ (none : Option Nat) = none ∧ b2 = b2 ∧ (none : Option Nat) = none ∧ b2 = b2 ∧ (none : Option Nat) = none ∧ b9 = b9 ∧ (none : Option Nat) = none ∧ b9 = b9 ∧ (none : Option Nat) = none ∧ b9 = b9 ∧ (none : Option Nat) = none ∧ b9 = b9 ∧ (none : Option Nat) = none ∧ (CallT Try.prog 47 #[vI S, vI x8.1] [] (Int × Int) (fun zx => .tuple #[vI zx.1, .int .i64 zx.2]) (fun _ => []) (fun zx => R4 zx.1 ∧ zx = hAdd (num (vI S)) (num (vI x8.1)))) ∧ (∃ zx : Int × Int, (fun zx => R4 zx.1 ∧ zx = hAdd (num (vI S)) (num (vI x8.1))) zx) ∧ ∀ x11 : Int × Int, (R4 x11.1 ∧ x11 = hAdd (num (vI S)) (num (vI x8.1))) → ∀ b12 : Nat, b12 = b12 ∧ (none : Option Nat) = none ∧ b12 = b12 ∧ (none : Option Nat) = none ∧ b12 = b12 ∧ (none : Option Nat) = none ∧ b12 = b12 ∧ (none : Option Nat) = none ∧ ((x10.2 != (0 : Int)) = true → (∃ _ : Unit, True ∧ Value.bool (x10.2 != (0 : Int)) = .bool true) ∧ ∀ _ : Unit, (True) → true = !false ∧ true = !false ∧ (true = true) ∧ b4 = b4 ∧ (none : Option Nat) = none ∧ b4 = b4 ∧ (none : Option Nat) = none ∧ b4 = b4 ∧ (none : Option Nat) = none ∧ b4 = b4 ∧ (none : Option Nat) = none ∧ b4 = b4 ∧ (none : Option Nat) = none ∧ b4 = b4 ∧ (none : Option Nat) = none ∧ b4 = b4 ∧ (none : Option Nat) = none ∧ b4 = b4 ∧ (none : Option Nat) = none ∧ ∃ zx : Int × Int, (R4 zx.1 ∧ zx = sIn (num (vI A)) (num (vI S)) (num (vI n))) ∧ Value.tuple #[.agg #[.int .u64 0, .int .u64 0, .int .u64 0, .int .u64 0], .int .i64 2] = .tuple #[vI zx.1, .int .i64 zx.2] ∧ True) ∧ ((x10.2 != (0 : Int)) = false → (∃ _ : Unit, True ∧ Value.bool (x10.2 != (0 : Int)) = .bool false) ∧ ∀ _ : Unit, (True) → false = false ∧ false = false ∧ ((x11.2 != (0 : Int)) = true → b4 = b4 ∧ (none : Option Nat) = none ∧ b4 = b4 ∧ (none : Option Nat) = none ∧ b4 = b4 ∧ (none : Option Nat) = none ∧ b4 = b4 ∧ (none : Option Nat) = none ∧ b4 = b4 ∧ (none : Option Nat) = none ∧ b4 = b4 ∧ (none : Option Nat) = none ∧ b4 = b4 ∧ (none : Option Nat) = none ∧ b4 = b4 ∧ (none : Option Nat) = none ∧ ∃ zx : Int × Int, (R4 zx.1 ∧ zx = sIn (num (vI A)) (num (vI S)) (num (vI n))) ∧ Value.tuple #[.agg #[.int .u64 0, .int .u64 0, .int .u64 0, .int .u64 0], .int .i64 2] = .tuple #[vI zx.1, .int .i64 zx.2] ∧ True) ∧ ((x11.2 != (0 : Int)) = false → b9 = b9 ∧ (none : Option Nat) = none ∧ b9 = b9 ∧ (none : Option Nat) = none ∧ b9 = b9 ∧ (none : Option Nat) = none ∧ b9 = b9 ∧ (none : Option Nat) = none ∧ b4 = b4 ∧ (none : Option Nat) = none ∧ b4 = b4 ∧ (none : Option Nat) = none ∧ b4 = b4 ∧ (none : Option Nat) = none ∧ b4 = b4 ∧ (none : Option Nat) = none ∧ b4 = b4 ∧ (none : Option Nat) = none ∧ b4 = b4 ∧ (none : Option Nat) = none ∧ b4 = b4 ∧ (none : Option Nat) = none ∧ b4 = b4 ∧ (none : Option Nat) = none ∧ ∃ zx : Int × Int, (R4 zx.1 ∧ zx = sIn (num (vI A)) (num (vI S)) (num (vI n))) ∧ Value.tuple #[vI x8.1, .int .i64 0] = .tuple #[vI zx.1, .int .i64 zx.2] ∧ True))))))) := by kernel_rfl
set_option maxRecDepth 100000 in
set_option maxHeartbeats 1000000 in
theorem share_In (A : Int) (S : Int) (n : Int) (r_A : R4 A) (r_S : R4 S) (r_n : R4 n) : CallT Try.prog 50 #[vI A, vI S, vI n] [] (Int × Int) (fun zx => .tuple #[vI zx.1, .int .i64 zx.2]) (fun zx => []) (fun zx => (R4 zx.1 ∧ zx = sIn (num (vI A)) (num (vI S)) (num (vI n)))) := by
  refine call_of (c := bodyOf Try.f50) (n := 66) (fn := Try.f50) Try.mixed Try.func50 (by kernel_rfl) (by kernel_rfl) (by kernel_rfl) 2000 _ [.rd 3, .rd 3, .rd 3, .rd 3] [] rfl rfl (Eq.mpr (share_In_vc A S n) ?_)
  have g0 := r_A.1; have g1 := r_S.1; have g2 := r_n.1
  have qn := quo_nonneg r_n.1 r_S.1 r_A.1
  intro b1
  intro b2
  intro b3
  intro b4
  refine ⟨rfl, rfl, rfl, rfl, rfl, rfl, rfl, rfl, Try.xeq44 n 0, ?_⟩
  refine ⟨fun h1 => ?_, fun h1 => ?_⟩
  · refine ⟨rfl, rfl, rfl, rfl, rfl, rfl, rfl, rfl, rfl, rfl, rfl, rfl, rfl, rfl, rfl, rfl, ?_⟩
    refine ⟨rfl, rfl, rfl, rfl, rfl, rfl, rfl, rfl, ?_⟩
    try simp (disch := first | assumption | exact R4_zero | exact R4_one) only [num_vI, hCmp_pos, hCmp_neg, hCmp_le0, hCmp_ge0, decide_eq_true_eq, decide_eq_false_iff_not, gt_iff_lt, ge_iff_le, beq_iff_eq, beq_eq_false_iff_ne, bne_iff_ne, bne_eq_false_iff_eq, ne_eq] at *
    have ha : n = 0 := by omega
    have hs : sIn A S n = (0, 3) := by
      unfold sIn
      (repeat' split) <;> first | rfl | (exfalso; omega)
    exact ⟨(0, 3), ⟨R4_zero, by first | exact hs.symm | (rw [num_vI r_A, num_vI r_S, num_vI r_n]; exact hs.symm)⟩, by rw [ha], trivial⟩
  · refine ⟨rfl, rfl, rfl, rfl, rfl, rfl, rfl, rfl, rfl, rfl, rfl, rfl, rfl, rfl, rfl, rfl, share_more A S (by assumption) (by assumption), ⟨_, (sMore_R (by first | exact R4_num _ | exact by assumption) (by first | exact R4_num _ | exact by assumption)).1, (sMore_R (by first | exact R4_num _ | exact by assumption) (by first | exact R4_num _ | exact by assumption)).2, rfl⟩, ?_⟩
    intro x5
    intro h2
    obtain ⟨rh2_1, h2⟩ := h2
    obtain ⟨rh2_21, h2⟩ := h2
    try simp only [num_vI (n := A) (by assumption), num_vI (n := S) (by assumption)] at h2
    have cm := sMore_cases h2
    intro b6
    intro b7
    refine ⟨rfl, rfl, rfl, rfl, rfl, rfl, rfl, rfl, rfl, rfl, rfl, rfl, rfl, rfl, rfl, rfl, ?_⟩
    refine ⟨fun h3 => ?_, fun h3 => ?_⟩
    · refine ⟨rfl, rfl, rfl, rfl, rfl, rfl, rfl, rfl, ?_⟩
      refine ⟨rfl, rfl, rfl, rfl, rfl, rfl, rfl, rfl, ?_⟩
      try simp (disch := first | assumption | exact R4_zero | exact R4_one) only [num_vI, hCmp_pos, hCmp_neg, hCmp_le0, hCmp_ge0, decide_eq_true_eq, decide_eq_false_iff_not, gt_iff_lt, ge_iff_le, beq_iff_eq, beq_eq_false_iff_ne, bne_iff_ne, bne_eq_false_iff_eq, ne_eq] at *
      have he : x5.2.2 = 2 := by omega
      have hs : sIn A S n = (0, 2) := by
        unfold sIn
        (repeat' split) <;> first | rfl | (exfalso; omega)
      exact ⟨(0, 2), ⟨R4_zero, by first | exact hs.symm | (rw [num_vI r_A, num_vI r_S, num_vI r_n]; exact hs.symm)⟩, by rw [he, vI_zero], trivial⟩
    · refine ⟨rfl, rfl, rfl, rfl, rfl, rfl, rfl, rfl, rfl, rfl, rfl, rfl, rfl, rfl, rfl, rfl, rfl, rfl, rfl, rfl, rfl, rfl, rfl, rfl, wide_MulDiv n x5.2.1 x5.1 (by assumption) (by assumption) (by assumption), ⟨_, wMulDiv_R (R4_num _) (R4_num _) (R4_num _), rfl⟩, ?_⟩
      intro x8
      intro h4
      obtain ⟨rh4_1, h4⟩ := h4
      try simp only [num_vI (n := n) (by assumption), num_vI (n := x5.2.1) (by assumption), num_vI (n := x5.1) (by assumption)] at h4
      have cq := wMulDiv_cases h4 (by try simp (disch := first | assumption | exact R4_zero | exact R4_one) only [num_vI, hCmp_pos, hCmp_neg, hCmp_le0, hCmp_ge0, decide_eq_true_eq, decide_eq_false_iff_not, gt_iff_lt, ge_iff_le, beq_iff_eq, beq_eq_false_iff_ne, bne_iff_ne, bne_eq_false_iff_eq, ne_eq] at *; omega)
      rw [show x5.2.1 = S + 1 from by try simp (disch := first | assumption | exact R4_zero | exact R4_one) only [num_vI, hCmp_pos, hCmp_neg, hCmp_le0, hCmp_ge0, decide_eq_true_eq, decide_eq_false_iff_not, gt_iff_lt, ge_iff_le, beq_iff_eq, beq_eq_false_iff_ne, bne_iff_ne, bne_eq_false_iff_eq, ne_eq] at *; omega, show x5.1 = A + 1 from by try simp (disch := first | assumption | exact R4_zero | exact R4_one) only [num_vI, hCmp_pos, hCmp_neg, hCmp_le0, hCmp_ge0, decide_eq_true_eq, decide_eq_false_iff_not, gt_iff_lt, ge_iff_le, beq_iff_eq, beq_eq_false_iff_ne, bne_iff_ne, bne_eq_false_iff_eq, ne_eq] at *; omega] at cq
      intro b9
      refine ⟨rfl, rfl, rfl, rfl, rfl, rfl, rfl, rfl, ?_⟩
      refine ⟨fun h5 => ?_, fun h5 => ?_⟩
      · refine ⟨rfl, rfl, rfl, rfl, rfl, rfl, rfl, rfl, ?_⟩
        refine ⟨rfl, rfl, rfl, rfl, rfl, rfl, rfl, rfl, ?_⟩
        try simp (disch := first | assumption | exact R4_zero | exact R4_one) only [num_vI, hCmp_pos, hCmp_neg, hCmp_le0, hCmp_ge0, decide_eq_true_eq, decide_eq_false_iff_not, gt_iff_lt, ge_iff_le, beq_iff_eq, beq_eq_false_iff_ne, bne_iff_ne, bne_eq_false_iff_eq, ne_eq] at *
        have he : x8.2 = 2 := by omega
        have hs : sIn A S n = (0, 2) := by
          unfold sIn
          (repeat' split) <;> first | rfl | (exfalso; omega)
        exact ⟨(0, 2), ⟨R4_zero, by first | exact hs.symm | (rw [num_vI r_A, num_vI r_S, num_vI r_n]; exact hs.symm)⟩, by rw [he, vI_zero], trivial⟩
      · refine ⟨rfl, rfl, rfl, rfl, rfl, rfl, rfl, rfl, Try.xeq44 x8.1 0, ?_⟩
        refine ⟨fun h6 => ?_, fun h6 => ?_⟩
        · refine ⟨rfl, rfl, rfl, rfl, rfl, rfl, rfl, rfl, rfl, rfl, rfl, rfl, rfl, rfl, rfl, rfl, ?_⟩
          refine ⟨rfl, rfl, rfl, rfl, rfl, rfl, rfl, rfl, ?_⟩
          try simp (disch := first | assumption | exact R4_zero | exact R4_one) only [num_vI, hCmp_pos, hCmp_neg, hCmp_le0, hCmp_ge0, decide_eq_true_eq, decide_eq_false_iff_not, gt_iff_lt, ge_iff_le, beq_iff_eq, beq_eq_false_iff_ne, bne_iff_ne, bne_eq_false_iff_eq, ne_eq] at *
          have ha : x8.1 = 0 := by omega
          have hs : sIn A S n = (0, 3) := by
            unfold sIn
            (repeat' split) <;> first | rfl | (exfalso; omega)
          exact ⟨(0, 3), ⟨R4_zero, by first | exact hs.symm | (rw [num_vI r_A, num_vI r_S, num_vI r_n]; exact hs.symm)⟩, by rw [ha], trivial⟩
        · refine ⟨rfl, rfl, rfl, rfl, rfl, rfl, rfl, rfl, rfl, rfl, rfl, rfl, rfl, rfl, rfl, rfl, huge_Add A n (by assumption) (by assumption), ⟨hAdd (num (vI A)) (num (vI n)), hAdd_R (R4_num _) (R4_num _), rfl⟩, ?_⟩
          intro x10
          intro h7
          obtain ⟨rh7_1, h7⟩ := h7
          try simp only [num_vI (n := A) (by assumption), num_vI (n := n) (by assumption)] at h7
          have ha := h7
          have cha := hAdd_cases h7
          refine ⟨rfl, rfl, rfl, rfl, rfl, rfl, rfl, rfl, rfl, rfl, rfl, rfl, rfl, rfl, rfl, rfl, huge_Add S x8.1 (by assumption) (by assumption), ⟨hAdd (num (vI S)) (num (vI x8.1)), hAdd_R (R4_num _) (R4_num _), rfl⟩, ?_⟩
          intro x11
          intro h8
          obtain ⟨rh8_1, h8⟩ := h8
          try simp only [num_vI (n := S) (by assumption), num_vI (n := x8.1) (by assumption)] at h8
          have hb := h8
          have chb := hAdd_cases h8
          intro b12
          refine ⟨rfl, rfl, rfl, rfl, rfl, rfl, rfl, rfl, ?_⟩
          refine ⟨fun h9 => ?_, fun h9 => ?_⟩
          · refine ⟨⟨(), trivial, congrArg Value.bool h9⟩, ?_⟩
            intro _
            intro _
            refine ⟨rfl, rfl, ?_⟩
            refine ⟨rfl, ?_⟩
            refine ⟨rfl, rfl, rfl, rfl, rfl, rfl, rfl, rfl, ?_⟩
            refine ⟨rfl, rfl, rfl, rfl, rfl, rfl, rfl, rfl, ?_⟩
            try simp (disch := first | assumption | exact R4_zero | exact R4_one) only [num_vI, hCmp_pos, hCmp_neg, hCmp_le0, hCmp_ge0, decide_eq_true_eq, decide_eq_false_iff_not, gt_iff_lt, ge_iff_le, beq_iff_eq, beq_eq_false_iff_ne, bne_iff_ne, bne_eq_false_iff_eq, ne_eq] at *
            have hs : sIn A S n = (0, 2) := by
              unfold sIn
              (repeat' split) <;> first | rfl | (exfalso; omega)
            exact ⟨(0, 2), ⟨R4_zero, by first | exact hs.symm | (rw [num_vI r_A, num_vI r_S, num_vI r_n]; exact hs.symm)⟩, by rw [vI_zero], trivial⟩
          · refine ⟨⟨(), trivial, congrArg Value.bool h9⟩, ?_⟩
            intro _
            intro _
            refine ⟨rfl, rfl, ?_⟩
            refine ⟨fun h10 => ?_, fun h10 => ?_⟩
            · refine ⟨rfl, rfl, rfl, rfl, rfl, rfl, rfl, rfl, ?_⟩
              refine ⟨rfl, rfl, rfl, rfl, rfl, rfl, rfl, rfl, ?_⟩
              try simp (disch := first | assumption | exact R4_zero | exact R4_one) only [num_vI, hCmp_pos, hCmp_neg, hCmp_le0, hCmp_ge0, decide_eq_true_eq, decide_eq_false_iff_not, gt_iff_lt, ge_iff_le, beq_iff_eq, beq_eq_false_iff_ne, bne_iff_ne, bne_eq_false_iff_eq, ne_eq] at *
              have hs : sIn A S n = (0, 2) := by
                unfold sIn
                (repeat' split) <;> first | rfl | (exfalso; omega)
              exact ⟨(0, 2), ⟨R4_zero, by first | exact hs.symm | (rw [num_vI r_A, num_vI r_S, num_vI r_n]; exact hs.symm)⟩, by rw [vI_zero], trivial⟩
            · refine ⟨rfl, rfl, rfl, rfl, rfl, rfl, rfl, rfl, rfl, rfl, rfl, rfl, rfl, rfl, rfl, rfl, ?_⟩
              refine ⟨rfl, rfl, rfl, rfl, rfl, rfl, rfl, rfl, ?_⟩
              try simp (disch := first | assumption | exact R4_zero | exact R4_one) only [num_vI, hCmp_pos, hCmp_neg, hCmp_le0, hCmp_ge0, decide_eq_true_eq, decide_eq_false_iff_not, gt_iff_lt, ge_iff_le, beq_iff_eq, beq_eq_false_iff_ne, bne_iff_ne, bne_eq_false_iff_eq, ne_eq] at *
              have ha : x8.1 = n * (S + 1) / (A + 1) := by omega
              have hs : sIn A S n = (n * (S + 1) / (A + 1), 0) := by
                unfold sIn
                (repeat' split) <;> first | rfl | (exfalso; omega)
              exact ⟨(n * (S + 1) / (A + 1), 0), ⟨ha ▸ (by assumption), by first | exact hs.symm | (rw [num_vI r_A, num_vI r_S, num_vI r_n]; exact hs.symm)⟩, by rw [ha], trivial⟩

def share_Out_C : List Value → List Slot → Ctr := fun vs hs => ⟨Int × Int, fun zx => .tuple #[vI zx.1, .int .i64 zx.2], fun _ => hs, fun zx => R4 zx.1 ∧ zx = sOut (num (varg vs 1)) (num (varg vs 2)) (num (varg vs 3))⟩
set_option maxRecDepth 100000 in
set_option maxHeartbeats 1000000 in
theorem share_Out_vc (A : Int) (S : Int) (n : Int) : codeW Try.prog 53 none 2000 none (bodyOf Try.f52) (.reg [.sem [.nw 0], .sem [.nw 1], .sem [.nw 2], .sem [.nw 3], .sem []] (.reg [.sem [.rd 2, .rd 2, .rd 2, .rd 2], .sem [], .eq (f_eq), .sem []] (.cond (.reg [.sem [.rd 2, .rd 2, .rd 2, .rd 2], .sem [.wr 3, .wr 3, .wr 3, .wr 3], .sem []] (.done)) (.reg [.sem [.rd 2, .rd 2, .rd 2, .rd 2], .sem [.rd 1, .rd 1, .rd 1, .rd 1], .callr [] huge_Cmp_C, .sem [], .sem []] (.cond (.reg [.sem [], .sem [.wr 3, .wr 3, .wr 3, .wr 3], .sem []] (.done)) (.reg [.sem [.rd 0, .rd 0, .rd 0, .rd 0], .sem [.rd 1, .rd 1, .rd 1, .rd 1], .callr [] share_more_C, .sem [], .sem [], .sem [], .sem [], .sem [.nw 4], .sem [.nw 5], .sem [.wr 4, .wr 4, .wr 4, .wr 4], .sem [.wr 5, .wr 5, .wr 5, .wr 5], .sem []] (.reg [.sem [], .sem []] (.cond (.reg [.sem [], .sem [], .sem [.wr 3, .wr 3, .wr 3, .wr 3], .sem []] (.done)) (.reg [.sem [.rd 2, .rd 2, .rd 2, .rd 2], .sem [.rd 4, .rd 4, .rd 4, .rd 4], .sem [.rd 5, .rd 5, .rd 5, .rd 5], .callr [] wide_MulDiv_C, .sem [], .sem [], .sem [], .sem [.nw 6], .sem [.wr 6, .wr 6, .wr 6, .wr 6], .sem []] (.reg [.sem [], .sem [], .sem []] (.cond (.reg [.sem [], .sem [], .sem [.wr 3, .wr 3, .wr 3, .wr 3], .sem []] (.done)) (.reg [.sem [.rd 6, .rd 6, .rd 6, .rd 6], .sem [.rd 0, .rd 0, .rd 0, .rd 0], .callr [] huge_Cmp_C, .sem [], .sem []] (.cond (.reg [.sem [], .sem [.wr 3, .wr 3, .wr 3, .wr 3], .sem []] (.done)) (.reg [.sem [.rd 6, .rd 6, .rd 6, .rd 6], .sem [.wr 3, .wr 3, .wr 3, .wr 3], .sem []] (.done)))))))))))))))
    (init #[vI A, vI S, vI n] []) (finW Try.prog Try.f52 [.rd 3, .rd 3, .rd 3, .rd 3] [] (X := Int × Int) (fun zx => .tuple #[vI zx.1, .int .i64 zx.2]) (fun zx => []) (fun zx => (R4 zx.1 ∧ zx = sOut (num (vI A)) (num (vI S)) (num (vI n))))) =
    (∀ b1 : Nat, ∀ b2 : Nat, ∀ b3 : Nat, ∀ b4 : Nat, b3 = b3 ∧ (none : Option Nat) = none ∧ b3 = b3 ∧ (none : Option Nat) = none ∧ b3 = b3 ∧ (none : Option Nat) = none ∧ b3 = b3 ∧ (none : Option Nat) = none ∧ (PureRun Try.prog (xBin .eql 44 (vI n) (vI 0)) (.bool (num (vI n) == num (vI 0)))) ∧ ((num (vI n) == num (vI 0)) = true → b3 = b3 ∧ (none : Option Nat) = none ∧ b3 = b3 ∧ (none : Option Nat) = none ∧ b3 = b3 ∧ (none : Option Nat) = none ∧ b3 = b3 ∧ (none : Option Nat) = none ∧ b4 = b4 ∧ (none : Option Nat) = none ∧ b4 = b4 ∧ (none : Option Nat) = none ∧ b4 = b4 ∧ (none : Option Nat) = none ∧ b4 = b4 ∧ (none : Option Nat) = none ∧ b4 = b4 ∧ (none : Option Nat) = none ∧ b4 = b4 ∧ (none : Option Nat) = none ∧ b4 = b4 ∧ (none : Option Nat) = none ∧ b4 = b4 ∧ (none : Option Nat) = none ∧ ∃ zx : Int × Int, (R4 zx.1 ∧ zx = sOut (num (vI A)) (num (vI S)) (num (vI n))) ∧ Value.tuple #[vI n, .int .i64 3] = .tuple #[vI zx.1, .int .i64 zx.2] ∧ True) ∧ ((num (vI n) == num (vI 0)) = false → b3 = b3 ∧ (none : Option Nat) = none ∧ b3 = b3 ∧ (none : Option Nat) = none ∧ b3 = b3 ∧ (none : Option Nat) = none ∧ b3 = b3 ∧ (none : Option Nat) = none ∧ b2 = b2 ∧ (none : Option Nat) = none ∧ b2 = b2 ∧ (none : Option Nat) = none ∧ b2 = b2 ∧ (none : Option Nat) = none ∧ b2 = b2 ∧ (none : Option Nat) = none ∧ (CallT Try.prog 48 #[vI n, vI S] [] Unit (fun _ => .int .i64 (hCmp (num (vI n)) (num (vI S)))) (fun _ => []) (fun _ => True)) ∧ (∃ zx : Unit, (fun _ => True) zx) ∧ ∀ _ : Unit, (True) → ((decide ((hCmp (num (vI n)) (num (vI S))) > (0 : Int))) = true → b4 = b4 ∧ (none : Option Nat) = none ∧ b4 = b4 ∧ (none : Option Nat) = none ∧ b4 = b4 ∧ (none : Option Nat) = none ∧ b4 = b4 ∧ (none : Option Nat) = none ∧ b4 = b4 ∧ (none : Option Nat) = none ∧ b4 = b4 ∧ (none : Option Nat) = none ∧ b4 = b4 ∧ (none : Option Nat) = none ∧ b4 = b4 ∧ (none : Option Nat) = none ∧ ∃ zx : Int × Int, (R4 zx.1 ∧ zx = sOut (num (vI A)) (num (vI S)) (num (vI n))) ∧ Value.tuple #[.agg #[.int .u64 0, .int .u64 0, .int .u64 0, .int .u64 0], .int .i64 8] = .tuple #[vI zx.1, .int .i64 zx.2] ∧ True) ∧ ((decide ((hCmp (num (vI n)) (num (vI S))) > (0 : Int))) = false → b1 = b1 ∧ (none : Option Nat) = none ∧ b1 = b1 ∧ (none : Option Nat) = none ∧ b1 = b1 ∧ (none : Option Nat) = none ∧ b1 = b1 ∧ (none : Option Nat) = none ∧ b2 = b2 ∧ (none : Option Nat) = none ∧ b2 = b2 ∧ (none : Option Nat) = none ∧ b2 = b2 ∧ (none : Option Nat) = none ∧ b2 = b2 ∧ (none : Option Nat) = none ∧ (CallT Try.prog 87 #[vI A, vI S] [] (Int × Int × Int) (fun zx => .tuple #[vI zx.1, vI zx.2.1, .int .i64 zx.2.2]) (fun _ => []) (fun zx => R4 zx.1 ∧ R4 zx.2.1 ∧ zx = sMore (num (vI A)) (num (vI S)))) ∧ (∃ zx : Int × Int × Int, (fun zx => R4 zx.1 ∧ R4 zx.2.1 ∧ zx = sMore (num (vI A)) (num (vI S))) zx) ∧ ∀ x5 : Int × Int × Int, (R4 x5.1 ∧ R4 x5.2.1 ∧ x5 = sMore (num (vI A)) (num (vI S))) → ∀ b6 : Nat, ∀ b7 : Nat, b6 = b6 ∧ (none : Option Nat) = none ∧ b6 = b6 ∧ (none : Option Nat) = none ∧ b6 = b6 ∧ (none : Option Nat) = none ∧ b6 = b6 ∧ (none : Option Nat) = none ∧ b7 = b7 ∧ (none : Option Nat) = none ∧ b7 = b7 ∧ (none : Option Nat) = none ∧ b7 = b7 ∧ (none : Option Nat) = none ∧ b7 = b7 ∧ (none : Option Nat) = none ∧ ((x5.2.2 != (0 : Int)) = true → b4 = b4 ∧ (none : Option Nat) = none ∧ b4 = b4 ∧ (none : Option Nat) = none ∧ b4 = b4 ∧ (none : Option Nat) = none ∧ b4 = b4 ∧ (none : Option Nat) = none ∧ b4 = b4 ∧ (none : Option Nat) = none ∧ b4 = b4 ∧ (none : Option Nat) = none ∧ b4 = b4 ∧ (none : Option Nat) = none ∧ b4 = b4 ∧ (none : Option Nat) = none ∧ ∃ zx : Int × Int, (R4 zx.1 ∧ zx = sOut (num (vI A)) (num (vI S)) (num (vI n))) ∧ Value.tuple #[.agg #[.int .u64 0, .int .u64 0, .int .u64 0, .int .u64 0], .int .i64 x5.2.2] = .tuple #[vI zx.1, .int .i64 zx.2] ∧ True) ∧ ((x5.2.2 != (0 : Int)) = false → b3 = b3 ∧ (none : Option Nat) = none ∧ b3 = b3 ∧ (none : Option Nat) = none ∧ b3 = b3 ∧ (none : Option Nat) = none ∧ b3 = b3 ∧ (none : Option Nat) = none ∧ b6 = b6 ∧ (none : Option Nat) = none ∧ b6 = b6 ∧ (none : Option Nat) = none ∧ b6 = b6 ∧ (none : Option Nat) = none ∧ b6 = b6 ∧ (none : Option Nat) = none ∧ b7 = b7 ∧ (none : Option Nat) = none ∧ b7 = b7 ∧ (none : Option Nat) = none ∧ b7 = b7 ∧ (none : Option Nat) = none ∧ b7 = b7 ∧ (none : Option Nat) = none ∧ (CallT Try.prog 34 #[vI n, vI x5.1, vI x5.2.1] [] (Int × Int) (fun zx => .tuple #[vI zx.1, .int .i64 zx.2]) (fun _ => []) (fun zx => R4 zx.1 ∧ zx = wMulDiv (num (vI n)) (num (vI x5.1)) (num (vI x5.2.1)))) ∧ (∃ zx : Int × Int, (fun zx => R4 zx.1 ∧ zx = wMulDiv (num (vI n)) (num (vI x5.1)) (num (vI x5.2.1))) zx) ∧ ∀ x8 : Int × Int, (R4 x8.1 ∧ x8 = wMulDiv (num (vI n)) (num (vI x5.1)) (num (vI x5.2.1))) → ∀ b9 : Nat, b9 = b9 ∧ (none : Option Nat) = none ∧ b9 = b9 ∧ (none : Option Nat) = none ∧ b9 = b9 ∧ (none : Option Nat) = none ∧ b9 = b9 ∧ (none : Option Nat) = none ∧ ((x8.2 != (0 : Int)) = true → b4 = b4 ∧ (none : Option Nat) = none ∧ b4 = b4 ∧ (none : Option Nat) = none ∧ b4 = b4 ∧ (none : Option Nat) = none ∧ b4 = b4 ∧ (none : Option Nat) = none ∧ b4 = b4 ∧ (none : Option Nat) = none ∧ b4 = b4 ∧ (none : Option Nat) = none ∧ b4 = b4 ∧ (none : Option Nat) = none ∧ b4 = b4 ∧ (none : Option Nat) = none ∧ ∃ zx : Int × Int, (R4 zx.1 ∧ zx = sOut (num (vI A)) (num (vI S)) (num (vI n))) ∧ Value.tuple #[.agg #[.int .u64 0, .int .u64 0, .int .u64 0, .int .u64 0], .int .i64 x8.2] = .tuple #[vI zx.1, .int .i64 zx.2] ∧ True) ∧ ((x8.2 != (0 : Int)) = false → b9 = b9 ∧ (none : Option Nat) = none ∧ b9 = b9 ∧ (none : Option Nat) = none ∧ b9 = b9 ∧ (none : Option Nat) = none ∧ b9 = b9 ∧ (none : Option Nat) = none ∧ b1 = b1 ∧ (none : Option Nat) = none ∧ b1 = b1 ∧ (none : Option Nat) = none ∧ b1 = b1 ∧ (none : Option Nat) = none ∧ b1 = b1 ∧ (none : Option Nat) = none ∧ (CallT Try.prog 48 #[vI x8.1, vI A] [] Unit (fun _ => .int .i64 (hCmp (num (vI x8.1)) (num (vI A)))) (fun _ => []) (fun _ => True)) ∧ (∃ zx : Unit, (fun _ => True) zx) ∧ ∀ _ : Unit, (True) → ((decide ((hCmp (num (vI x8.1)) (num (vI A))) > (0 : Int))) = true → b4 = b4 ∧ (none : Option Nat) = none ∧ b4 = b4 ∧ (none : Option Nat) = none ∧ b4 = b4 ∧ (none : Option Nat) = none ∧ b4 = b4 ∧ (none : Option Nat) = none ∧ b4 = b4 ∧ (none : Option Nat) = none ∧ b4 = b4 ∧ (none : Option Nat) = none ∧ b4 = b4 ∧ (none : Option Nat) = none ∧ b4 = b4 ∧ (none : Option Nat) = none ∧ ∃ zx : Int × Int, (R4 zx.1 ∧ zx = sOut (num (vI A)) (num (vI S)) (num (vI n))) ∧ Value.tuple #[.agg #[.int .u64 0, .int .u64 0, .int .u64 0, .int .u64 0], .int .i64 8] = .tuple #[vI zx.1, .int .i64 zx.2] ∧ True) ∧ ((decide ((hCmp (num (vI x8.1)) (num (vI A))) > (0 : Int))) = false → b9 = b9 ∧ (none : Option Nat) = none ∧ b9 = b9 ∧ (none : Option Nat) = none ∧ b9 = b9 ∧ (none : Option Nat) = none ∧ b9 = b9 ∧ (none : Option Nat) = none ∧ b4 = b4 ∧ (none : Option Nat) = none ∧ b4 = b4 ∧ (none : Option Nat) = none ∧ b4 = b4 ∧ (none : Option Nat) = none ∧ b4 = b4 ∧ (none : Option Nat) = none ∧ b4 = b4 ∧ (none : Option Nat) = none ∧ b4 = b4 ∧ (none : Option Nat) = none ∧ b4 = b4 ∧ (none : Option Nat) = none ∧ b4 = b4 ∧ (none : Option Nat) = none ∧ ∃ zx : Int × Int, (R4 zx.1 ∧ zx = sOut (num (vI A)) (num (vI S)) (num (vI n))) ∧ Value.tuple #[vI x8.1, .int .i64 0] = .tuple #[vI zx.1, .int .i64 zx.2] ∧ True)))))) := by kernel_rfl
set_option maxRecDepth 100000 in
set_option maxHeartbeats 1000000 in
theorem share_Out (A : Int) (S : Int) (n : Int) (r_A : R4 A) (r_S : R4 S) (r_n : R4 n) : CallT Try.prog 52 #[vI A, vI S, vI n] [] (Int × Int) (fun zx => .tuple #[vI zx.1, .int .i64 zx.2]) (fun zx => []) (fun zx => (R4 zx.1 ∧ zx = sOut (num (vI A)) (num (vI S)) (num (vI n)))) := by
  refine call_of (c := bodyOf Try.f52) (n := 53) (fn := Try.f52) Try.mixed Try.func52 (by kernel_rfl) (by kernel_rfl) (by kernel_rfl) 2000 _ [.rd 3, .rd 3, .rd 3, .rd 3] [] rfl rfl (Eq.mpr (share_Out_vc A S n) ?_)
  have g0 := r_A.1; have g1 := r_S.1; have g2 := r_n.1
  have qn := quo_nonneg r_n.1 r_A.1 r_S.1
  intro b1
  intro b2
  intro b3
  intro b4
  refine ⟨rfl, rfl, rfl, rfl, rfl, rfl, rfl, rfl, Try.xeq44 n 0, ?_⟩
  refine ⟨fun h1 => ?_, fun h1 => ?_⟩
  · refine ⟨rfl, rfl, rfl, rfl, rfl, rfl, rfl, rfl, rfl, rfl, rfl, rfl, rfl, rfl, rfl, rfl, ?_⟩
    refine ⟨rfl, rfl, rfl, rfl, rfl, rfl, rfl, rfl, ?_⟩
    try simp (disch := first | assumption | exact R4_zero | exact R4_one) only [num_vI, hCmp_pos, hCmp_neg, hCmp_le0, hCmp_ge0, decide_eq_true_eq, decide_eq_false_iff_not, gt_iff_lt, ge_iff_le, beq_iff_eq, beq_eq_false_iff_ne, bne_iff_ne, bne_eq_false_iff_eq, ne_eq] at *
    have ha : n = 0 := by omega
    have hs : sOut A S n = (0, 3) := by
      unfold sOut
      (repeat' split) <;> first | rfl | (exfalso; omega)
    exact ⟨(0, 3), ⟨R4_zero, by first | exact hs.symm | (rw [num_vI r_A, num_vI r_S, num_vI r_n]; exact hs.symm)⟩, by rw [ha], trivial⟩
  · refine ⟨rfl, rfl, rfl, rfl, rfl, rfl, rfl, rfl, rfl, rfl, rfl, rfl, rfl, rfl, rfl, rfl, huge_Cmp n S (by assumption) (by assumption), ⟨(), trivial⟩, ?_⟩
    intro _
    intro _
    refine ⟨fun h2 => ?_, fun h2 => ?_⟩
    · refine ⟨rfl, rfl, rfl, rfl, rfl, rfl, rfl, rfl, ?_⟩
      refine ⟨rfl, rfl, rfl, rfl, rfl, rfl, rfl, rfl, ?_⟩
      try simp (disch := first | assumption | exact R4_zero | exact R4_one) only [num_vI, hCmp_pos, hCmp_neg, hCmp_le0, hCmp_ge0, decide_eq_true_eq, decide_eq_false_iff_not, gt_iff_lt, ge_iff_le, beq_iff_eq, beq_eq_false_iff_ne, bne_iff_ne, bne_eq_false_iff_eq, ne_eq] at *
      have hs : sOut A S n = (0, 8) := by
        unfold sOut
        (repeat' split) <;> first | rfl | (exfalso; omega)
      exact ⟨(0, 8), ⟨R4_zero, by first | exact hs.symm | (rw [num_vI r_A, num_vI r_S, num_vI r_n]; exact hs.symm)⟩, by rw [vI_zero], trivial⟩
    · refine ⟨rfl, rfl, rfl, rfl, rfl, rfl, rfl, rfl, rfl, rfl, rfl, rfl, rfl, rfl, rfl, rfl, share_more A S (by assumption) (by assumption), ⟨_, (sMore_R (by first | exact R4_num _ | exact by assumption) (by first | exact R4_num _ | exact by assumption)).1, (sMore_R (by first | exact R4_num _ | exact by assumption) (by first | exact R4_num _ | exact by assumption)).2, rfl⟩, ?_⟩
      intro x5
      intro h3
      obtain ⟨rh3_1, h3⟩ := h3
      obtain ⟨rh3_21, h3⟩ := h3
      try simp only [num_vI (n := A) (by assumption), num_vI (n := S) (by assumption)] at h3
      have cm := sMore_cases h3
      intro b6
      intro b7
      refine ⟨rfl, rfl, rfl, rfl, rfl, rfl, rfl, rfl, rfl, rfl, rfl, rfl, rfl, rfl, rfl, rfl, ?_⟩
      refine ⟨fun h4 => ?_, fun h4 => ?_⟩
      · refine ⟨rfl, rfl, rfl, rfl, rfl, rfl, rfl, rfl, ?_⟩
        refine ⟨rfl, rfl, rfl, rfl, rfl, rfl, rfl, rfl, ?_⟩
        try simp (disch := first | assumption | exact R4_zero | exact R4_one) only [num_vI, hCmp_pos, hCmp_neg, hCmp_le0, hCmp_ge0, decide_eq_true_eq, decide_eq_false_iff_not, gt_iff_lt, ge_iff_le, beq_iff_eq, beq_eq_false_iff_ne, bne_iff_ne, bne_eq_false_iff_eq, ne_eq] at *
        have he : x5.2.2 = 2 := by omega
        have hs : sOut A S n = (0, 2) := by
          unfold sOut
          (repeat' split) <;> first | rfl | (exfalso; omega)
        exact ⟨(0, 2), ⟨R4_zero, by first | exact hs.symm | (rw [num_vI r_A, num_vI r_S, num_vI r_n]; exact hs.symm)⟩, by rw [he, vI_zero], trivial⟩
      · refine ⟨rfl, rfl, rfl, rfl, rfl, rfl, rfl, rfl, rfl, rfl, rfl, rfl, rfl, rfl, rfl, rfl, rfl, rfl, rfl, rfl, rfl, rfl, rfl, rfl, wide_MulDiv n x5.1 x5.2.1 (by assumption) (by assumption) (by assumption), ⟨_, wMulDiv_R (R4_num _) (R4_num _) (R4_num _), rfl⟩, ?_⟩
        intro x8
        intro h5
        obtain ⟨rh5_1, h5⟩ := h5
        try simp only [num_vI (n := n) (by assumption), num_vI (n := x5.1) (by assumption), num_vI (n := x5.2.1) (by assumption)] at h5
        have cq := wMulDiv_cases h5 (by try simp (disch := first | assumption | exact R4_zero | exact R4_one) only [num_vI, hCmp_pos, hCmp_neg, hCmp_le0, hCmp_ge0, decide_eq_true_eq, decide_eq_false_iff_not, gt_iff_lt, ge_iff_le, beq_iff_eq, beq_eq_false_iff_ne, bne_iff_ne, bne_eq_false_iff_eq, ne_eq] at *; omega)
        rw [show x5.1 = A + 1 from by try simp (disch := first | assumption | exact R4_zero | exact R4_one) only [num_vI, hCmp_pos, hCmp_neg, hCmp_le0, hCmp_ge0, decide_eq_true_eq, decide_eq_false_iff_not, gt_iff_lt, ge_iff_le, beq_iff_eq, beq_eq_false_iff_ne, bne_iff_ne, bne_eq_false_iff_eq, ne_eq] at *; omega, show x5.2.1 = S + 1 from by try simp (disch := first | assumption | exact R4_zero | exact R4_one) only [num_vI, hCmp_pos, hCmp_neg, hCmp_le0, hCmp_ge0, decide_eq_true_eq, decide_eq_false_iff_not, gt_iff_lt, ge_iff_le, beq_iff_eq, beq_eq_false_iff_ne, bne_iff_ne, bne_eq_false_iff_eq, ne_eq] at *; omega] at cq
        intro b9
        refine ⟨rfl, rfl, rfl, rfl, rfl, rfl, rfl, rfl, ?_⟩
        refine ⟨fun h6 => ?_, fun h6 => ?_⟩
        · refine ⟨rfl, rfl, rfl, rfl, rfl, rfl, rfl, rfl, ?_⟩
          refine ⟨rfl, rfl, rfl, rfl, rfl, rfl, rfl, rfl, ?_⟩
          try simp (disch := first | assumption | exact R4_zero | exact R4_one) only [num_vI, hCmp_pos, hCmp_neg, hCmp_le0, hCmp_ge0, decide_eq_true_eq, decide_eq_false_iff_not, gt_iff_lt, ge_iff_le, beq_iff_eq, beq_eq_false_iff_ne, bne_iff_ne, bne_eq_false_iff_eq, ne_eq] at *
          have he : x8.2 = 2 := by omega
          have hs : sOut A S n = (0, 2) := by
            unfold sOut
            (repeat' split) <;> first | rfl | (exfalso; omega)
          exact ⟨(0, 2), ⟨R4_zero, by first | exact hs.symm | (rw [num_vI r_A, num_vI r_S, num_vI r_n]; exact hs.symm)⟩, by rw [he, vI_zero], trivial⟩
        · refine ⟨rfl, rfl, rfl, rfl, rfl, rfl, rfl, rfl, rfl, rfl, rfl, rfl, rfl, rfl, rfl, rfl, huge_Cmp x8.1 A (by assumption) (by assumption), ⟨(), trivial⟩, ?_⟩
          intro _
          intro _
          refine ⟨fun h7 => ?_, fun h7 => ?_⟩
          · refine ⟨rfl, rfl, rfl, rfl, rfl, rfl, rfl, rfl, ?_⟩
            refine ⟨rfl, rfl, rfl, rfl, rfl, rfl, rfl, rfl, ?_⟩
            try simp (disch := first | assumption | exact R4_zero | exact R4_one) only [num_vI, hCmp_pos, hCmp_neg, hCmp_le0, hCmp_ge0, decide_eq_true_eq, decide_eq_false_iff_not, gt_iff_lt, ge_iff_le, beq_iff_eq, beq_eq_false_iff_ne, bne_iff_ne, bne_eq_false_iff_eq, ne_eq] at *
            have hs : sOut A S n = (0, 8) := by
              unfold sOut
              (repeat' split) <;> first | rfl | (exfalso; omega)
            exact ⟨(0, 8), ⟨R4_zero, by first | exact hs.symm | (rw [num_vI r_A, num_vI r_S, num_vI r_n]; exact hs.symm)⟩, by rw [vI_zero], trivial⟩
          · refine ⟨rfl, rfl, rfl, rfl, rfl, rfl, rfl, rfl, rfl, rfl, rfl, rfl, rfl, rfl, rfl, rfl, ?_⟩
            refine ⟨rfl, rfl, rfl, rfl, rfl, rfl, rfl, rfl, ?_⟩
            try simp (disch := first | assumption | exact R4_zero | exact R4_one) only [num_vI, hCmp_pos, hCmp_neg, hCmp_le0, hCmp_ge0, decide_eq_true_eq, decide_eq_false_iff_not, gt_iff_lt, ge_iff_le, beq_iff_eq, beq_eq_false_iff_ne, bne_iff_ne, bne_eq_false_iff_eq, ne_eq] at *
            have ha : x8.1 = n * (A + 1) / (S + 1) := by omega
            have hs : sOut A S n = (n * (A + 1) / (S + 1), 0) := by
              unfold sOut
              (repeat' split) <;> first | rfl | (exfalso; omega)
            exact ⟨(n * (A + 1) / (S + 1), 0), ⟨ha ▸ (by assumption), by first | exact hs.symm | (rw [num_vI r_A, num_vI r_S, num_vI r_n]; exact hs.symm)⟩, by rw [ha], trivial⟩

def law16_lives_C : List Value → List Slot → Ctr := fun vs hs => ⟨Unit, fun _ => .bool true, fun _ => hs, fun _ => True⟩
set_option maxRecDepth 100000 in
theorem law16_lives_vc  : codeW Try.prog 30 none 2000 none (bodyOf Try.f49) (.reg [.sem []] (.reg [.sem [], .sem [], .callr [] huge_Of_C, .callr [] share_In_C, .sem [], .sem [], .sem [], .sem [.nw 0], .sem [.wr 0, .wr 0, .wr 0, .wr 0], .sem []] (.reg [.callr [] huge_Of_C, .sem [], .callr [] huge_Of_C, .callr [] share_In_C, .sem [], .sem [], .sem [], .sem [.nw 1], .sem [.wr 1, .wr 1, .wr 1, .wr 1], .sem []] (.reg [.sem [], .gen [] (one (.bool true)), .sem [], .sem [.rd 0, .rd 0, .rd 0, .rd 0], .callr [] huge_Of_C, .specr [] (fun _ hs => ⟨Unit, fun _ => .bool true, fun _ => hs, fun _ => True⟩), .sem [], .sem [], .sem [], .gen [] (one (.bool true)), .sem [], .sem []] (.done)))))
    (init #[] []) (finW Try.prog Try.f49 [] [] (X := Unit) (fun _ => .bool true) (fun _ => []) (fun _ => True)) =
    ((CallT Try.prog 75 #[.int .u64 5] [] Unit (fun _ => vI (5 : Int)) (fun _ => []) (fun _ => True)) ∧ (∃ zx : Unit, (fun _ => True) zx) ∧ ∀ _ : Unit, (True) → (CallT Try.prog 50 #[.agg #[.int .u64 0, .int .u64 0, .int .u64 0, .int .u64 0], .agg #[.int .u64 0, .int .u64 0, .int .u64 0, .int .u64 0], vI (5 : Int)] [] (Int × Int) (fun zx => .tuple #[vI zx.1, .int .i64 zx.2]) (fun _ => []) (fun zx => R4 zx.1 ∧ zx = sIn (num (vI (0 : Int))) (num (vI (0 : Int))) (num (vI (5 : Int))))) ∧ (∃ zx : Int × Int, (fun zx => R4 zx.1 ∧ zx = sIn (num (vI (0 : Int))) (num (vI (0 : Int))) (num (vI (5 : Int)))) zx) ∧ ∀ x1 : Int × Int, (R4 x1.1 ∧ x1 = sIn (num (vI (0 : Int))) (num (vI (0 : Int))) (num (vI (5 : Int)))) → ∀ b2 : Nat, b2 = b2 ∧ (none : Option Nat) = none ∧ b2 = b2 ∧ (none : Option Nat) = none ∧ b2 = b2 ∧ (none : Option Nat) = none ∧ b2 = b2 ∧ (none : Option Nat) = none ∧ (CallT Try.prog 75 #[.int .u64 100] [] Unit (fun _ => vI (100 : Int)) (fun _ => []) (fun _ => True)) ∧ (∃ zx : Unit, (fun _ => True) zx) ∧ ∀ _ : Unit, (True) → (CallT Try.prog 75 #[.int .u64 50] [] Unit (fun _ => vI (50 : Int)) (fun _ => []) (fun _ => True)) ∧ (∃ zx : Unit, (fun _ => True) zx) ∧ ∀ _ : Unit, (True) → (CallT Try.prog 50 #[vI (100 : Int), .agg #[.int .u64 0, .int .u64 0, .int .u64 0, .int .u64 0], vI (50 : Int)] [] (Int × Int) (fun zx => .tuple #[vI zx.1, .int .i64 zx.2]) (fun _ => []) (fun zx => R4 zx.1 ∧ zx = sIn (num (vI (100 : Int))) (num (vI (0 : Int))) (num (vI (50 : Int))))) ∧ (∃ zx : Int × Int, (fun zx => R4 zx.1 ∧ zx = sIn (num (vI (100 : Int))) (num (vI (0 : Int))) (num (vI (50 : Int)))) zx) ∧ ∀ x3 : Int × Int, (R4 x3.1 ∧ x3 = sIn (num (vI (100 : Int))) (num (vI (0 : Int))) (num (vI (50 : Int)))) → ∀ b4 : Nat, b4 = b4 ∧ (none : Option Nat) = none ∧ b4 = b4 ∧ (none : Option Nat) = none ∧ b4 = b4 ∧ (none : Option Nat) = none ∧ b4 = b4 ∧ (none : Option Nat) = none ∧ (∃ _ : Unit, True ∧ Value.bool (x1.2 == (0 : Int)) = .bool true) ∧ ∀ _ : Unit, (True) → true = true ∧ b2 = b2 ∧ (none : Option Nat) = none ∧ b2 = b2 ∧ (none : Option Nat) = none ∧ b2 = b2 ∧ (none : Option Nat) = none ∧ b2 = b2 ∧ (none : Option Nat) = none ∧ true = true ∧ (CallT Try.prog 75 #[.int .u64 5] [] Unit (fun _ => vI (5 : Int)) (fun _ => []) (fun _ => True)) ∧ (∃ zx : Unit, (fun _ => True) zx) ∧ ∀ _ : Unit, (True) → true = true ∧ (OpT Try.prog (xBin .eql 44 (vI x1.1) (vI (5 : Int))) [] Unit (fun _ => .bool true) (fun _ => []) (fun _ => True)) ∧ (∃ zx : Unit, (fun _ => True) zx) ∧ ∀ _ : Unit, (True) → true = true ∧ true = true ∧ (∃ _ : Unit, True ∧ Value.bool (x3.2 == (3 : Int)) = .bool true) ∧ ∀ _ : Unit, (True) → ∃ _ : Unit, (True) ∧ Value.bool true = .bool true ∧ True) := by kernel_rfl
set_option maxRecDepth 100000 in
theorem law16_lives   : CallT Try.prog 49 #[] [] Unit (fun _ => .bool true) (fun _ => []) (fun _ => True) := by
  refine call_of (c := bodyOf Try.f49) (n := 30) (fn := Try.f49) Try.mixed Try.func49 (by kernel_rfl) (by kernel_rfl) (by kernel_rfl) 2000 _ [] [] rfl rfl (Eq.mpr (law16_lives_vc ) ?_)
  refine ⟨huge_Of (5 : Int) (by first | assumption | exact W_lim _ _ | (unfold W; decide)), ⟨(), trivial⟩, ?_⟩
  intro _
  intro _
  refine ⟨share_In (0 : Int) (0 : Int) (5 : Int) (by unfold R4; decide) (by unfold R4; decide) (by unfold R4; decide), ⟨_, sIn_R (by first | exact R4_num _ | exact by unfold R4; decide) (by first | exact R4_num _ | exact by unfold R4; decide) (by first | exact R4_num _ | exact by unfold R4; decide), rfl⟩, ?_⟩
  intro x1
  intro h1
  obtain ⟨rh1_1, h1⟩ := h1
  try simp only [num_vI (n := (0 : Int)) (by unfold R4; decide), num_vI (n := (0 : Int)) (by unfold R4; decide), num_vI (n := (5 : Int)) (by unfold R4; decide)] at h1
  have h1 := h1
  replace h1 := h1.trans (show sIn 0 0 5 = (5, 0) from by decide +kernel)
  intro b2
  refine ⟨rfl, rfl, rfl, rfl, rfl, rfl, rfl, rfl, ?_⟩
  refine ⟨huge_Of (100 : Int) (by first | assumption | exact W_lim _ _ | (unfold W; decide)), ⟨(), trivial⟩, ?_⟩
  intro _
  intro _
  refine ⟨huge_Of (50 : Int) (by first | assumption | exact W_lim _ _ | (unfold W; decide)), ⟨(), trivial⟩, ?_⟩
  intro _
  intro _
  refine ⟨share_In (100 : Int) (0 : Int) (50 : Int) (by unfold R4; decide) (by unfold R4; decide) (by unfold R4; decide), ⟨_, sIn_R (by first | exact R4_num _ | exact by unfold R4; decide) (by first | exact R4_num _ | exact by unfold R4; decide) (by first | exact R4_num _ | exact by unfold R4; decide), rfl⟩, ?_⟩
  intro x3
  intro h2
  obtain ⟨rh2_1, h2⟩ := h2
  try simp only [num_vI (n := (100 : Int)) (by unfold R4; decide), num_vI (n := (0 : Int)) (by unfold R4; decide), num_vI (n := (50 : Int)) (by unfold R4; decide)] at h2
  have h2 := h2
  replace h2 := h2.trans (show sIn 100 0 50 = (0, 3) from by decide +kernel)
  intro b4
  refine ⟨rfl, rfl, rfl, rfl, rfl, rfl, rfl, rfl, ?_⟩
  refine ⟨⟨(), trivial, congrArg Value.bool (by rw [h1]; rfl)⟩, ?_⟩
  intro _
  intro _
  refine ⟨rfl, rfl, rfl, rfl, rfl, rfl, rfl, rfl, rfl, rfl, huge_Of (5 : Int) (by first | assumption | exact W_lim _ _ | (unfold W; decide)), ⟨(), trivial⟩, ?_⟩
  intro _
  intro _
  refine ⟨rfl, OpT.ofPure (Try.xeq44 x1.1 (5 : Int)) (congrArg Value.bool ((by rw [h1]; exact beq_self_eq_true _))), ⟨(), trivial⟩, ?_⟩
  intro _
  intro _
  refine ⟨rfl, rfl, ⟨(), trivial, congrArg Value.bool (by rw [h2]; rfl)⟩, ?_⟩
  intro _
  intro _
  exact ⟨(), trivial, rfl, trivial⟩

def law16_row1_C : List Value → List Slot → Ctr := fun vs hs => ⟨Row, fun zx => sv zx, fun zx => [(ss 3 zx)], fun zx => RowOK zx ∧ nv (dg zx) = (num (varg vs 1)) + 1 ∧ Canon (dg zx) ∧ (dg zx).length ≤ 65⟩
set_option maxRecDepth 100000 in
theorem law16_row1_vc (a : Int) : codeW Try.prog 14 none 2000 none (bodyOf Try.f90) (.reg [.sem [.nw 0], .sem []] (.reg [.sem [], .sem []] (.condF (.reg [.sem [.rd 0, .rd 0, .rd 0, .rd 0], .callw [] [1] ref2_Row_C, .sem [], .sem [.nw 2], .callw [1, 2] [1, 2, 30] ref1_Add_C, .sem []] (.done)))))
    (init #[vI a, .int .i64 1] []) (finW Try.prog Try.f90 [] [30] (X := Row) (fun zx => sv zx) (fun zx => [(ss 3 zx)]) (fun zx => (RowOK zx ∧ nv (dg zx) = (num (vI a)) + 1 ∧ Canon (dg zx) ∧ (dg zx).length ≤ 65))) =
    (∀ b1 : Nat, (false = false) ∧ b1 = b1 ∧ (none : Option Nat) = none ∧ b1 = b1 ∧ (none : Option Nat) = none ∧ b1 = b1 ∧ (none : Option Nat) = none ∧ b1 = b1 ∧ (none : Option Nat) = none ∧ (CallT Try.prog 20 #[vI a] [] Row (fun zx => sv zx) (fun zx => [(ss 3 zx)]) (fun zx => RowOK zx ∧ nv (dg zx) = (num (vI a)) ∧ Canon (dg zx) ∧ (dg zx).length ≤ 16)) ∧ (∃ zx : Row, (fun zx => RowOK zx ∧ nv (dg zx) = (num (vI a)) ∧ Canon (dg zx) ∧ (dg zx).length ≤ 16) zx) ∧ ∀ x2 : Row, (RowOK x2 ∧ nv (dg x2) = (num (vI a)) ∧ Canon (dg x2) ∧ (dg x2).length ≤ 16) → ∀ b3 : Nat, (CallT Try.prog 22 #[sv x2, .slice (some ⟨b3, 0, none⟩) 1 1] [(ss 3 x2), (ss 3 (Row.mk b3 [.int .i64 1] []))] Row (fun zx => sv zx) (fun zx => [(ss 3 x2), (ss 3 (Row.mk b3 [.int .i64 1] [])), (ss 3 zx)]) (fun zx => RowOK zx ∧ nv (dg zx) = nv (rdv (sv x2) (ss 3 x2)) + nv (rdv (sv (Row.mk b3 [.int .i64 1] [])) (ss 3 (Row.mk b3 [.int .i64 1] []))) ∧ Canon (dg zx))) ∧ (∃ zx : Row, (fun zx => RowOK zx ∧ nv (dg zx) = nv (rdv (sv x2) (ss 3 x2)) + nv (rdv (sv (Row.mk b3 [.int .i64 1] [])) (ss 3 (Row.mk b3 [.int .i64 1] []))) ∧ Canon (dg zx)) zx) ∧ ∀ x4 : Row, (RowOK x4 ∧ nv (dg x4) = nv (rdv (sv x2) (ss 3 x2)) + nv (rdv (sv (Row.mk b3 [.int .i64 1] [])) (ss 3 (Row.mk b3 [.int .i64 1] []))) ∧ Canon (dg x4)) → ∃ zx : Row, (RowOK zx ∧ nv (dg zx) = (num (vI a)) + 1 ∧ Canon (dg zx) ∧ (dg zx).length ≤ 65) ∧ sv x4 = sv zx ∧ (ss 3 x4) = (ss 3 zx) ∧ True) := by kernel_rfl
set_option maxRecDepth 100000 in
theorem law16_row1 (a : Int) (r_a : R4 a) : CallT Try.prog 90 #[vI a, .int .i64 1] [] Row (fun zx => sv zx) (fun zx => [(ss 3 zx)]) (fun zx => (RowOK zx ∧ nv (dg zx) = (num (vI a)) + 1 ∧ Canon (dg zx) ∧ (dg zx).length ≤ 65)) := by
  refine call_of (c := bodyOf Try.f90) (n := 14) (fn := Try.f90) Try.mixed Try.func90 (by kernel_rfl) (by kernel_rfl) (by kernel_rfl) 2000 _ [] [30] rfl rfl (Eq.mpr (law16_row1_vc a) ?_)
  intro b1
  refine ⟨rfl, ?_⟩
  refine ⟨rfl, rfl, rfl, rfl, rfl, rfl, rfl, rfl, ref2_Row a (by assumption), wit_num (by first | exact R4_num _ | exact by assumption), ?_⟩
  intro x2
  intro h1
  obtain ⟨rh1_, h1⟩ := h1
  try simp only [num_vI (n := a) (by assumption)] at h1
  have h1 := h1
  have okh1 : RowOK x2 := by assumption
  have eh1 := vlen_dg x2
  have ch1 := canon_pos okh1.dig h1.2.1
  have lh1 := h1.2.2
  intro b3
  refine ⟨ref1_Add x2 (Row.mk b3 [.int .i64 1] []) (by first | assumption | exact rowOK_lit _ _ (by decide)) (rowOK_lit b3 [1] (by decide)) (by omega) (Nat.le_of_ble_eq_true rfl), wit_row (by rw [rdv_eq x2, rdv_eq (Row.mk b3 [.int .i64 1] [])]; exact Int.add_nonneg (nv_nonneg (RowOK.dig (by first | assumption | exact rowOK_lit _ _ (by decide)))) (nv_nonneg (RowOK.dig (rowOK_lit b3 [1] (by decide))))), ?_⟩
  intro x4
  intro h2
  simp only [rdv_eq] at h2
  obtain ⟨rh2_, h2⟩ := h2
  have h2 := h2
  have e : nv (dg x4) = a + 1 := by rw [h2.1, h1.1]; rfl
  exact ⟨_, ⟨by assumption, by rw [num_vI r_a]; exact e, h2.2, len41 (RowOK.dig (by assumption)) h2.2 e (R48 r_a)⟩, rfl, rfl, trivial⟩

def law16_noLess_C : List Value → List Slot → Ctr := fun vs hs => ⟨Bool, fun zx => .bool zx, fun _ => hs, fun zx => zx = decide (((num (varg vs 3)) + 1) * ((num (varg vs 2)) + 1) ≤ ((num (varg vs 1)) + 1) * ((num (varg vs 4)) + 1))⟩
set_option maxRecDepth 100000 in
theorem law16_noLess_vc (a : Int) (s : Int) (wa : Int) (ws : Int) : codeW Try.prog 21 none 2000 none (bodyOf Try.f55) (.reg [.sem [.nw 0], .sem [.nw 1], .sem [.nw 2], .sem [.nw 3], .sem []] (.reg [.sem [.rd 0, .rd 0, .rd 0, .rd 0], .callw [] [4] law16_row1_C, .sem [.rd 3, .rd 3, .rd 3, .rd 3], .callw [] [5] law16_row1_C, .callw [4, 5] [4, 5, 6] ref1_Mul_C, .sem [.rd 2, .rd 2, .rd 2, .rd 2], .callw [] [7] law16_row1_C, .sem [.rd 1, .rd 1, .rd 1, .rd 1], .callw [] [8] law16_row1_C, .callw [7, 8] [7, 8, 9] ref1_Mul_C, .callr [6, 9] ref1_Cmp_C, .sem [], .sem []] (.done)))
    (init #[vI a, vI s, vI wa, vI ws] []) (finW Try.prog Try.f55 [] [] (X := Bool) (fun zx => .bool zx) (fun zx => []) (fun zx => (zx = decide (((num (vI wa)) + 1) * ((num (vI s)) + 1) ≤ ((num (vI a)) + 1) * ((num (vI ws)) + 1))))) =
    (∀ b1 : Nat, ∀ b2 : Nat, ∀ b3 : Nat, ∀ b4 : Nat, b1 = b1 ∧ (none : Option Nat) = none ∧ b1 = b1 ∧ (none : Option Nat) = none ∧ b1 = b1 ∧ (none : Option Nat) = none ∧ b1 = b1 ∧ (none : Option Nat) = none ∧ (CallT Try.prog 90 #[vI a, .int .i64 1] [] Row (fun zx => sv zx) (fun zx => [(ss 3 zx)]) (fun zx => RowOK zx ∧ nv (dg zx) = (num (vI a)) + 1 ∧ Canon (dg zx) ∧ (dg zx).length ≤ 65)) ∧ (∃ zx : Row, (fun zx => RowOK zx ∧ nv (dg zx) = (num (vI a)) + 1 ∧ Canon (dg zx) ∧ (dg zx).length ≤ 65) zx) ∧ ∀ x5 : Row, (RowOK x5 ∧ nv (dg x5) = (num (vI a)) + 1 ∧ Canon (dg x5) ∧ (dg x5).length ≤ 65) → b4 = b4 ∧ (none : Option Nat) = none ∧ b4 = b4 ∧ (none : Option Nat) = none ∧ b4 = b4 ∧ (none : Option Nat) = none ∧ b4 = b4 ∧ (none : Option Nat) = none ∧ (CallT Try.prog 90 #[vI ws, .int .i64 1] [] Row (fun zx => sv zx) (fun zx => [(ss 3 zx)]) (fun zx => RowOK zx ∧ nv (dg zx) = (num (vI ws)) + 1 ∧ Canon (dg zx) ∧ (dg zx).length ≤ 65)) ∧ (∃ zx : Row, (fun zx => RowOK zx ∧ nv (dg zx) = (num (vI ws)) + 1 ∧ Canon (dg zx) ∧ (dg zx).length ≤ 65) zx) ∧ ∀ x6 : Row, (RowOK x6 ∧ nv (dg x6) = (num (vI ws)) + 1 ∧ Canon (dg x6) ∧ (dg x6).length ≤ 65) → (CallT Try.prog 31 #[sv x5, sv x6] [(ss 3 x5), (ss 3 x6)] Row (fun zx => sv zx) (fun zx => [(ss 3 x5), (ss 3 x6), (ss 3 zx)]) (fun zx => RowOK zx ∧ nv (dg zx) = nv (rdv (sv x5) (ss 3 x5)) * nv (rdv (sv x6) (ss 3 x6)) ∧ Canon (dg zx))) ∧ (∃ zx : Row, (fun zx => RowOK zx ∧ nv (dg zx) = nv (rdv (sv x5) (ss 3 x5)) * nv (rdv (sv x6) (ss 3 x6)) ∧ Canon (dg zx)) zx) ∧ ∀ x7 : Row, (RowOK x7 ∧ nv (dg x7) = nv (rdv (sv x5) (ss 3 x5)) * nv (rdv (sv x6) (ss 3 x6)) ∧ Canon (dg x7)) → b3 = b3 ∧ (none : Option Nat) = none ∧ b3 = b3 ∧ (none : Option Nat) = none ∧ b3 = b3 ∧ (none : Option Nat) = none ∧ b3 = b3 ∧ (none : Option Nat) = none ∧ (CallT Try.prog 90 #[vI wa, .int .i64 1] [] Row (fun zx => sv zx) (fun zx => [(ss 3 zx)]) (fun zx => RowOK zx ∧ nv (dg zx) = (num (vI wa)) + 1 ∧ Canon (dg zx) ∧ (dg zx).length ≤ 65)) ∧ (∃ zx : Row, (fun zx => RowOK zx ∧ nv (dg zx) = (num (vI wa)) + 1 ∧ Canon (dg zx) ∧ (dg zx).length ≤ 65) zx) ∧ ∀ x8 : Row, (RowOK x8 ∧ nv (dg x8) = (num (vI wa)) + 1 ∧ Canon (dg x8) ∧ (dg x8).length ≤ 65) → b2 = b2 ∧ (none : Option Nat) = none ∧ b2 = b2 ∧ (none : Option Nat) = none ∧ b2 = b2 ∧ (none : Option Nat) = none ∧ b2 = b2 ∧ (none : Option Nat) = none ∧ (CallT Try.prog 90 #[vI s, .int .i64 1] [] Row (fun zx => sv zx) (fun zx => [(ss 3 zx)]) (fun zx => RowOK zx ∧ nv (dg zx) = (num (vI s)) + 1 ∧ Canon (dg zx) ∧ (dg zx).length ≤ 65)) ∧ (∃ zx : Row, (fun zx => RowOK zx ∧ nv (dg zx) = (num (vI s)) + 1 ∧ Canon (dg zx) ∧ (dg zx).length ≤ 65) zx) ∧ ∀ x9 : Row, (RowOK x9 ∧ nv (dg x9) = (num (vI s)) + 1 ∧ Canon (dg x9) ∧ (dg x9).length ≤ 65) → (CallT Try.prog 31 #[sv x8, sv x9] [(ss 3 x8), (ss 3 x9)] Row (fun zx => sv zx) (fun zx => [(ss 3 x8), (ss 3 x9), (ss 3 zx)]) (fun zx => RowOK zx ∧ nv (dg zx) = nv (rdv (sv x8) (ss 3 x8)) * nv (rdv (sv x9) (ss 3 x9)) ∧ Canon (dg zx))) ∧ (∃ zx : Row, (fun zx => RowOK zx ∧ nv (dg zx) = nv (rdv (sv x8) (ss 3 x8)) * nv (rdv (sv x9) (ss 3 x9)) ∧ Canon (dg zx)) zx) ∧ ∀ x10 : Row, (RowOK x10 ∧ nv (dg x10) = nv (rdv (sv x8) (ss 3 x8)) * nv (rdv (sv x9) (ss 3 x9)) ∧ Canon (dg x10)) → (CallT Try.prog 27 #[sv x7, sv x10] [(ss 3 x7), (ss 3 x10)] Int (fun zx => .int .i64 zx) (fun _ => [(ss 3 x7), (ss 3 x10)]) (fun zx => zx = hCmp (nv (rdv (sv x7) (ss 3 x7))) (nv (rdv (sv x10) (ss 3 x10))))) ∧ (∃ zx : Int, (fun zx => zx = hCmp (nv (rdv (sv x7) (ss 3 x7))) (nv (rdv (sv x10) (ss 3 x10)))) zx) ∧ ∀ x11 : Int, (x11 = hCmp (nv (rdv (sv x7) (ss 3 x7))) (nv (rdv (sv x10) (ss 3 x10)))) → ∃ zx : Bool, (zx = decide (((num (vI wa)) + 1) * ((num (vI s)) + 1) ≤ ((num (vI a)) + 1) * ((num (vI ws)) + 1))) ∧ Value.bool (decide (x11 ≥ (0 : Int))) = .bool zx ∧ True) := by kernel_rfl
set_option maxRecDepth 100000 in
theorem law16_noLess (a : Int) (s : Int) (wa : Int) (ws : Int) (r_a : R4 a) (r_s : R4 s) (r_wa : R4 wa) (r_ws : R4 ws) : CallT Try.prog 55 #[vI a, vI s, vI wa, vI ws] [] Bool (fun zx => .bool zx) (fun zx => []) (fun zx => (zx = decide (((num (vI wa)) + 1) * ((num (vI s)) + 1) ≤ ((num (vI a)) + 1) * ((num (vI ws)) + 1)))) := by
  refine call_of (c := bodyOf Try.f55) (n := 21) (fn := Try.f55) Try.mixed Try.func55 (by kernel_rfl) (by kernel_rfl) (by kernel_rfl) 2000 _ [] [] rfl rfl (Eq.mpr (law16_noLess_vc a s wa ws) ?_)
  intro b1
  intro b2
  intro b3
  intro b4
  refine ⟨rfl, rfl, rfl, rfl, rfl, rfl, rfl, rfl, law16_row1 a (by assumption), wit_one (by first | exact R4_num _ | exact by assumption), ?_⟩
  intro x5
  intro h1
  obtain ⟨rh1_, h1⟩ := h1
  try simp only [num_vI (n := a) (by assumption)] at h1
  have hA := h1
  have okhA : RowOK x5 := by assumption
  have ehA := vlen_dg x5
  have chA := canon_pos okhA.dig hA.2.1
  have lhA := hA.2.2
  refine ⟨rfl, rfl, rfl, rfl, rfl, rfl, rfl, rfl, law16_row1 ws (by assumption), wit_one (by first | exact R4_num _ | exact by assumption), ?_⟩
  intro x6
  intro h2
  obtain ⟨rh2_, h2⟩ := h2
  try simp only [num_vI (n := ws) (by assumption)] at h2
  have hB := h2
  have okhB : RowOK x6 := by assumption
  have ehB := vlen_dg x6
  have chB := canon_pos okhB.dig hB.2.1
  have lhB := hB.2.2
  refine ⟨ref1_Mul x5 x6 (by first | assumption | exact rowOK_lit _ _ (by decide)) (by first | assumption | exact rowOK_lit _ _ (by decide)) (by omega) (by omega), wit_row (by rw [rdv_eq x5, rdv_eq x6]; exact Int.mul_nonneg (nv_nonneg (RowOK.dig (by first | assumption | exact rowOK_lit _ _ (by decide)))) (nv_nonneg (RowOK.dig (by first | assumption | exact rowOK_lit _ _ (by decide))))), ?_⟩
  intro x7
  intro h3
  simp only [rdv_eq] at h3
  obtain ⟨rh3_, h3⟩ := h3
  have hM := h3
  have ehM : nv (dg x7) = _ := hM.1.trans (by rw [hA.1, hB.1])
  have lhM := len_one (RowOK.dig (by assumption)) hM.2 ehM r_a r_ws
  refine ⟨rfl, rfl, rfl, rfl, rfl, rfl, rfl, rfl, law16_row1 wa (by assumption), wit_one (by first | exact R4_num _ | exact by assumption), ?_⟩
  intro x8
  intro h4
  obtain ⟨rh4_, h4⟩ := h4
  try simp only [num_vI (n := wa) (by assumption)] at h4
  have hC := h4
  have okhC : RowOK x8 := by assumption
  have ehC := vlen_dg x8
  have chC := canon_pos okhC.dig hC.2.1
  have lhC := hC.2.2
  refine ⟨rfl, rfl, rfl, rfl, rfl, rfl, rfl, rfl, law16_row1 s (by assumption), wit_one (by first | exact R4_num _ | exact by assumption), ?_⟩
  intro x9
  intro h5
  obtain ⟨rh5_, h5⟩ := h5
  try simp only [num_vI (n := s) (by assumption)] at h5
  have hD := h5
  have okhD : RowOK x9 := by assumption
  have ehD := vlen_dg x9
  have chD := canon_pos okhD.dig hD.2.1
  have lhD := hD.2.2
  refine ⟨ref1_Mul x8 x9 (by first | assumption | exact rowOK_lit _ _ (by decide)) (by first | assumption | exact rowOK_lit _ _ (by decide)) (by omega) (by omega), wit_row (by rw [rdv_eq x8, rdv_eq x9]; exact Int.mul_nonneg (nv_nonneg (RowOK.dig (by first | assumption | exact rowOK_lit _ _ (by decide)))) (nv_nonneg (RowOK.dig (by first | assumption | exact rowOK_lit _ _ (by decide))))), ?_⟩
  intro x10
  intro h6
  simp only [rdv_eq] at h6
  obtain ⟨rh6_, h6⟩ := h6
  have hN := h6
  have ehN : nv (dg x10) = _ := hN.1.trans (by rw [hC.1, hD.1])
  have lhN := len_one (RowOK.dig (by assumption)) hN.2 ehN r_wa r_s
  refine ⟨ref1_Cmp x7 x10 (by first | assumption | exact rowOK_lit _ _ (by decide)) (by first | assumption | exact rowOK_lit _ _ (by decide)) (by omega) (by omega), ⟨_, rfl⟩, ?_⟩
  intro x11
  intro h7
  simp only [rdv_eq] at h7
  have hK := h7
  rw [ehM, ehN] at hK
  exact ⟨_, rfl, congrArg Value.bool (by rw [num_vI r_a, num_vI r_s, num_vI r_wa, num_vI r_ws, hK, decide_eq_decide, ge_iff_le, hCmp_ge0]), trivial⟩

theorem Try.elt87 : ElT Try.prog 87 44 4 := ⟨by kernel_rfl, fun w => by kernel_rfl⟩
theorem Try.elk44 : ElK Try.prog 44 4 (X := Int) vI R4 := elK_num (fun w => by kernel_rfl) (fun w => by kernel_rfl)
theorem Try.elt70 : ElT Try.prog 70 4 1 := ⟨by kernel_rfl, fun w => by kernel_rfl⟩
theorem Try.elk4 : ElK Try.prog 4 1 (X := Bool) Value.bool (fun _ => True) := elK_bool (fun w => by kernel_rfl) (fun w => by kernel_rfl) _
set_option maxRecDepth 100000 in
set_option maxHeartbeats 4000000 in
theorem law16_ShareKeeps_vc (w : World) (l : Value) (o : Value) (ls : List Int) (os : List Bool) : codeW Try.prog 126 none 2000 none (bodyOf Try.f12) (.reg [.sem []] (.caseP (fun s => decide (((vlen (s.fr 0) : Nat) : Int) > (30 : Int))) (.reg [.callr [] law16_lives_C, .sem [], .sem [], .sem [], .eq (f_len), .gen [] (one (.bool true)), .sem [], .sem [], .no, .no, .no, .no, .no, .sem []] (.condT (.reg [.callr [] law16_lives_C, .sem []] (.done)))) (.reg [.callr [] law16_lives_C, .sem [], .sem [], .sem [], .eq (f_len), .gen [] (one (.bool false)), .sem [], .sem [], .sem [], .eq (f_len), .sem [], .eq (f_len), .sem [], .sem []] (.cond (.reg [.callr [] law16_lives_C, .sem []] (.done)) (.reg [.sem [.nw 1], .sem [.nw 2]] (.reg [.sem [], .eq (f_len), .sem []] (.inv (Nat × Int × Int × Nat × Nat) (fun zx => [(5, .pointer (some ⟨zx.2.2.2.1, 0, none⟩)), (6, .pointer (some ⟨zx.2.2.2.2, 0, none⟩)), (0, l), (1, o), (32, l), (33, .int .i64 ((vlen l : Nat) : Int)), (34, .int .i64 ((zx.1 : Nat) : Int))]) (fun zx => [(0, (old w)), (1, .blk zx.2.2.2.1 (.cells #[.int .u64 (lim zx.2.1 0), .int .u64 (lim zx.2.1 1), .int .u64 (lim zx.2.1 2), .int .u64 (lim zx.2.1 3)] 44 (0, 0))), (2, .blk zx.2.2.2.2 (.cells #[.int .u64 (lim zx.2.2.1 0), .int .u64 (lim zx.2.2.1 1), .int .u64 (lim zx.2.2.1 2), .int .u64 (lim zx.2.2.1 3)] 44 (0, 0)))]) (fun zx => zx.1 ≤ ls.length ∧ R4 zx.2.1 ∧ R4 zx.2.2.1 ∧ zx.2.2.1 ≤ zx.2.1) (fun zx => ls.length - zx.1) (fun x3 => .reg [.sem []] (.cond (.reg [.sem [], .eq (f_oidx 4), .specr [0] (F_old vI R4), .sem [.nw 3], .sem [], .sem [.wr 3, .wr 3, .wr 3, .wr 3]] (.reg [.sem [.rd 1, .rd 1, .rd 1, .rd 1], .sem [.rd 2, .rd 2, .rd 2, .rd 2], .sem [.nw 4], .sem [.nw 5], .sem [.wr 4, .wr 4, .wr 4, .wr 4], .sem [.wr 5, .wr 5, .wr 5, .wr 5]] (.reg [.sem [], .sem [], .eq (f_oidx 1), .specr [0] (F_old Value.bool (fun _ => True))] (.cond (.reg [.sem [.rd 1, .rd 1, .rd 1, .rd 1], .sem [.rd 2, .rd 2, .rd 2, .rd 2], .sem [.rd 3, .rd 3, .rd 3, .rd 3], .callr [] share_Out_C, .sem [], .sem [], .sem [], .sem [.nw 6], .sem [.wr 6, .wr 6, .wr 6, .wr 6], .sem []] (.reg [.sem [], .sem []] (.cond (.reg [.gen [] (fun vs => one (.int .i64 (ci (varg vs 0) + ci (varg vs 1))) vs), .sem []] (.done)) (.reg [.sem [.rd 1, .rd 1, .rd 1, .rd 1], .sem [.rd 6, .rd 6, .rd 6, .rd 6], .callr [] huge_Sub_C, .sem [], .sem [], .sem [], .sem [.wr 1, .wr 1, .wr 1, .wr 1], .sem []] (.reg [.sem [], .gen [] (one (.bool false))] (.condF (.reg [.sem [.rd 2, .rd 2, .rd 2, .rd 2], .sem [.rd 3, .rd 3, .rd 3, .rd 3], .callr [] huge_Sub_C, .sem [], .sem [], .sem [], .sem [.wr 2, .wr 2, .wr 2, .wr 2]] (.reg [.sem [.rd 2, .rd 2, .rd 2, .rd 2], .sem [.rd 1, .rd 1, .rd 1, .rd 1], .callr [] huge_Cmp_C, .gen [] (one (.bool false)), .sem [], .sem [.rd 1, .rd 1, .rd 1, .rd 1], .sem [.rd 2, .rd 2, .rd 2, .rd 2], .sem [.rd 4, .rd 4, .rd 4, .rd 4], .sem [.rd 5, .rd 5, .rd 5, .rd 5], .callr [] law16_noLess_C, .gen [] (one (.bool false)), .sem []] (.condF (.reg [.sem [.rd 2, .rd 2, .rd 2, .rd 2], .sem [], .eq (f_eq)] (.cond (.reg [.gen [] (fun vs => one (.int .i64 (ci (varg vs 0) + ci (varg vs 1))) vs), .sem []] (.done)) (.reg [.sem [.rd 1, .rd 1, .rd 1, .rd 1], .sem [.rd 2, .rd 2, .rd 2, .rd 2], .sem [.rd 2, .rd 2, .rd 2, .rd 2], .callr [] share_Out_C, .sem [], .sem [], .sem [], .sem [.nw 7], .sem [.wr 7, .wr 7, .wr 7, .wr 7], .sem []] (.caseP (fun s => (ci (s.fr 16)) != (2 : Int)) (.reg [.sem [], .gen [] (one (.bool true)), .sem [], .sem [], .gen [] (one (.bool false)), .sem [], .sem [.rd 7, .rd 7, .rd 7, .rd 7], .sem [.rd 1, .rd 1, .rd 1, .rd 1], .callr [] huge_Cmp_C, .gen [] (one (.bool false)), .sem [], .sem []] (.condF (.reg [.gen [] (fun vs => one (.int .i64 (ci (varg vs 0) + ci (varg vs 1))) vs), .sem []] (.done)))) (.reg [.sem [], .gen [] (one (.bool false)), .sem [], .no, .no, .no, .no, .no, .no, .no, .no, .sem []] (.condF (.reg [.gen [] (fun vs => one (.int .i64 (ci (varg vs 0) + ci (varg vs 1))) vs), .sem []] (.done))))))))))))))))) (.reg [.sem [.rd 1, .rd 1, .rd 1, .rd 1], .sem [.rd 2, .rd 2, .rd 2, .rd 2], .sem [.rd 3, .rd 3, .rd 3, .rd 3], .callr [] share_In_C, .sem [], .sem [], .sem [], .sem [.nw 8], .sem [.wr 8, .wr 8, .wr 8, .wr 8], .sem []] (.reg [.sem [], .sem []] (.cond (.reg [.gen [] (fun vs => one (.int .i64 (ci (varg vs 0) + ci (varg vs 1))) vs), .sem []] (.done)) (.reg [.sem [.rd 1, .rd 1, .rd 1, .rd 1], .sem [.rd 3, .rd 3, .rd 3, .rd 3], .callr [] huge_Add_C, .sem [], .sem [], .sem [], .sem [.wr 1, .wr 1, .wr 1, .wr 1], .sem []] (.reg [.sem [], .gen [] (one (.bool false))] (.condF (.reg [.sem [.rd 2, .rd 2, .rd 2, .rd 2], .sem [.rd 8, .rd 8, .rd 8, .rd 8], .callr [] huge_Add_C, .sem [], .sem [], .sem [], .sem [.wr 2, .wr 2, .wr 2, .wr 2]] (.reg [.sem [.rd 2, .rd 2, .rd 2, .rd 2], .sem [.rd 1, .rd 1, .rd 1, .rd 1], .callr [] huge_Cmp_C, .gen [] (one (.bool false)), .sem [], .sem [.rd 1, .rd 1, .rd 1, .rd 1], .sem [.rd 2, .rd 2, .rd 2, .rd 2], .sem [.rd 4, .rd 4, .rd 4, .rd 4], .sem [.rd 5, .rd 5, .rd 5, .rd 5], .callr [] law16_noLess_C, .gen [] (one (.bool false)), .sem []] (.condF (.reg [.sem [.rd 2, .rd 2, .rd 2, .rd 2], .sem [], .eq (f_eq)] (.cond (.reg [.gen [] (fun vs => one (.int .i64 (ci (varg vs 0) + ci (varg vs 1))) vs), .sem []] (.done)) (.reg [.sem [.rd 1, .rd 1, .rd 1, .rd 1], .sem [.rd 2, .rd 2, .rd 2, .rd 2], .sem [.rd 2, .rd 2, .rd 2, .rd 2], .callr [] share_Out_C, .sem [], .sem [], .sem [], .sem [.nw 7], .sem [.wr 7, .wr 7, .wr 7, .wr 7], .sem []] (.caseP (fun s => (ci (s.fr 16)) != (2 : Int)) (.reg [.sem [], .gen [] (one (.bool true)), .sem [], .sem [], .gen [] (one (.bool false)), .sem [], .sem [.rd 7, .rd 7, .rd 7, .rd 7], .sem [.rd 1, .rd 1, .rd 1, .rd 1], .callr [] huge_Cmp_C, .gen [] (one (.bool false)), .sem [], .sem []] (.condF (.reg [.gen [] (fun vs => one (.int .i64 (ci (varg vs 0) + ci (varg vs 1))) vs), .sem []] (.done)))) (.reg [.sem [], .gen [] (one (.bool false)), .sem [], .no, .no, .no, .no, .no, .no, .no, .no, .sem []] (.condF (.reg [.gen [] (fun vs => one (.int .i64 (ci (varg vs 0) + ci (varg vs 1))) vs), .sem []] (.done))))))))))))))))))))) (.reg [.sem []] (.done)))))))))))
    (init #[l, o] [(old w)]) (finW Try.prog Try.f12 [] [0] (X := Unit) (fun _ => .bool true) (fun _ => [(old w)]) (fun _ => True)) =
    (((decide (((vlen l : Nat) : Int) > (30 : Int))) = true → (CallT Try.prog 49 #[] [] Unit (fun _ => .bool true) (fun _ => []) (fun _ => True)) ∧ (∃ zx : Unit, (fun _ => True) zx) ∧ ∀ _ : Unit, (True) → false = false ∧ false = false ∧ (PureRun Try.prog (do pure (.value (← Builtin.len_ #[87] 3 #[l]))) (.int .i64 ((vlen l : Nat) : Int))) ∧ false = false ∧ (∃ _ : Unit, True ∧ Value.bool (decide (((vlen l : Nat) : Int) > (30 : Int))) = .bool true) ∧ ∀ _ : Unit, (True) → true = !false ∧ true = !false ∧ true = !false ∧ true = !false ∧ true = !false ∧ (true = true) ∧ (CallT Try.prog 49 #[] [] Unit (fun _ => .bool true) (fun _ => []) (fun _ => True)) ∧ (∃ zx : Unit, (fun _ => True) zx) ∧ ∀ _ : Unit, (True) → ∃ _ : Unit, (True) ∧ Value.bool true = .bool true ∧ (old w) = (old w) ∧ True) ∧ ((decide (((vlen l : Nat) : Int) > (30 : Int))) = false → (CallT Try.prog 49 #[] [] Unit (fun _ => .bool true) (fun _ => []) (fun _ => True)) ∧ (∃ zx : Unit, (fun _ => True) zx) ∧ ∀ _ : Unit, (True) → false = false ∧ false = false ∧ (PureRun Try.prog (do pure (.value (← Builtin.len_ #[87] 3 #[l]))) (.int .i64 ((vlen l : Nat) : Int))) ∧ false = false ∧ (∃ _ : Unit, True ∧ Value.bool (decide (((vlen l : Nat) : Int) > (30 : Int))) = .bool false) ∧ ∀ _ : Unit, (True) → false = false ∧ false = false ∧ (PureRun Try.prog (do pure (.value (← Builtin.len_ #[70] 3 #[o]))) (.int .i64 ((vlen o : Nat) : Int))) ∧ false = false ∧ false = false ∧ (PureRun Try.prog (do pure (.value (← Builtin.len_ #[87] 3 #[l]))) (.int .i64 ((vlen l : Nat) : Int))) ∧ false = false ∧ ((decide (((vlen o : Nat) : Int) < ((vlen l : Nat) : Int))) = true → (CallT Try.prog 49 #[] [] Unit (fun _ => .bool true) (fun _ => []) (fun _ => True)) ∧ (∃ zx : Unit, (fun _ => True) zx) ∧ ∀ _ : Unit, (True) → ∃ _ : Unit, (True) ∧ Value.bool true = .bool true ∧ (old w) = (old w) ∧ True) ∧ ((decide (((vlen o : Nat) : Int) < ((vlen l : Nat) : Int))) = false → ∀ b1 : Nat, ∀ b2 : Nat, (PureRun Try.prog (do pure (.value (← Builtin.len_ #[87] 3 #[l]))) (.int .i64 ((vlen l : Nat) : Int))) ∧ (∃ zx : Nat × Int × Int × Nat × Nat, (zx.1 ≤ ls.length ∧ R4 zx.2.1 ∧ R4 zx.2.2.1 ∧ zx.2.2.1 ≤ zx.2.1) ∧ Value.pointer (some ⟨b1, 0, none⟩) = .pointer (some ⟨zx.2.2.2.1, 0, none⟩) ∧ Value.pointer (some ⟨b2, 0, none⟩) = .pointer (some ⟨zx.2.2.2.2, 0, none⟩) ∧ l = l ∧ o = o ∧ l = l ∧ Value.int .i64 ((vlen l : Nat) : Int) = .int .i64 ((vlen l : Nat) : Int) ∧ Value.int .i64 0 = .int .i64 ((zx.1 : Nat) : Int) ∧ (old w) = (old w) ∧ Slot.blk b1 (.cells #[.int .u64 0, .int .u64 0, .int .u64 0, .int .u64 0] 44 (0, 0)) = .blk zx.2.2.2.1 (.cells #[.int .u64 (lim zx.2.1 0), .int .u64 (lim zx.2.1 1), .int .u64 (lim zx.2.1 2), .int .u64 (lim zx.2.1 3)] 44 (0, 0)) ∧ Slot.blk b2 (.cells #[.int .u64 0, .int .u64 0, .int .u64 0, .int .u64 0] 44 (0, 0)) = .blk zx.2.2.2.2 (.cells #[.int .u64 (lim zx.2.2.1 0), .int .u64 (lim zx.2.2.1 1), .int .u64 (lim zx.2.2.1 2), .int .u64 (lim zx.2.2.1 3)] 44 (0, 0)) ∧ True) ∧ ∀ x3 : Nat × Int × Int × Nat × Nat, ∀ jx3 : Nat → Value, (x3.1 ≤ ls.length ∧ R4 x3.2.1 ∧ R4 x3.2.2.1 ∧ x3.2.2.1 ≤ x3.2.1) → ((decide (((x3.1 : Nat) : Int) < ((vlen l : Nat) : Int))) = true → (PureRun Try.prog (do pure (.value (← Instr.indexAt 87 l (.int .i64 ((x3.1 : Nat) : Int))))) (.pointer (some ⟨(vblk l), (voff l + (Int.toNat ((x3.1 : Nat) : Int)) * 4), none⟩))) ∧ (OpT Try.prog (do pure (.value (← Instr.loadAt 44 (.pointer (some ⟨(vblk l), (voff l + (Int.toNat ((x3.1 : Nat) : Int)) * 4), none⟩))))) [(old w)] Int (fun zx => vI zx) (fun _ => [(old w)]) (fun zx => (R4) zx ∧ ∃ w', old w = old w' ∧ At w' (.pointer (some ⟨(vblk l), (voff l + (Int.toNat ((x3.1 : Nat) : Int)) * 4), none⟩)) ((vI) zx).cells.toList)) ∧ (∃ zx : Int, (fun zx => (R4) zx ∧ ∃ w', old w = old w' ∧ At w' (.pointer (some ⟨(vblk l), (voff l + (Int.toNat ((x3.1 : Nat) : Int)) * 4), none⟩)) ((vI) zx).cells.toList) zx) ∧ ∀ x4 : Int, ((R4) x4 ∧ ∃ w', old w = old w' ∧ At w' (.pointer (some ⟨(vblk l), (voff l + (Int.toNat ((x3.1 : Nat) : Int)) * 4), none⟩)) ((vI) x4).cells.toList) → ∀ b5 : Nat, b5 = b5 ∧ (none : Option Nat) = none ∧ b5 = b5 ∧ (none : Option Nat) = none ∧ b5 = b5 ∧ (none : Option Nat) = none ∧ b5 = b5 ∧ (none : Option Nat) = none ∧ x3.2.2.2.1 = x3.2.2.2.1 ∧ (none : Option Nat) = none ∧ x3.2.2.2.1 = x3.2.2.2.1 ∧ (none : Option Nat) = none ∧ x3.2.2.2.1 = x3.2.2.2.1 ∧ (none : Option Nat) = none ∧ x3.2.2.2.1 = x3.2.2.2.1 ∧ (none : Option Nat) = none ∧ x3.2.2.2.2 = x3.2.2.2.2 ∧ (none : Option Nat) = none ∧ x3.2.2.2.2 = x3.2.2.2.2 ∧ (none : Option Nat) = none ∧ x3.2.2.2.2 = x3.2.2.2.2 ∧ (none : Option Nat) = none ∧ x3.2.2.2.2 = x3.2.2.2.2 ∧ (none : Option Nat) = none ∧ ∀ b6 : Nat, ∀ b7 : Nat, b6 = b6 ∧ (none : Option Nat) = none ∧ b6 = b6 ∧ (none : Option Nat) = none ∧ b6 = b6 ∧ (none : Option Nat) = none ∧ b6 = b6 ∧ (none : Option Nat) = none ∧ b7 = b7 ∧ (none : Option Nat) = none ∧ b7 = b7 ∧ (none : Option Nat) = none ∧ b7 = b7 ∧ (none : Option Nat) = none ∧ b7 = b7 ∧ (none : Option Nat) = none ∧ (PureRun Try.prog (do pure (.value (← Instr.indexAt 70 o (.int .i64 ((x3.1 : Nat) : Int))))) (.pointer (some ⟨(vblk o), (voff o + (Int.toNat ((x3.1 : Nat) : Int)) * 1), none⟩))) ∧ (OpT Try.prog (do pure (.value (← Instr.loadAt 4 (.pointer (some ⟨(vblk o), (voff o + (Int.toNat ((x3.1 : Nat) : Int)) * 1), none⟩))))) [(old w)] Bool (fun zx => .bool zx) (fun _ => [(old w)]) (fun zx => ((fun _ => True)) zx ∧ ∃ w', old w = old w' ∧ At w' (.pointer (some ⟨(vblk o), (voff o + (Int.toNat ((x3.1 : Nat) : Int)) * 1), none⟩)) ((Value.bool) zx).cells.toList)) ∧ (∃ zx : Bool, (fun zx => ((fun _ => True)) zx ∧ ∃ w', old w = old w' ∧ At w' (.pointer (some ⟨(vblk o), (voff o + (Int.toNat ((x3.1 : Nat) : Int)) * 1), none⟩)) ((Value.bool) zx).cells.toList) zx) ∧ ∀ x8 : Bool, (((fun _ => True)) x8 ∧ ∃ w', old w = old w' ∧ At w' (.pointer (some ⟨(vblk o), (voff o + (Int.toNat ((x3.1 : Nat) : Int)) * 1), none⟩)) ((Value.bool) x8).cells.toList) → (x8 = true → x3.2.2.2.1 = x3.2.2.2.1 ∧ (none : Option Nat) = none ∧ x3.2.2.2.1 = x3.2.2.2.1 ∧ (none : Option Nat) = none ∧ x3.2.2.2.1 = x3.2.2.2.1 ∧ (none : Option Nat) = none ∧ x3.2.2.2.1 = x3.2.2.2.1 ∧ (none : Option Nat) = none ∧ x3.2.2.2.2 = x3.2.2.2.2 ∧ (none : Option Nat) = none ∧ x3.2.2.2.2 = x3.2.2.2.2 ∧ (none : Option Nat) = none ∧ x3.2.2.2.2 = x3.2.2.2.2 ∧ (none : Option Nat) = none ∧ x3.2.2.2.2 = x3.2.2.2.2 ∧ (none : Option Nat) = none ∧ b5 = b5 ∧ (none : Option Nat) = none ∧ b5 = b5 ∧ (none : Option Nat) = none ∧ b5 = b5 ∧ (none : Option Nat) = none ∧ b5 = b5 ∧ (none : Option Nat) = none ∧ (CallT Try.prog 52 #[vI x3.2.1, vI x3.2.2.1, vI x4] [] (Int × Int) (fun zx => .tuple #[vI zx.1, .int .i64 zx.2]) (fun _ => []) (fun zx => R4 zx.1 ∧ zx = sOut (num (vI x3.2.1)) (num (vI x3.2.2.1)) (num (vI x4)))) ∧ (∃ zx : Int × Int, (fun zx => R4 zx.1 ∧ zx = sOut (num (vI x3.2.1)) (num (vI x3.2.2.1)) (num (vI x4))) zx) ∧ ∀ x9 : Int × Int, (R4 x9.1 ∧ x9 = sOut (num (vI x3.2.1)) (num (vI x3.2.2.1)) (num (vI x4))) → ∀ b10 : Nat, b10 = b10 ∧ (none : Option Nat) = none ∧ b10 = b10 ∧ (none : Option Nat) = none ∧ b10 = b10 ∧ (none : Option Nat) = none ∧ b10 = b10 ∧ (none : Option Nat) = none ∧ ((x9.2 != (0 : Int)) = true → (∃ _ : Unit, True ∧ Value.int .i64 (IntKind.i64.wrap (((x3.1 : Nat) : Int) + 1)) = .int .i64 (((x3.1 : Nat) : Int) + 1)) ∧ ∀ _ : Unit, (True) → ∃ zy : Nat × Int × Int × Nat × Nat, (zy.1 ≤ ls.length ∧ R4 zy.2.1 ∧ R4 zy.2.2.1 ∧ zy.2.2.1 ≤ zy.2.1) ∧ ls.length - zy.1 < ls.length - x3.1 ∧ Value.pointer (some ⟨x3.2.2.2.1, 0, none⟩) = .pointer (some ⟨zy.2.2.2.1, 0, none⟩) ∧ Value.pointer (some ⟨x3.2.2.2.2, 0, none⟩) = .pointer (some ⟨zy.2.2.2.2, 0, none⟩) ∧ l = l ∧ o = o ∧ l = l ∧ Value.int .i64 ((vlen l : Nat) : Int) = .int .i64 ((vlen l : Nat) : Int) ∧ Value.int .i64 (((x3.1 : Nat) : Int) + 1) = .int .i64 ((zy.1 : Nat) : Int) ∧ (old w) = (old w) ∧ Slot.blk x3.2.2.2.1 (.cells #[.int .u64 (lim x3.2.1 0), .int .u64 (lim x3.2.1 1), .int .u64 (lim x3.2.1 2), .int .u64 (lim x3.2.1 3)] 44 (0, 0)) = .blk zy.2.2.2.1 (.cells #[.int .u64 (lim zy.2.1 0), .int .u64 (lim zy.2.1 1), .int .u64 (lim zy.2.1 2), .int .u64 (lim zy.2.1 3)] 44 (0, 0)) ∧ Slot.blk x3.2.2.2.2 (.cells #[.int .u64 (lim x3.2.2.1 0), .int .u64 (lim x3.2.2.1 1), .int .u64 (lim x3.2.2.1 2), .int .u64 (lim x3.2.2.1 3)] 44 (0, 0)) = .blk zy.2.2.2.2 (.cells #[.int .u64 (lim zy.2.2.1 0), .int .u64 (lim zy.2.2.1 1), .int .u64 (lim zy.2.2.1 2), .int .u64 (lim zy.2.2.1 3)] 44 (0, 0)) ∧ True) ∧ ((x9.2 != (0 : Int)) = false → x3.2.2.2.1 = x3.2.2.2.1 ∧ (none : Option Nat) = none ∧ x3.2.2.2.1 = x3.2.2.2.1 ∧ (none : Option Nat) = none ∧ x3.2.2.2.1 = x3.2.2.2.1 ∧ (none : Option Nat) = none ∧ x3.2.2.2.1 = x3.2.2.2.1 ∧ (none : Option Nat) = none ∧ b10 = b10 ∧ (none : Option Nat) = none ∧ b10 = b10 ∧ (none : Option Nat) = none ∧ b10 = b10 ∧ (none : Option Nat) = none ∧ b10 = b10 ∧ (none : Option Nat) = none ∧ (CallT Try.prog 54 #[vI x3.2.1, vI x9.1] [] (Int × Int) (fun zx => .tuple #[vI zx.1, .int .i64 zx.2]) (fun _ => []) (fun zx => R4 zx.1 ∧ zx = hSub (num (vI x3.2.1)) (num (vI x9.1)))) ∧ (∃ zx : Int × Int, (fun zx => R4 zx.1 ∧ zx = hSub (num (vI x3.2.1)) (num (vI x9.1))) zx) ∧ ∀ x11 : Int × Int, (R4 x11.1 ∧ x11 = hSub (num (vI x3.2.1)) (num (vI x9.1))) → x3.2.2.2.1 = x3.2.2.2.1 ∧ (none : Option Nat) = none ∧ x3.2.2.2.1 = x3.2.2.2.1 ∧ (none : Option Nat) = none ∧ x3.2.2.2.1 = x3.2.2.2.1 ∧ (none : Option Nat) = none ∧ x3.2.2.2.1 = x3.2.2.2.1 ∧ (none : Option Nat) = none ∧ (∃ _ : Unit, True ∧ Value.bool (x11.2 != (0 : Int)) = .bool false) ∧ ∀ _ : Unit, (True) → (false = false) ∧ x3.2.2.2.2 = x3.2.2.2.2 ∧ (none : Option Nat) = none ∧ x3.2.2.2.2 = x3.2.2.2.2 ∧ (none : Option Nat) = none ∧ x3.2.2.2.2 = x3.2.2.2.2 ∧ (none : Option Nat) = none ∧ x3.2.2.2.2 = x3.2.2.2.2 ∧ (none : Option Nat) = none ∧ b5 = b5 ∧ (none : Option Nat) = none ∧ b5 = b5 ∧ (none : Option Nat) = none ∧ b5 = b5 ∧ (none : Option Nat) = none ∧ b5 = b5 ∧ (none : Option Nat) = none ∧ (CallT Try.prog 54 #[vI x3.2.2.1, vI x4] [] (Int × Int) (fun zx => .tuple #[vI zx.1, .int .i64 zx.2]) (fun _ => []) (fun zx => R4 zx.1 ∧ zx = hSub (num (vI x3.2.2.1)) (num (vI x4)))) ∧ (∃ zx : Int × Int, (fun zx => R4 zx.1 ∧ zx = hSub (num (vI x3.2.2.1)) (num (vI x4))) zx) ∧ ∀ x12 : Int × Int, (R4 x12.1 ∧ x12 = hSub (num (vI x3.2.2.1)) (num (vI x4))) → x3.2.2.2.2 = x3.2.2.2.2 ∧ (none : Option Nat) = none ∧ x3.2.2.2.2 = x3.2.2.2.2 ∧ (none : Option Nat) = none ∧ x3.2.2.2.2 = x3.2.2.2.2 ∧ (none : Option Nat) = none ∧ x3.2.2.2.2 = x3.2.2.2.2 ∧ (none : Option Nat) = none ∧ x3.2.2.2.2 = x3.2.2.2.2 ∧ (none : Option Nat) = none ∧ x3.2.2.2.2 = x3.2.2.2.2 ∧ (none : Option Nat) = none ∧ x3.2.2.2.2 = x3.2.2.2.2 ∧ (none : Option Nat) = none ∧ x3.2.2.2.2 = x3.2.2.2.2 ∧ (none : Option Nat) = none ∧ x3.2.2.2.1 = x3.2.2.2.1 ∧ (none : Option Nat) = none ∧ x3.2.2.2.1 = x3.2.2.2.1 ∧ (none : Option Nat) = none ∧ x3.2.2.2.1 = x3.2.2.2.1 ∧ (none : Option Nat) = none ∧ x3.2.2.2.1 = x3.2.2.2.1 ∧ (none : Option Nat) = none ∧ (CallT Try.prog 48 #[vI x12.1, vI x11.1] [] Unit (fun _ => .int .i64 (hCmp (num (vI x12.1)) (num (vI x11.1)))) (fun _ => []) (fun _ => True)) ∧ (∃ zx : Unit, (fun _ => True) zx) ∧ ∀ _ : Unit, (True) → (∃ _ : Unit, True ∧ Value.bool (decide ((hCmp (num (vI x12.1)) (num (vI x11.1))) > (0 : Int))) = .bool false) ∧ ∀ _ : Unit, (True) → false = false ∧ x3.2.2.2.1 = x3.2.2.2.1 ∧ (none : Option Nat) = none ∧ x3.2.2.2.1 = x3.2.2.2.1 ∧ (none : Option Nat) = none ∧ x3.2.2.2.1 = x3.2.2.2.1 ∧ (none : Option Nat) = none ∧ x3.2.2.2.1 = x3.2.2.2.1 ∧ (none : Option Nat) = none ∧ false = false ∧ x3.2.2.2.2 = x3.2.2.2.2 ∧ (none : Option Nat) = none ∧ x3.2.2.2.2 = x3.2.2.2.2 ∧ (none : Option Nat) = none ∧ x3.2.2.2.2 = x3.2.2.2.2 ∧ (none : Option Nat) = none ∧ x3.2.2.2.2 = x3.2.2.2.2 ∧ (none : Option Nat) = none ∧ false = false ∧ b6 = b6 ∧ (none : Option Nat) = none ∧ b6 = b6 ∧ (none : Option Nat) = none ∧ b6 = b6 ∧ (none : Option Nat) = none ∧ b6 = b6 ∧ (none : Option Nat) = none ∧ false = false ∧ b7 = b7 ∧ (none : Option Nat) = none ∧ b7 = b7 ∧ (none : Option Nat) = none ∧ b7 = b7 ∧ (none : Option Nat) = none ∧ b7 = b7 ∧ (none : Option Nat) = none ∧ false = false ∧ (CallT Try.prog 55 #[vI x11.1, vI x12.1, vI x3.2.1, vI x3.2.2.1] [] Bool (fun zx => .bool zx) (fun _ => []) (fun zx => zx = decide (((num (vI x3.2.1)) + 1) * ((num (vI x12.1)) + 1) ≤ ((num (vI x11.1)) + 1) * ((num (vI x3.2.2.1)) + 1)))) ∧ (∃ zx : Bool, (fun zx => zx = decide (((num (vI x3.2.1)) + 1) * ((num (vI x12.1)) + 1) ≤ ((num (vI x11.1)) + 1) * ((num (vI x3.2.2.1)) + 1))) zx) ∧ ∀ x13 : Bool, (x13 = decide (((num (vI x3.2.1)) + 1) * ((num (vI x12.1)) + 1) ≤ ((num (vI x11.1)) + 1) * ((num (vI x3.2.2.1)) + 1))) → false = false ∧ (∃ _ : Unit, True ∧ Value.bool (!x13) = .bool false) ∧ ∀ _ : Unit, (True) → (false = false) ∧ x3.2.2.2.2 = x3.2.2.2.2 ∧ (none : Option Nat) = none ∧ x3.2.2.2.2 = x3.2.2.2.2 ∧ (none : Option Nat) = none ∧ x3.2.2.2.2 = x3.2.2.2.2 ∧ (none : Option Nat) = none ∧ x3.2.2.2.2 = x3.2.2.2.2 ∧ (none : Option Nat) = none ∧ (PureRun Try.prog (xBin .eql 44 (vI x12.1) (vI 0)) (.bool (num (vI x12.1) == num (vI 0)))) ∧ ((num (vI x12.1) == num (vI 0)) = true → (∃ _ : Unit, True ∧ Value.int .i64 (IntKind.i64.wrap (((x3.1 : Nat) : Int) + 1)) = .int .i64 (((x3.1 : Nat) : Int) + 1)) ∧ ∀ _ : Unit, (True) → ∃ zy : Nat × Int × Int × Nat × Nat, (zy.1 ≤ ls.length ∧ R4 zy.2.1 ∧ R4 zy.2.2.1 ∧ zy.2.2.1 ≤ zy.2.1) ∧ ls.length - zy.1 < ls.length - x3.1 ∧ Value.pointer (some ⟨x3.2.2.2.1, 0, none⟩) = .pointer (some ⟨zy.2.2.2.1, 0, none⟩) ∧ Value.pointer (some ⟨x3.2.2.2.2, 0, none⟩) = .pointer (some ⟨zy.2.2.2.2, 0, none⟩) ∧ l = l ∧ o = o ∧ l = l ∧ Value.int .i64 ((vlen l : Nat) : Int) = .int .i64 ((vlen l : Nat) : Int) ∧ Value.int .i64 (((x3.1 : Nat) : Int) + 1) = .int .i64 ((zy.1 : Nat) : Int) ∧ (old w) = (old w) ∧ Slot.blk x3.2.2.2.1 (.cells #[.int .u64 (lim x11.1 0), .int .u64 (lim x11.1 1), .int .u64 (lim x11.1 2), .int .u64 (lim x11.1 3)] 44 (0, 0)) = .blk zy.2.2.2.1 (.cells #[.int .u64 (lim zy.2.1 0), .int .u64 (lim zy.2.1 1), .int .u64 (lim zy.2.1 2), .int .u64 (lim zy.2.1 3)] 44 (0, 0)) ∧ Slot.blk x3.2.2.2.2 (.cells #[.int .u64 (lim x12.1 0), .int .u64 (lim x12.1 1), .int .u64 (lim x12.1 2), .int .u64 (lim x12.1 3)] 44 (0, 0)) = .blk zy.2.2.2.2 (.cells #[.int .u64 (lim zy.2.2.1 0), .int .u64 (lim zy.2.2.1 1), .int .u64 (lim zy.2.2.1 2), .int .u64 (lim zy.2.2.1 3)] 44 (0, 0)) ∧ True) ∧ ((num (vI x12.1) == num (vI 0)) = false → x3.2.2.2.1 = x3.2.2.2.1 ∧ (none : Option Nat) = none ∧ x3.2.2.2.1 = x3.2.2.2.1 ∧ (none : Option Nat) = none ∧ x3.2.2.2.1 = x3.2.2.2.1 ∧ (none : Option Nat) = none ∧ x3.2.2.2.1 = x3.2.2.2.1 ∧ (none : Option Nat) = none ∧ x3.2.2.2.2 = x3.2.2.2.2 ∧ (none : Option Nat) = none ∧ x3.2.2.2.2 = x3.2.2.2.2 ∧ (none : Option Nat) = none ∧ x3.2.2.2.2 = x3.2.2.2.2 ∧ (none : Option Nat) = none ∧ x3.2.2.2.2 = x3.2.2.2.2 ∧ (none : Option Nat) = none ∧ x3.2.2.2.2 = x3.2.2.2.2 ∧ (none : Option Nat) = none ∧ x3.2.2.2.2 = x3.2.2.2.2 ∧ (none : Option Nat) = none ∧ x3.2.2.2.2 = x3.2.2.2.2 ∧ (none : Option Nat) = none ∧ x3.2.2.2.2 = x3.2.2.2.2 ∧ (none : Option Nat) = none ∧ (CallT Try.prog 52 #[vI x11.1, vI x12.1, vI x12.1] [] (Int × Int) (fun zx => .tuple #[vI zx.1, .int .i64 zx.2]) (fun _ => []) (fun zx => R4 zx.1 ∧ zx = sOut (num (vI x11.1)) (num (vI x12.1)) (num (vI x12.1)))) ∧ (∃ zx : Int × Int, (fun zx => R4 zx.1 ∧ zx = sOut (num (vI x11.1)) (num (vI x12.1)) (num (vI x12.1))) zx) ∧ ∀ x14 : Int × Int, (R4 x14.1 ∧ x14 = sOut (num (vI x11.1)) (num (vI x12.1)) (num (vI x12.1))) → ∀ b15 : Nat, b15 = b15 ∧ (none : Option Nat) = none ∧ b15 = b15 ∧ (none : Option Nat) = none ∧ b15 = b15 ∧ (none : Option Nat) = none ∧ b15 = b15 ∧ (none : Option Nat) = none ∧ ((x14.2 != (2 : Int)) = true → (∃ _ : Unit, True ∧ Value.bool (x14.2 != (2 : Int)) = .bool true) ∧ ∀ _ : Unit, (True) → true = true ∧ true = true ∧ (∃ _ : Unit, True ∧ Value.bool (x14.2 != (0 : Int)) = .bool false) ∧ ∀ _ : Unit, (True) → true = true ∧ false = false ∧ b15 = b15 ∧ (none : Option Nat) = none ∧ b15 = b15 ∧ (none : Option Nat) = none ∧ b15 = b15 ∧ (none : Option Nat) = none ∧ b15 = b15 ∧ (none : Option Nat) = none ∧ false = false ∧ x3.2.2.2.1 = x3.2.2.2.1 ∧ (none : Option Nat) = none ∧ x3.2.2.2.1 = x3.2.2.2.1 ∧ (none : Option Nat) = none ∧ x3.2.2.2.1 = x3.2.2.2.1 ∧ (none : Option Nat) = none ∧ x3.2.2.2.1 = x3.2.2.2.1 ∧ (none : Option Nat) = none ∧ false = false ∧ (CallT Try.prog 48 #[vI x14.1, vI x11.1] [] Unit (fun _ => .int .i64 (hCmp (num (vI x14.1)) (num (vI x11.1)))) (fun _ => []) (fun _ => True)) ∧ (∃ zx : Unit, (fun _ => True) zx) ∧ ∀ _ : Unit, (True) → false = false ∧ (∃ _ : Unit, True ∧ Value.bool (decide ((hCmp (num (vI x14.1)) (num (vI x11.1))) > (0 : Int))) = .bool false) ∧ ∀ _ : Unit, (True) → true = true ∧ (false = false) ∧ (∃ _ : Unit, True ∧ Value.int .i64 (IntKind.i64.wrap (((x3.1 : Nat) : Int) + 1)) = .int .i64 (((x3.1 : Nat) : Int) + 1)) ∧ ∀ _ : Unit, (True) → ∃ zy : Nat × Int × Int × Nat × Nat, (zy.1 ≤ ls.length ∧ R4 zy.2.1 ∧ R4 zy.2.2.1 ∧ zy.2.2.1 ≤ zy.2.1) ∧ ls.length - zy.1 < ls.length - x3.1 ∧ Value.pointer (some ⟨x3.2.2.2.1, 0, none⟩) = .pointer (some ⟨zy.2.2.2.1, 0, none⟩) ∧ Value.pointer (some ⟨x3.2.2.2.2, 0, none⟩) = .pointer (some ⟨zy.2.2.2.2, 0, none⟩) ∧ l = l ∧ o = o ∧ l = l ∧ Value.int .i64 ((vlen l : Nat) : Int) = .int .i64 ((vlen l : Nat) : Int) ∧ Value.int .i64 (((x3.1 : Nat) : Int) + 1) = .int .i64 ((zy.1 : Nat) : Int) ∧ (old w) = (old w) ∧ Slot.blk x3.2.2.2.1 (.cells #[.int .u64 (lim x11.1 0), .int .u64 (lim x11.1 1), .int .u64 (lim x11.1 2), .int .u64 (lim x11.1 3)] 44 (0, 0)) = .blk zy.2.2.2.1 (.cells #[.int .u64 (lim zy.2.1 0), .int .u64 (lim zy.2.1 1), .int .u64 (lim zy.2.1 2), .int .u64 (lim zy.2.1 3)] 44 (0, 0)) ∧ Slot.blk x3.2.2.2.2 (.cells #[.int .u64 (lim x12.1 0), .int .u64 (lim x12.1 1), .int .u64 (lim x12.1 2), .int .u64 (lim x12.1 3)] 44 (0, 0)) = .blk zy.2.2.2.2 (.cells #[.int .u64 (lim zy.2.2.1 0), .int .u64 (lim zy.2.2.1 1), .int .u64 (lim zy.2.2.1 2), .int .u64 (lim zy.2.2.1 3)] 44 (0, 0)) ∧ True) ∧ ((x14.2 != (2 : Int)) = false → (∃ _ : Unit, True ∧ Value.bool (x14.2 != (2 : Int)) = .bool false) ∧ ∀ _ : Unit, (True) → false = !true ∧ false = !true ∧ false = !true ∧ false = !true ∧ (false = false) ∧ (∃ _ : Unit, True ∧ Value.int .i64 (IntKind.i64.wrap (((x3.1 : Nat) : Int) + 1)) = .int .i64 (((x3.1 : Nat) : Int) + 1)) ∧ ∀ _ : Unit, (True) → ∃ zy : Nat × Int × Int × Nat × Nat, (zy.1 ≤ ls.length ∧ R4 zy.2.1 ∧ R4 zy.2.2.1 ∧ zy.2.2.1 ≤ zy.2.1) ∧ ls.length - zy.1 < ls.length - x3.1 ∧ Value.pointer (some ⟨x3.2.2.2.1, 0, none⟩) = .pointer (some ⟨zy.2.2.2.1, 0, none⟩) ∧ Value.pointer (some ⟨x3.2.2.2.2, 0, none⟩) = .pointer (some ⟨zy.2.2.2.2, 0, none⟩) ∧ l = l ∧ o = o ∧ l = l ∧ Value.int .i64 ((vlen l : Nat) : Int) = .int .i64 ((vlen l : Nat) : Int) ∧ Value.int .i64 (((x3.1 : Nat) : Int) + 1) = .int .i64 ((zy.1 : Nat) : Int) ∧ (old w) = (old w) ∧ Slot.blk x3.2.2.2.1 (.cells #[.int .u64 (lim x11.1 0), .int .u64 (lim x11.1 1), .int .u64 (lim x11.1 2), .int .u64 (lim x11.1 3)] 44 (0, 0)) = .blk zy.2.2.2.1 (.cells #[.int .u64 (lim zy.2.1 0), .int .u64 (lim zy.2.1 1), .int .u64 (lim zy.2.1 2), .int .u64 (lim zy.2.1 3)] 44 (0, 0)) ∧ Slot.blk x3.2.2.2.2 (.cells #[.int .u64 (lim x12.1 0), .int .u64 (lim x12.1 1), .int .u64 (lim x12.1 2), .int .u64 (lim x12.1 3)] 44 (0, 0)) = .blk zy.2.2.2.2 (.cells #[.int .u64 (lim zy.2.2.1 0), .int .u64 (lim zy.2.2.1 1), .int .u64 (lim zy.2.2.1 2), .int .u64 (lim zy.2.2.1 3)] 44 (0, 0)) ∧ True)))) ∧ (x8 = false → x3.2.2.2.1 = x3.2.2.2.1 ∧ (none : Option Nat) = none ∧ x3.2.2.2.1 = x3.2.2.2.1 ∧ (none : Option Nat) = none ∧ x3.2.2.2.1 = x3.2.2.2.1 ∧ (none : Option Nat) = none ∧ x3.2.2.2.1 = x3.2.2.2.1 ∧ (none : Option Nat) = none ∧ x3.2.2.2.2 = x3.2.2.2.2 ∧ (none : Option Nat) = none ∧ x3.2.2.2.2 = x3.2.2.2.2 ∧ (none : Option Nat) = none ∧ x3.2.2.2.2 = x3.2.2.2.2 ∧ (none : Option Nat) = none ∧ x3.2.2.2.2 = x3.2.2.2.2 ∧ (none : Option Nat) = none ∧ b5 = b5 ∧ (none : Option Nat) = none ∧ b5 = b5 ∧ (none : Option Nat) = none ∧ b5 = b5 ∧ (none : Option Nat) = none ∧ b5 = b5 ∧ (none : Option Nat) = none ∧ (CallT Try.prog 50 #[vI x3.2.1, vI x3.2.2.1, vI x4] [] (Int × Int) (fun zx => .tuple #[vI zx.1, .int .i64 zx.2]) (fun _ => []) (fun zx => R4 zx.1 ∧ zx = sIn (num (vI x3.2.1)) (num (vI x3.2.2.1)) (num (vI x4)))) ∧ (∃ zx : Int × Int, (fun zx => R4 zx.1 ∧ zx = sIn (num (vI x3.2.1)) (num (vI x3.2.2.1)) (num (vI x4))) zx) ∧ ∀ x16 : Int × Int, (R4 x16.1 ∧ x16 = sIn (num (vI x3.2.1)) (num (vI x3.2.2.1)) (num (vI x4))) → ∀ b17 : Nat, b17 = b17 ∧ (none : Option Nat) = none ∧ b17 = b17 ∧ (none : Option Nat) = none ∧ b17 = b17 ∧ (none : Option Nat) = none ∧ b17 = b17 ∧ (none : Option Nat) = none ∧ ((x16.2 != (0 : Int)) = true → (∃ _ : Unit, True ∧ Value.int .i64 (IntKind.i64.wrap (((x3.1 : Nat) : Int) + 1)) = .int .i64 (((x3.1 : Nat) : Int) + 1)) ∧ ∀ _ : Unit, (True) → ∃ zy : Nat × Int × Int × Nat × Nat, (zy.1 ≤ ls.length ∧ R4 zy.2.1 ∧ R4 zy.2.2.1 ∧ zy.2.2.1 ≤ zy.2.1) ∧ ls.length - zy.1 < ls.length - x3.1 ∧ Value.pointer (some ⟨x3.2.2.2.1, 0, none⟩) = .pointer (some ⟨zy.2.2.2.1, 0, none⟩) ∧ Value.pointer (some ⟨x3.2.2.2.2, 0, none⟩) = .pointer (some ⟨zy.2.2.2.2, 0, none⟩) ∧ l = l ∧ o = o ∧ l = l ∧ Value.int .i64 ((vlen l : Nat) : Int) = .int .i64 ((vlen l : Nat) : Int) ∧ Value.int .i64 (((x3.1 : Nat) : Int) + 1) = .int .i64 ((zy.1 : Nat) : Int) ∧ (old w) = (old w) ∧ Slot.blk x3.2.2.2.1 (.cells #[.int .u64 (lim x3.2.1 0), .int .u64 (lim x3.2.1 1), .int .u64 (lim x3.2.1 2), .int .u64 (lim x3.2.1 3)] 44 (0, 0)) = .blk zy.2.2.2.1 (.cells #[.int .u64 (lim zy.2.1 0), .int .u64 (lim zy.2.1 1), .int .u64 (lim zy.2.1 2), .int .u64 (lim zy.2.1 3)] 44 (0, 0)) ∧ Slot.blk x3.2.2.2.2 (.cells #[.int .u64 (lim x3.2.2.1 0), .int .u64 (lim x3.2.2.1 1), .int .u64 (lim x3.2.2.1 2), .int .u64 (lim x3.2.2.1 3)] 44 (0, 0)) = .blk zy.2.2.2.2 (.cells #[.int .u64 (lim zy.2.2.1 0), .int .u64 (lim zy.2.2.1 1), .int .u64 (lim zy.2.2.1 2), .int .u64 (lim zy.2.2.1 3)] 44 (0, 0)) ∧ True) ∧ ((x16.2 != (0 : Int)) = false → x3.2.2.2.1 = x3.2.2.2.1 ∧ (none : Option Nat) = none ∧ x3.2.2.2.1 = x3.2.2.2.1 ∧ (none : Option Nat) = none ∧ x3.2.2.2.1 = x3.2.2.2.1 ∧ (none : Option Nat) = none ∧ x3.2.2.2.1 = x3.2.2.2.1 ∧ (none : Option Nat) = none ∧ b5 = b5 ∧ (none : Option Nat) = none ∧ b5 = b5 ∧ (none : Option Nat) = none ∧ b5 = b5 ∧ (none : Option Nat) = none ∧ b5 = b5 ∧ (none : Option Nat) = none ∧ (CallT Try.prog 47 #[vI x3.2.1, vI x4] [] (Int × Int) (fun zx => .tuple #[vI zx.1, .int .i64 zx.2]) (fun _ => []) (fun zx => R4 zx.1 ∧ zx = hAdd (num (vI x3.2.1)) (num (vI x4)))) ∧ (∃ zx : Int × Int, (fun zx => R4 zx.1 ∧ zx = hAdd (num (vI x3.2.1)) (num (vI x4))) zx) ∧ ∀ x18 : Int × Int, (R4 x18.1 ∧ x18 = hAdd (num (vI x3.2.1)) (num (vI x4))) → x3.2.2.2.1 = x3.2.2.2.1 ∧ (none : Option Nat) = none ∧ x3.2.2.2.1 = x3.2.2.2.1 ∧ (none : Option Nat) = none ∧ x3.2.2.2.1 = x3.2.2.2.1 ∧ (none : Option Nat) = none ∧ x3.2.2.2.1 = x3.2.2.2.1 ∧ (none : Option Nat) = none ∧ (∃ _ : Unit, True ∧ Value.bool (x18.2 != (0 : Int)) = .bool false) ∧ ∀ _ : Unit, (True) → (false = false) ∧ x3.2.2.2.2 = x3.2.2.2.2 ∧ (none : Option Nat) = none ∧ x3.2.2.2.2 = x3.2.2.2.2 ∧ (none : Option Nat) = none ∧ x3.2.2.2.2 = x3.2.2.2.2 ∧ (none : Option Nat) = none ∧ x3.2.2.2.2 = x3.2.2.2.2 ∧ (none : Option Nat) = none ∧ b17 = b17 ∧ (none : Option Nat) = none ∧ b17 = b17 ∧ (none : Option Nat) = none ∧ b17 = b17 ∧ (none : Option Nat) = none ∧ b17 = b17 ∧ (none : Option Nat) = none ∧ (CallT Try.prog 47 #[vI x3.2.2.1, vI x16.1] [] (Int × Int) (fun zx => .tuple #[vI zx.1, .int .i64 zx.2]) (fun _ => []) (fun zx => R4 zx.1 ∧ zx = hAdd (num (vI x3.2.2.1)) (num (vI x16.1)))) ∧ (∃ zx : Int × Int, (fun zx => R4 zx.1 ∧ zx = hAdd (num (vI x3.2.2.1)) (num (vI x16.1))) zx) ∧ ∀ x19 : Int × Int, (R4 x19.1 ∧ x19 = hAdd (num (vI x3.2.2.1)) (num (vI x16.1))) → x3.2.2.2.2 = x3.2.2.2.2 ∧ (none : Option Nat) = none ∧ x3.2.2.2.2 = x3.2.2.2.2 ∧ (none : Option Nat) = none ∧ x3.2.2.2.2 = x3.2.2.2.2 ∧ (none : Option Nat) = none ∧ x3.2.2.2.2 = x3.2.2.2.2 ∧ (none : Option Nat) = none ∧ x3.2.2.2.2 = x3.2.2.2.2 ∧ (none : Option Nat) = none ∧ x3.2.2.2.2 = x3.2.2.2.2 ∧ (none : Option Nat) = none ∧ x3.2.2.2.2 = x3.2.2.2.2 ∧ (none : Option Nat) = none ∧ x3.2.2.2.2 = x3.2.2.2.2 ∧ (none : Option Nat) = none ∧ x3.2.2.2.1 = x3.2.2.2.1 ∧ (none : Option Nat) = none ∧ x3.2.2.2.1 = x3.2.2.2.1 ∧ (none : Option Nat) = none ∧ x3.2.2.2.1 = x3.2.2.2.1 ∧ (none : Option Nat) = none ∧ x3.2.2.2.1 = x3.2.2.2.1 ∧ (none : Option Nat) = none ∧ (CallT Try.prog 48 #[vI x19.1, vI x18.1] [] Unit (fun _ => .int .i64 (hCmp (num (vI x19.1)) (num (vI x18.1)))) (fun _ => []) (fun _ => True)) ∧ (∃ zx : Unit, (fun _ => True) zx) ∧ ∀ _ : Unit, (True) → (∃ _ : Unit, True ∧ Value.bool (decide ((hCmp (num (vI x19.1)) (num (vI x18.1))) > (0 : Int))) = .bool false) ∧ ∀ _ : Unit, (True) → false = false ∧ x3.2.2.2.1 = x3.2.2.2.1 ∧ (none : Option Nat) = none ∧ x3.2.2.2.1 = x3.2.2.2.1 ∧ (none : Option Nat) = none ∧ x3.2.2.2.1 = x3.2.2.2.1 ∧ (none : Option Nat) = none ∧ x3.2.2.2.1 = x3.2.2.2.1 ∧ (none : Option Nat) = none ∧ false = false ∧ x3.2.2.2.2 = x3.2.2.2.2 ∧ (none : Option Nat) = none ∧ x3.2.2.2.2 = x3.2.2.2.2 ∧ (none : Option Nat) = none ∧ x3.2.2.2.2 = x3.2.2.2.2 ∧ (none : Option Nat) = none ∧ x3.2.2.2.2 = x3.2.2.2.2 ∧ (none : Option Nat) = none ∧ false = false ∧ b6 = b6 ∧ (none : Option Nat) = none ∧ b6 = b6 ∧ (none : Option Nat) = none ∧ b6 = b6 ∧ (none : Option Nat) = none ∧ b6 = b6 ∧ (none : Option Nat) = none ∧ false = false ∧ b7 = b7 ∧ (none : Option Nat) = none ∧ b7 = b7 ∧ (none : Option Nat) = none ∧ b7 = b7 ∧ (none : Option Nat) = none ∧ b7 = b7 ∧ (none : Option Nat) = none ∧ false = false ∧ (CallT Try.prog 55 #[vI x18.1, vI x19.1, vI x3.2.1, vI x3.2.2.1] [] Bool (fun zx => .bool zx) (fun _ => []) (fun zx => zx = decide (((num (vI x3.2.1)) + 1) * ((num (vI x19.1)) + 1) ≤ ((num (vI x18.1)) + 1) * ((num (vI x3.2.2.1)) + 1)))) ∧ (∃ zx : Bool, (fun zx => zx = decide (((num (vI x3.2.1)) + 1) * ((num (vI x19.1)) + 1) ≤ ((num (vI x18.1)) + 1) * ((num (vI x3.2.2.1)) + 1))) zx) ∧ ∀ x20 : Bool, (x20 = decide (((num (vI x3.2.1)) + 1) * ((num (vI x19.1)) + 1) ≤ ((num (vI x18.1)) + 1) * ((num (vI x3.2.2.1)) + 1))) → false = false ∧ (∃ _ : Unit, True ∧ Value.bool (!x20) = .bool false) ∧ ∀ _ : Unit, (True) → (false = false) ∧ x3.2.2.2.2 = x3.2.2.2.2 ∧ (none : Option Nat) = none ∧ x3.2.2.2.2 = x3.2.2.2.2 ∧ (none : Option Nat) = none ∧ x3.2.2.2.2 = x3.2.2.2.2 ∧ (none : Option Nat) = none ∧ x3.2.2.2.2 = x3.2.2.2.2 ∧ (none : Option Nat) = none ∧ (PureRun Try.prog (xBin .eql 44 (vI x19.1) (vI 0)) (.bool (num (vI x19.1) == num (vI 0)))) ∧ ((num (vI x19.1) == num (vI 0)) = true → (∃ _ : Unit, True ∧ Value.int .i64 (IntKind.i64.wrap (((x3.1 : Nat) : Int) + 1)) = .int .i64 (((x3.1 : Nat) : Int) + 1)) ∧ ∀ _ : Unit, (True) → ∃ zy : Nat × Int × Int × Nat × Nat, (zy.1 ≤ ls.length ∧ R4 zy.2.1 ∧ R4 zy.2.2.1 ∧ zy.2.2.1 ≤ zy.2.1) ∧ ls.length - zy.1 < ls.length - x3.1 ∧ Value.pointer (some ⟨x3.2.2.2.1, 0, none⟩) = .pointer (some ⟨zy.2.2.2.1, 0, none⟩) ∧ Value.pointer (some ⟨x3.2.2.2.2, 0, none⟩) = .pointer (some ⟨zy.2.2.2.2, 0, none⟩) ∧ l = l ∧ o = o ∧ l = l ∧ Value.int .i64 ((vlen l : Nat) : Int) = .int .i64 ((vlen l : Nat) : Int) ∧ Value.int .i64 (((x3.1 : Nat) : Int) + 1) = .int .i64 ((zy.1 : Nat) : Int) ∧ (old w) = (old w) ∧ Slot.blk x3.2.2.2.1 (.cells #[.int .u64 (lim x18.1 0), .int .u64 (lim x18.1 1), .int .u64 (lim x18.1 2), .int .u64 (lim x18.1 3)] 44 (0, 0)) = .blk zy.2.2.2.1 (.cells #[.int .u64 (lim zy.2.1 0), .int .u64 (lim zy.2.1 1), .int .u64 (lim zy.2.1 2), .int .u64 (lim zy.2.1 3)] 44 (0, 0)) ∧ Slot.blk x3.2.2.2.2 (.cells #[.int .u64 (lim x19.1 0), .int .u64 (lim x19.1 1), .int .u64 (lim x19.1 2), .int .u64 (lim x19.1 3)] 44 (0, 0)) = .blk zy.2.2.2.2 (.cells #[.int .u64 (lim zy.2.2.1 0), .int .u64 (lim zy.2.2.1 1), .int .u64 (lim zy.2.2.1 2), .int .u64 (lim zy.2.2.1 3)] 44 (0, 0)) ∧ True) ∧ ((num (vI x19.1) == num (vI 0)) = false → x3.2.2.2.1 = x3.2.2.2.1 ∧ (none : Option Nat) = none ∧ x3.2.2.2.1 = x3.2.2.2.1 ∧ (none : Option Nat) = none ∧ x3.2.2.2.1 = x3.2.2.2.1 ∧ (none : Option Nat) = none ∧ x3.2.2.2.1 = x3.2.2.2.1 ∧ (none : Option Nat) = none ∧ x3.2.2.2.2 = x3.2.2.2.2 ∧ (none : Option Nat) = none ∧ x3.2.2.2.2 = x3.2.2.2.2 ∧ (none : Option Nat) = none ∧ x3.2.2.2.2 = x3.2.2.2.2 ∧ (none : Option Nat) = none ∧ x3.2.2.2.2 = x3.2.2.2.2 ∧ (none : Option Nat) = none ∧ x3.2.2.2.2 = x3.2.2.2.2 ∧ (none : Option Nat) = none ∧ x3.2.2.2.2 = x3.2.2.2.2 ∧ (none : Option Nat) = none ∧ x3.2.2.2.2 = x3.2.2.2.2 ∧ (none : Option Nat) = none ∧ x3.2.2.2.2 = x3.2.2.2.2 ∧ (none : Option Nat) = none ∧ (CallT Try.prog 52 #[vI x18.1, vI x19.1, vI x19.1] [] (Int × Int) (fun zx => .tuple #[vI zx.1, .int .i64 zx.2]) (fun _ => []) (fun zx => R4 zx.1 ∧ zx = sOut (num (vI x18.1)) (num (vI x19.1)) (num (vI x19.1)))) ∧ (∃ zx : Int × Int, (fun zx => R4 zx.1 ∧ zx = sOut (num (vI x18.1)) (num (vI x19.1)) (num (vI x19.1))) zx) ∧ ∀ x21 : Int × Int, (R4 x21.1 ∧ x21 = sOut (num (vI x18.1)) (num (vI x19.1)) (num (vI x19.1))) → ∀ b22 : Nat, b22 = b22 ∧ (none : Option Nat) = none ∧ b22 = b22 ∧ (none : Option Nat) = none ∧ b22 = b22 ∧ (none : Option Nat) = none ∧ b22 = b22 ∧ (none : Option Nat) = none ∧ ((x21.2 != (2 : Int)) = true → (∃ _ : Unit, True ∧ Value.bool (x21.2 != (2 : Int)) = .bool true) ∧ ∀ _ : Unit, (True) → true = true ∧ true = true ∧ (∃ _ : Unit, True ∧ Value.bool (x21.2 != (0 : Int)) = .bool false) ∧ ∀ _ : Unit, (True) → true = true ∧ false = false ∧ b22 = b22 ∧ (none : Option Nat) = none ∧ b22 = b22 ∧ (none : Option Nat) = none ∧ b22 = b22 ∧ (none : Option Nat) = none ∧ b22 = b22 ∧ (none : Option Nat) = none ∧ false = false ∧ x3.2.2.2.1 = x3.2.2.2.1 ∧ (none : Option Nat) = none ∧ x3.2.2.2.1 = x3.2.2.2.1 ∧ (none : Option Nat) = none ∧ x3.2.2.2.1 = x3.2.2.2.1 ∧ (none : Option Nat) = none ∧ x3.2.2.2.1 = x3.2.2.2.1 ∧ (none : Option Nat) = none ∧ false = false ∧ (CallT Try.prog 48 #[vI x21.1, vI x18.1] [] Unit (fun _ => .int .i64 (hCmp (num (vI x21.1)) (num (vI x18.1)))) (fun _ => []) (fun _ => True)) ∧ (∃ zx : Unit, (fun _ => True) zx) ∧ ∀ _ : Unit, (True) → false = false ∧ (∃ _ : Unit, True ∧ Value.bool (decide ((hCmp (num (vI x21.1)) (num (vI x18.1))) > (0 : Int))) = .bool false) ∧ ∀ _ : Unit, (True) → true = true ∧ (false = false) ∧ (∃ _ : Unit, True ∧ Value.int .i64 (IntKind.i64.wrap (((x3.1 : Nat) : Int) + 1)) = .int .i64 (((x3.1 : Nat) : Int) + 1)) ∧ ∀ _ : Unit, (True) → ∃ zy : Nat × Int × Int × Nat × Nat, (zy.1 ≤ ls.length ∧ R4 zy.2.1 ∧ R4 zy.2.2.1 ∧ zy.2.2.1 ≤ zy.2.1) ∧ ls.length - zy.1 < ls.length - x3.1 ∧ Value.pointer (some ⟨x3.2.2.2.1, 0, none⟩) = .pointer (some ⟨zy.2.2.2.1, 0, none⟩) ∧ Value.pointer (some ⟨x3.2.2.2.2, 0, none⟩) = .pointer (some ⟨zy.2.2.2.2, 0, none⟩) ∧ l = l ∧ o = o ∧ l = l ∧ Value.int .i64 ((vlen l : Nat) : Int) = .int .i64 ((vlen l : Nat) : Int) ∧ Value.int .i64 (((x3.1 : Nat) : Int) + 1) = .int .i64 ((zy.1 : Nat) : Int) ∧ (old w) = (old w) ∧ Slot.blk x3.2.2.2.1 (.cells #[.int .u64 (lim x18.1 0), .int .u64 (lim x18.1 1), .int .u64 (lim x18.1 2), .int .u64 (lim x18.1 3)] 44 (0, 0)) = .blk zy.2.2.2.1 (.cells #[.int .u64 (lim zy.2.1 0), .int .u64 (lim zy.2.1 1), .int .u64 (lim zy.2.1 2), .int .u64 (lim zy.2.1 3)] 44 (0, 0)) ∧ Slot.blk x3.2.2.2.2 (.cells #[.int .u64 (lim x19.1 0), .int .u64 (lim x19.1 1), .int .u64 (lim x19.1 2), .int .u64 (lim x19.1 3)] 44 (0, 0)) = .blk zy.2.2.2.2 (.cells #[.int .u64 (lim zy.2.2.1 0), .int .u64 (lim zy.2.2.1 1), .int .u64 (lim zy.2.2.1 2), .int .u64 (lim zy.2.2.1 3)] 44 (0, 0)) ∧ True) ∧ ((x21.2 != (2 : Int)) = false → (∃ _ : Unit, True ∧ Value.bool (x21.2 != (2 : Int)) = .bool false) ∧ ∀ _ : Unit, (True) → false = !true ∧ false = !true ∧ false = !true ∧ false = !true ∧ (false = false) ∧ (∃ _ : Unit, True ∧ Value.int .i64 (IntKind.i64.wrap (((x3.1 : Nat) : Int) + 1)) = .int .i64 (((x3.1 : Nat) : Int) + 1)) ∧ ∀ _ : Unit, (True) → ∃ zy : Nat × Int × Int × Nat × Nat, (zy.1 ≤ ls.length ∧ R4 zy.2.1 ∧ R4 zy.2.2.1 ∧ zy.2.2.1 ≤ zy.2.1) ∧ ls.length - zy.1 < ls.length - x3.1 ∧ Value.pointer (some ⟨x3.2.2.2.1, 0, none⟩) = .pointer (some ⟨zy.2.2.2.1, 0, none⟩) ∧ Value.pointer (some ⟨x3.2.2.2.2, 0, none⟩) = .pointer (some ⟨zy.2.2.2.2, 0, none⟩) ∧ l = l ∧ o = o ∧ l = l ∧ Value.int .i64 ((vlen l : Nat) : Int) = .int .i64 ((vlen l : Nat) : Int) ∧ Value.int .i64 (((x3.1 : Nat) : Int) + 1) = .int .i64 ((zy.1 : Nat) : Int) ∧ (old w) = (old w) ∧ Slot.blk x3.2.2.2.1 (.cells #[.int .u64 (lim x18.1 0), .int .u64 (lim x18.1 1), .int .u64 (lim x18.1 2), .int .u64 (lim x18.1 3)] 44 (0, 0)) = .blk zy.2.2.2.1 (.cells #[.int .u64 (lim zy.2.1 0), .int .u64 (lim zy.2.1 1), .int .u64 (lim zy.2.1 2), .int .u64 (lim zy.2.1 3)] 44 (0, 0)) ∧ Slot.blk x3.2.2.2.2 (.cells #[.int .u64 (lim x19.1 0), .int .u64 (lim x19.1 1), .int .u64 (lim x19.1 2), .int .u64 (lim x19.1 3)] 44 (0, 0)) = .blk zy.2.2.2.2 (.cells #[.int .u64 (lim zy.2.2.1 0), .int .u64 (lim zy.2.2.1 1), .int .u64 (lim zy.2.2.1 2), .int .u64 (lim zy.2.2.1 3)] 44 (0, 0)) ∧ True))))) ∧ ((decide (((x3.1 : Nat) : Int) < ((vlen l : Nat) : Int))) = false → ∃ _ : Unit, (True) ∧ Value.bool true = .bool true ∧ (old w) = (old w) ∧ True)))) := by kernel_rfl
end Go.Proofs
