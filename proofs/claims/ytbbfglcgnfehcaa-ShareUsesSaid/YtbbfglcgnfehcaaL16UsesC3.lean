/- Contracts of this program's functions, and their proofs, printed by a program of the prover's own (see the claim's other texts for what the words mean). -/
import Derived.Test.YtbbfglcgnfehcaaL16UsesC2
set_option linter.unusedVariables false
set_option linter.unusedSimpArgs false
namespace Go.Proofs
open Go.Sx
set_option maxRecDepth 100000 in
set_option maxHeartbeats 4000000 in
theorem wide_Divide (n : Int) (d : Int) (r_n : R8 n) (r_d : R4 d) : CallT Try.prog 28 #[vW n, vI d] [] (Int × Int × Int) (fun zx => .tuple #[vW zx.1, vI zx.2.1, .int .i64 zx.2.2]) (fun zx => []) (fun zx => (R8 zx.1 ∧ R4 zx.2.1 ∧ zx = wDiv (num (vW n)) (num (vI d)))) := by
  refine call_of (c := bodyOf Try.f28) (n := 83) (fn := Try.f28) Try.mixed Try.func28 (by kernel_rfl) (by kernel_rfl) (by kernel_rfl) 2000 _ [.rd 2, .rd 2, .rd 2, .rd 2, .rd 2, .rd 2, .rd 2, .rd 2, .rd 3, .rd 3, .rd 3, .rd 3] [] rfl rfl (Eq.mpr (wide_Divide_vc n d) ?_)
  intro b1
  intro b2
  intro b3
  intro b4
  refine ⟨rfl, rfl, rfl, rfl, rfl, rfl, rfl, ?_⟩
  refine ⟨fun h1 => ?_, fun h1 => ?_⟩
  · refine ⟨rfl, rfl, rfl, rfl, rfl, rfl, rfl, ?_⟩
    refine ⟨fun h2 => ?_, fun h2 => ?_⟩
    · refine ⟨rfl, rfl, rfl, rfl, rfl, rfl, rfl, ?_⟩
      refine ⟨fun h3 => ?_, fun h3 => ?_⟩
      · refine ⟨rfl, rfl, rfl, rfl, rfl, rfl, rfl, ?_⟩
        refine ⟨fun h4 => ?_, fun h4 => ?_⟩
        · refine ⟨rfl, rfl, rfl, rfl, rfl, ?_⟩
          refine ⟨rfl, ?_⟩
          refine ⟨rfl, ?_⟩
          refine ⟨rfl, rfl, rfl, rfl, rfl, rfl, rfl, rfl, rfl, rfl, rfl, rfl, rfl, rfl, rfl, rfl, rfl, rfl, rfl, rfl, rfl, rfl, rfl, rfl, rfl, rfl, rfl, rfl, rfl, rfl, rfl, rfl, rfl, rfl, rfl, rfl, rfl, rfl, rfl, rfl, rfl, rfl, rfl, rfl, rfl, rfl, rfl, rfl, ?_⟩
          refine ⟨rfl, rfl, rfl, rfl, rfl, rfl, rfl, rfl, rfl, rfl, rfl, rfl, rfl, rfl, rfl, rfl, rfl, rfl, rfl, rfl, rfl, rfl, rfl, rfl, ?_⟩
          have hd : d = 0 := by
            have e := lims d
            rw [num_vI r_d] at e
            simp only [beq_iff_eq] at *
            omega
          exact fin3 (by rw [num_vI r_d, hd]; rfl) ⟨by decide, by decide⟩ R4_zero vW_zero vI_zero
        · refine ⟨rfl, ?_⟩
          refine ⟨rfl, rfl, limb_Len (lim d 0) (by first | assumption | exact W_lim _ _ | (unfold W; decide)), ⟨(), trivial⟩, ?_⟩
          intro _
          intro _
          refine ⟨⟨(), trivial, congrArg (Value.int .i64) (nrm_s (W_lim _ _) (by assumption))⟩, ?_⟩
          intro _
          intro _
          intro b5
          intro b6
          refine ⟨wide_up98 b5 b1 (lim n 0) (lim n 1) (lim n 2) (lim n 3) (lim n 4) (lim n 5) (lim n 6) (lim n 7) ((nrm (lim d 0) : Nat) : Int) (nrm_0 _) (nrm_63 (W_lim _ _) (by assumption)) (W_lim _ _) (W_lim _ _) (W_lim _ _) (W_lim _ _) (W_lim _ _) (W_lim _ _) (W_lim _ _) (W_lim _ _), wit_up98 (nrm_0 _) (nrm_63 (W_lim _ _) (by assumption)) (W_lim _ _) (W_lim _ _) (W_lim _ _) (W_lim _ _) (W_lim _ _) (W_lim _ _) (W_lim _ _) (W_lim _ _), ?_⟩
          intro x7
          intro h5
          obtain ⟨E, wx0, wx1, wx2, wx3, wx4, wx5, wx6, wx7, wx8⟩ := h5
          refine ⟨wide_up1 b6 b2 (lim d 0) (lim d 1) (lim d 2) (lim d 3) ((nrm (lim d 0) : Nat) : Int) (nrm_0 _) (nrm_63 (W_lim _ _) (by assumption)) (W_lim _ _), wit_up1 (nrm_0 _) (nrm_63 (W_lim _ _) (by assumption)) (W_lim _ _), ?_⟩
          intro x8
          intro h6
          obtain ⟨F, wz0⟩ := h6
          obtain ⟨N1, N2, N3⟩ := norm1 (W_lim _ _) (by assumption) wz0  F
          obtain ⟨p, q, hp', hq', hp, hq, hpq, hp2, ht, h0, e1, e2⟩ := nrm_top (W_lim d 0) (by assumption)
          have n63 := nrm_63 (W_lim d 0) (by assumption)
          rw [e1, lims8 r_n] at E
          rw [← hp'] at N1
          have hVk : x8 < 18446744073709551616 := by unfold W at wz0; omega
          have V0 : 0 < x8 := by omega
          have hlt7 := first1 r_n hp hp2 wx0 wx1 wx2 wx3 wx4 wx5 wx6 wx7 wx8 E N2
          refine ⟨rfl, ?_⟩
          refine ⟨wide_step1 b5 (#[.int .u64 x7.1, .int .u64 x7.2.1, .int .u64 x7.2.2.1, .int .u64 x7.2.2.2.1, .int .u64 x7.2.2.2.2.1, .int .u64 x7.2.2.2.2.2.1, .int .u64 x7.2.2.2.2.2.2.1, .int .u64 x7.2.2.2.2.2.2.2.1, .int .u64 x7.2.2.2.2.2.2.2.2]) 7 2 x7.2.2.2.2.2.2.2.1 x7.2.2.2.2.2.2.2.2 b6 x8 (Nat.le_of_ble_eq_true rfl) (rfl) (rfl) (by assumption) (by assumption) (by assumption) (hlt7) (N3), wit_step1 (nn2 (by assumption) (by assumption)) hlt7 V0 hVk, ?_⟩
          intro x9
          intro h7
          obtain ⟨h7, h7_0, h7_1⟩ := h7
          have A7 := h7.eq
          obtain ⟨hu6, hlt6⟩ := next1 (x := x7.2.2.2.2.2.2.1) h7 wx6 h7_0 h7_1 hVk
          have wqh7 := h7.wq
          refine ⟨rfl, rfl, ?_⟩
          refine ⟨rfl, ?_⟩
          refine ⟨wide_step1 b5 (#[.int .u64 x7.1, .int .u64 x7.2.1, .int .u64 x7.2.2.1, .int .u64 x7.2.2.2.1, .int .u64 x7.2.2.2.2.1, .int .u64 x7.2.2.2.2.2.1, .int .u64 x7.2.2.2.2.2.2.1, .int .u64 x9.2.1, .int .u64 x9.2.2]) 6 3 x7.2.2.2.2.2.2.1 x9.2.1 b6 x8 (Nat.le_of_ble_eq_true rfl) (rfl) (rfl) (by assumption) (by assumption) (by assumption) (hlt6) (N3), wit_step1 (nn2 (by assumption) (by assumption)) hlt6 V0 hVk, ?_⟩
          intro x10
          intro h8
          obtain ⟨h8, h8_0, h8_1⟩ := h8
          rw [hu6] at h8
          have A6 := chain_step A7 h8
          obtain ⟨hu5, hlt5⟩ := next1 (x := x7.2.2.2.2.2.1) h8 wx5 h8_0 h8_1 hVk
          have wqh8 := h8.wq
          refine ⟨rfl, rfl, ?_⟩
          refine ⟨rfl, ?_⟩
          refine ⟨wide_step1 b5 (#[.int .u64 x7.1, .int .u64 x7.2.1, .int .u64 x7.2.2.1, .int .u64 x7.2.2.2.1, .int .u64 x7.2.2.2.2.1, .int .u64 x7.2.2.2.2.2.1, .int .u64 x10.2.1, .int .u64 x10.2.2, .int .u64 x9.2.2]) 5 4 x7.2.2.2.2.2.1 x10.2.1 b6 x8 (Nat.le_of_ble_eq_true rfl) (rfl) (rfl) (by assumption) (by assumption) (by assumption) (hlt5) (N3), wit_step1 (nn2 (by assumption) (by assumption)) hlt5 V0 hVk, ?_⟩
          intro x11
          intro h9
          obtain ⟨h9, h9_0, h9_1⟩ := h9
          rw [hu5] at h9
          have A5 := chain_step A6 h9
          obtain ⟨hu4, hlt4⟩ := next1 (x := x7.2.2.2.2.1) h9 wx4 h9_0 h9_1 hVk
          have wqh9 := h9.wq
          refine ⟨rfl, rfl, ?_⟩
          refine ⟨rfl, ?_⟩
          refine ⟨wide_step1 b5 (#[.int .u64 x7.1, .int .u64 x7.2.1, .int .u64 x7.2.2.1, .int .u64 x7.2.2.2.1, .int .u64 x7.2.2.2.2.1, .int .u64 x11.2.1, .int .u64 x11.2.2, .int .u64 x10.2.2, .int .u64 x9.2.2]) 4 5 x7.2.2.2.2.1 x11.2.1 b6 x8 (Nat.le_of_ble_eq_true rfl) (rfl) (rfl) (by assumption) (by assumption) (by assumption) (hlt4) (N3), wit_step1 (nn2 (by assumption) (by assumption)) hlt4 V0 hVk, ?_⟩
          intro x12
          intro h10
          obtain ⟨h10, h10_0, h10_1⟩ := h10
          rw [hu4] at h10
          have A4 := chain_step A5 h10
          obtain ⟨hu3, hlt3⟩ := next1 (x := x7.2.2.2.1) h10 wx3 h10_0 h10_1 hVk
          have wqh10 := h10.wq
          refine ⟨rfl, rfl, ?_⟩
          refine ⟨rfl, ?_⟩
          refine ⟨wide_step1 b5 (#[.int .u64 x7.1, .int .u64 x7.2.1, .int .u64 x7.2.2.1, .int .u64 x7.2.2.2.1, .int .u64 x12.2.1, .int .u64 x12.2.2, .int .u64 x11.2.2, .int .u64 x10.2.2, .int .u64 x9.2.2]) 3 6 x7.2.2.2.1 x12.2.1 b6 x8 (Nat.le_of_ble_eq_true rfl) (rfl) (rfl) (by assumption) (by assumption) (by assumption) (hlt3) (N3), wit_step1 (nn2 (by assumption) (by assumption)) hlt3 V0 hVk, ?_⟩
          intro x13
          intro h11
          obtain ⟨h11, h11_0, h11_1⟩ := h11
          rw [hu3] at h11
          have A3 := chain_step A4 h11
          obtain ⟨hu2, hlt2⟩ := next1 (x := x7.2.2.1) h11 wx2 h11_0 h11_1 hVk
          have wqh11 := h11.wq
          refine ⟨rfl, rfl, ?_⟩
          refine ⟨rfl, ?_⟩
          refine ⟨wide_step1 b5 (#[.int .u64 x7.1, .int .u64 x7.2.1, .int .u64 x7.2.2.1, .int .u64 x13.2.1, .int .u64 x13.2.2, .int .u64 x12.2.2, .int .u64 x11.2.2, .int .u64 x10.2.2, .int .u64 x9.2.2]) 2 7 x7.2.2.1 x13.2.1 b6 x8 (Nat.le_of_ble_eq_true rfl) (rfl) (rfl) (by assumption) (by assumption) (by assumption) (hlt2) (N3), wit_step1 (nn2 (by assumption) (by assumption)) hlt2 V0 hVk, ?_⟩
          intro x14
          intro h12
          obtain ⟨h12, h12_0, h12_1⟩ := h12
          rw [hu2] at h12
          have A2 := chain_step A3 h12
          obtain ⟨hu1, hlt1⟩ := next1 (x := x7.2.1) h12 wx1 h12_0 h12_1 hVk
          have wqh12 := h12.wq
          refine ⟨rfl, rfl, ?_⟩
          refine ⟨rfl, ?_⟩
          refine ⟨wide_step1 b5 (#[.int .u64 x7.1, .int .u64 x7.2.1, .int .u64 x14.2.1, .int .u64 x14.2.2, .int .u64 x13.2.2, .int .u64 x12.2.2, .int .u64 x11.2.2, .int .u64 x10.2.2, .int .u64 x9.2.2]) 1 8 x7.2.1 x14.2.1 b6 x8 (Nat.le_of_ble_eq_true rfl) (rfl) (rfl) (by assumption) (by assumption) (by assumption) (hlt1) (N3), wit_step1 (nn2 (by assumption) (by assumption)) hlt1 V0 hVk, ?_⟩
          intro x15
          intro h13
          obtain ⟨h13, h13_0, h13_1⟩ := h13
          rw [hu1] at h13
          have A1 := chain_step A2 h13
          obtain ⟨hu0, hlt0⟩ := next1 (x := x7.1) h13 wx0 h13_0 h13_1 hVk
          have wqh13 := h13.wq
          refine ⟨rfl, rfl, ?_⟩
          refine ⟨rfl, ?_⟩
          refine ⟨wide_step1 b5 (#[.int .u64 x7.1, .int .u64 x15.2.1, .int .u64 x15.2.2, .int .u64 x14.2.2, .int .u64 x13.2.2, .int .u64 x12.2.2, .int .u64 x11.2.2, .int .u64 x10.2.2, .int .u64 x9.2.2]) 0 9 x7.1 x15.2.1 b6 x8 (Nat.le_of_ble_eq_true rfl) (rfl) (rfl) (by assumption) (by assumption) (by assumption) (hlt0) (N3), wit_step1 (nn2 (by assumption) (by assumption)) hlt0 V0 hVk, ?_⟩
          intro x16
          intro h14
          obtain ⟨h14, h14_0, h14_1⟩ := h14
          rw [hu0] at h14
          have A0 := chain_step A1 h14
          have wqh14 := h14.wq
          refine ⟨rfl, rfl, ?_⟩
          refine ⟨rfl, ?_⟩
          refine ⟨rfl, ?_⟩
          refine ⟨rfl, rfl, xshr (by omega), rfl, rfl, ⟨(), trivial, congrArg (Value.int .i64) (wrap_i64 _ (by omega) (by omega))⟩, ?_⟩
          intro _
          intro _
          refine ⟨xshl (by omega), rfl, rfl, ?_⟩
          refine ⟨rfl, ?_⟩
          refine ⟨rfl, rfl, rfl, rfl, rfl, rfl, rfl, rfl, rfl, rfl, rfl, rfl, rfl, rfl, rfl, rfl, rfl, rfl, rfl, rfl, rfl, rfl, rfl, rfl, rfl, rfl, rfl, rfl, rfl, rfl, rfl, rfl, rfl, rfl, rfl, rfl, rfl, rfl, rfl, rfl, rfl, rfl, rfl, rfl, rfl, rfl, rfl, rfl, ?_⟩
          refine ⟨rfl, rfl, rfl, rfl, rfl, rfl, rfl, rfl, rfl, rfl, rfl, rfl, rfl, rfl, rfl, rfl, rfl, rfl, rfl, rfl, rfl, rfl, rfl, rfl, ?_⟩
          have hD : lim d 0 = d := by
            have e := lims d
            rw [num_vI r_d] at e
            simp only [beq_iff_eq, beq_eq_false_iff_ne] at *
            omega
          rw [hD] at N1
          have A : ((x16.1 + 18446744073709551616 * (x15.1 + 18446744073709551616 * (x14.1 + 18446744073709551616 * (x13.1 + 18446744073709551616 * (x12.1 + 18446744073709551616 * (x11.1 + 18446744073709551616 * (x10.1 + 18446744073709551616 * x9.1)))))))) * (x8) + (x16.2.1 + 18446744073709551616 * x16.2.2) = n * p := by rw [← E]; rw [A0]; omega
          obtain ⟨G1, G2, G3⟩ := div_end A N1 h14.r0 h14.r1 hp
          have G4 := rest1 hp hq hpq hVk h14_0 h14_1 G2 h14.r1
          have c0 := down_or (x := x16.2.1) (y := x16.2.2) (s := ((nrm (lim d 0) : Nat) : Int)) (nrm_0 _) (nrm_63 (W_lim _ _) (by assumption)) h14_0 h14_1
          rw [e1, e2] at c0
          have cw0 := down_W (y := x16.2.2) hp hq hpq h14_0
          have W0 : W 0 := by unfold W; decide
          have Hq : num (.agg #[.int .u64 x16.1, .int .u64 x15.1, .int .u64 x14.1, .int .u64 x13.1, .int .u64 x12.1, .int .u64 x11.1, .int .u64 x10.1, .int .u64 x9.1]) = n / d := by rw [G1, num8]; omega
          have Hr : num (.agg #[.int .u64 (x16.2.1 / p + x16.2.2 * q % 18446744073709551616), .int .u64 0, .int .u64 0, .int .u64 0]) = n % d := by rw [← G4, num4]; omega
          have Hv := vW_num8 (show W x16.1 by first | assumption | exact W0) (show W x15.1 by first | assumption | exact W0) (show W x14.1 by first | assumption | exact W0) (show W x13.1 by first | assumption | exact W0) (show W x12.1 by first | assumption | exact W0) (show W x11.1 by first | assumption | exact W0) (show W x10.1 by first | assumption | exact W0) (show W x9.1 by first | assumption | exact W0)
          have Hw := vI_num4 cw0 W0 W0 W0
          rw [Hq] at Hv
          rw [Hr] at Hw
          refine fin3 (n := n / d) (r := n % d) (by rw [num_vW r_n, num_vI r_d]; unfold wDiv; rw [if_neg G3]) (Hq ▸ R8_num8 (by first | assumption | exact W0) (by first | assumption | exact W0) (by first | assumption | exact W0) (by first | assumption | exact W0) (by first | assumption | exact W0) (by first | assumption | exact W0) (by first | assumption | exact W0) (by first | assumption | exact W0)) (Hr ▸ R4_num4 cw0 W0 W0 W0) Hv ?_
          rw [Hw, c0]
      · refine ⟨rfl, ?_⟩
        refine ⟨rfl, rfl, limb_Len (lim d 1) (by first | assumption | exact W_lim _ _ | (unfold W; decide)), ⟨(), trivial⟩, ?_⟩
        intro _
        intro _
        refine ⟨⟨(), trivial, congrArg (Value.int .i64) (nrm_s (W_lim _ _) (by assumption))⟩, ?_⟩
        intro _
        intro _
        intro b17
        intro b18
        refine ⟨wide_up98 b17 b1 (lim n 0) (lim n 1) (lim n 2) (lim n 3) (lim n 4) (lim n 5) (lim n 6) (lim n 7) ((nrm (lim d 1) : Nat) : Int) (nrm_0 _) (nrm_63 (W_lim _ _) (by assumption)) (W_lim _ _) (W_lim _ _) (W_lim _ _) (W_lim _ _) (W_lim _ _) (W_lim _ _) (W_lim _ _) (W_lim _ _), wit_up98 (nrm_0 _) (nrm_63 (W_lim _ _) (by assumption)) (W_lim _ _) (W_lim _ _) (W_lim _ _) (W_lim _ _) (W_lim _ _) (W_lim _ _) (W_lim _ _) (W_lim _ _), ?_⟩
        intro x19
        intro h15
        obtain ⟨E, wx0, wx1, wx2, wx3, wx4, wx5, wx6, wx7, wx8⟩ := h15
        refine ⟨wide_up2 b18 b2 (lim d 0) (lim d 1) (lim d 2) (lim d 3) ((nrm (lim d 1) : Nat) : Int) (nrm_0 _) (nrm_63 (W_lim _ _) (by assumption)) (W_lim _ _) (W_lim _ _), wit_up2 (nrm_0 _) (nrm_63 (W_lim _ _) (by assumption)) (W_lim _ _) (W_lim _ _), ?_⟩
        intro x20
        intro h16
        obtain ⟨F, wz0, wz1⟩ := h16
        obtain ⟨N1, N2, N3⟩ := norm2 (W_lim _ _) (by assumption) wz0 wz1 (W_lim _ _) F
        obtain ⟨p, q, hp', hq', hp, hq, hpq, hp2, ht, h0, e1, e2⟩ := nrm_top (W_lim d 1) (by assumption)
        have n63 := nrm_63 (W_lim d 1) (by assumption)
        rw [e1, lims8 r_n] at E
        rw [← hp'] at N1
        have hVk : x20.1 + 18446744073709551616 * x20.2 < 340282366920938463463374607431768211456 := by unfold W at wz0 wz1; omega
        have V0 : 0 < x20.1 + 18446744073709551616 * x20.2 := by omega
        have hlt6 := first2 r_n hp hp2 wx0 wx1 wx2 wx3 wx4 wx5 wx6 wx7 wx8 E N2
        refine ⟨rfl, ?_⟩
        refine ⟨wide_step2 b17 (#[.int .u64 x19.1, .int .u64 x19.2.1, .int .u64 x19.2.2.1, .int .u64 x19.2.2.2.1, .int .u64 x19.2.2.2.2.1, .int .u64 x19.2.2.2.2.2.1, .int .u64 x19.2.2.2.2.2.2.1, .int .u64 x19.2.2.2.2.2.2.2.1, .int .u64 x19.2.2.2.2.2.2.2.2]) 6 3 x19.2.2.2.2.2.2.1 x19.2.2.2.2.2.2.2.1 x19.2.2.2.2.2.2.2.2 b18 x20.1 x20.2 (Nat.le_of_ble_eq_true rfl) (rfl) (rfl) (rfl) (by assumption) (by assumption) (by assumption) (by assumption) (by assumption) (hlt6) (N3), wit_step2 (nn3 (by assumption) (by assumption) (by assumption)) hlt6 V0 hVk, ?_⟩
        intro x21
        intro h17
        obtain ⟨h17, h17_0, h17_1, h17_2⟩ := h17
        have A6 := h17.eq
        obtain ⟨hu5, hlt5⟩ := next2 (x := x19.2.2.2.2.2.1) h17 wx5 h17_0 h17_1 h17_2 hVk
        have wqh17 := h17.wq
        refine ⟨rfl, rfl, ?_⟩
        refine ⟨rfl, ?_⟩
        refine ⟨wide_step2 b17 (#[.int .u64 x19.1, .int .u64 x19.2.1, .int .u64 x19.2.2.1, .int .u64 x19.2.2.2.1, .int .u64 x19.2.2.2.2.1, .int .u64 x19.2.2.2.2.2.1, .int .u64 x21.2.1, .int .u64 x21.2.2.1, .int .u64 x21.2.2.2]) 5 4 x19.2.2.2.2.2.1 x21.2.1 x21.2.2.1 b18 x20.1 x20.2 (Nat.le_of_ble_eq_true rfl) (rfl) (rfl) (rfl) (by assumption) (by assumption) (by assumption) (by assumption) (by assumption) (hlt5) (N3), wit_step2 (nn3 (by assumption) (by assumption) (by assumption)) hlt5 V0 hVk, ?_⟩
        intro x22
        intro h18
        obtain ⟨h18, h18_0, h18_1, h18_2⟩ := h18
        rw [hu5] at h18
        have A5 := chain_step A6 h18
        obtain ⟨hu4, hlt4⟩ := next2 (x := x19.2.2.2.2.1) h18 wx4 h18_0 h18_1 h18_2 hVk
        have wqh18 := h18.wq
        refine ⟨rfl, rfl, ?_⟩
        refine ⟨rfl, ?_⟩
        refine ⟨wide_step2 b17 (#[.int .u64 x19.1, .int .u64 x19.2.1, .int .u64 x19.2.2.1, .int .u64 x19.2.2.2.1, .int .u64 x19.2.2.2.2.1, .int .u64 x22.2.1, .int .u64 x22.2.2.1, .int .u64 x22.2.2.2, .int .u64 x21.2.2.2]) 4 5 x19.2.2.2.2.1 x22.2.1 x22.2.2.1 b18 x20.1 x20.2 (Nat.le_of_ble_eq_true rfl) (rfl) (rfl) (rfl) (by assumption) (by assumption) (by assumption) (by assumption) (by assumption) (hlt4) (N3), wit_step2 (nn3 (by assumption) (by assumption) (by assumption)) hlt4 V0 hVk, ?_⟩
        intro x23
        intro h19
        obtain ⟨h19, h19_0, h19_1, h19_2⟩ := h19
        rw [hu4] at h19
        have A4 := chain_step A5 h19
        obtain ⟨hu3, hlt3⟩ := next2 (x := x19.2.2.2.1) h19 wx3 h19_0 h19_1 h19_2 hVk
        have wqh19 := h19.wq
        refine ⟨rfl, rfl, ?_⟩
        refine ⟨rfl, ?_⟩
        refine ⟨wide_step2 b17 (#[.int .u64 x19.1, .int .u64 x19.2.1, .int .u64 x19.2.2.1, .int .u64 x19.2.2.2.1, .int .u64 x23.2.1, .int .u64 x23.2.2.1, .int .u64 x23.2.2.2, .int .u64 x22.2.2.2, .int .u64 x21.2.2.2]) 3 6 x19.2.2.2.1 x23.2.1 x23.2.2.1 b18 x20.1 x20.2 (Nat.le_of_ble_eq_true rfl) (rfl) (rfl) (rfl) (by assumption) (by assumption) (by assumption) (by assumption) (by assumption) (hlt3) (N3), wit_step2 (nn3 (by assumption) (by assumption) (by assumption)) hlt3 V0 hVk, ?_⟩
        intro x24
        intro h20
        obtain ⟨h20, h20_0, h20_1, h20_2⟩ := h20
        rw [hu3] at h20
        have A3 := chain_step A4 h20
        obtain ⟨hu2, hlt2⟩ := next2 (x := x19.2.2.1) h20 wx2 h20_0 h20_1 h20_2 hVk
        have wqh20 := h20.wq
        refine ⟨rfl, rfl, ?_⟩
        refine ⟨rfl, ?_⟩
        refine ⟨wide_step2 b17 (#[.int .u64 x19.1, .int .u64 x19.2.1, .int .u64 x19.2.2.1, .int .u64 x24.2.1, .int .u64 x24.2.2.1, .int .u64 x24.2.2.2, .int .u64 x23.2.2.2, .int .u64 x22.2.2.2, .int .u64 x21.2.2.2]) 2 7 x19.2.2.1 x24.2.1 x24.2.2.1 b18 x20.1 x20.2 (Nat.le_of_ble_eq_true rfl) (rfl) (rfl) (rfl) (by assumption) (by assumption) (by assumption) (by assumption) (by assumption) (hlt2) (N3), wit_step2 (nn3 (by assumption) (by assumption) (by assumption)) hlt2 V0 hVk, ?_⟩
        intro x25
        intro h21
        obtain ⟨h21, h21_0, h21_1, h21_2⟩ := h21
        rw [hu2] at h21
        have A2 := chain_step A3 h21
        obtain ⟨hu1, hlt1⟩ := next2 (x := x19.2.1) h21 wx1 h21_0 h21_1 h21_2 hVk
        have wqh21 := h21.wq
        refine ⟨rfl, rfl, ?_⟩
        refine ⟨rfl, ?_⟩
        refine ⟨wide_step2 b17 (#[.int .u64 x19.1, .int .u64 x19.2.1, .int .u64 x25.2.1, .int .u64 x25.2.2.1, .int .u64 x25.2.2.2, .int .u64 x24.2.2.2, .int .u64 x23.2.2.2, .int .u64 x22.2.2.2, .int .u64 x21.2.2.2]) 1 8 x19.2.1 x25.2.1 x25.2.2.1 b18 x20.1 x20.2 (Nat.le_of_ble_eq_true rfl) (rfl) (rfl) (rfl) (by assumption) (by assumption) (by assumption) (by assumption) (by assumption) (hlt1) (N3), wit_step2 (nn3 (by assumption) (by assumption) (by assumption)) hlt1 V0 hVk, ?_⟩
        intro x26
        intro h22
        obtain ⟨h22, h22_0, h22_1, h22_2⟩ := h22
        rw [hu1] at h22
        have A1 := chain_step A2 h22
        obtain ⟨hu0, hlt0⟩ := next2 (x := x19.1) h22 wx0 h22_0 h22_1 h22_2 hVk
        have wqh22 := h22.wq
        refine ⟨rfl, rfl, ?_⟩
        refine ⟨rfl, ?_⟩
        refine ⟨wide_step2 b17 (#[.int .u64 x19.1, .int .u64 x26.2.1, .int .u64 x26.2.2.1, .int .u64 x26.2.2.2, .int .u64 x25.2.2.2, .int .u64 x24.2.2.2, .int .u64 x23.2.2.2, .int .u64 x22.2.2.2, .int .u64 x21.2.2.2]) 0 9 x19.1 x26.2.1 x26.2.2.1 b18 x20.1 x20.2 (Nat.le_of_ble_eq_true rfl) (rfl) (rfl) (rfl) (by assumption) (by assumption) (by assumption) (by assumption) (by assumption) (hlt0) (N3), wit_step2 (nn3 (by assumption) (by assumption) (by assumption)) hlt0 V0 hVk, ?_⟩
        intro x27
        intro h23
        obtain ⟨h23, h23_0, h23_1, h23_2⟩ := h23
        rw [hu0] at h23
        have A0 := chain_step A1 h23
        have wqh23 := h23.wq
        refine ⟨rfl, rfl, ?_⟩
        refine ⟨rfl, ?_⟩
        refine ⟨rfl, ?_⟩
        refine ⟨rfl, rfl, xshr (by omega), rfl, rfl, ⟨(), trivial, congrArg (Value.int .i64) (wrap_i64 _ (by omega) (by omega))⟩, ?_⟩
        intro _
        intro _
        refine ⟨xshl (by omega), rfl, rfl, ?_⟩
        refine ⟨rfl, ?_⟩
        refine ⟨rfl, rfl, xshr (by omega), rfl, rfl, ⟨(), trivial, congrArg (Value.int .i64) (wrap_i64 _ (by omega) (by omega))⟩, ?_⟩
        intro _
        intro _
        refine ⟨xshl (by omega), rfl, rfl, ?_⟩
        refine ⟨rfl, ?_⟩
        refine ⟨rfl, rfl, rfl, rfl, rfl, rfl, rfl, rfl, rfl, rfl, rfl, rfl, rfl, rfl, rfl, rfl, rfl, rfl, rfl, rfl, rfl, rfl, rfl, rfl, rfl, rfl, rfl, rfl, rfl, rfl, rfl, rfl, rfl, rfl, rfl, rfl, rfl, rfl, rfl, rfl, rfl, rfl, rfl, rfl, rfl, rfl, rfl, rfl, ?_⟩
        refine ⟨rfl, rfl, rfl, rfl, rfl, rfl, rfl, rfl, rfl, rfl, rfl, rfl, rfl, rfl, rfl, rfl, rfl, rfl, rfl, rfl, rfl, rfl, rfl, rfl, ?_⟩
        have hD : lim d 0 + 18446744073709551616 * lim d 1 = d := by
          have e := lims d
          rw [num_vI r_d] at e
          simp only [beq_iff_eq, beq_eq_false_iff_ne] at *
          omega
        rw [hD] at N1
        have A : ((x27.1 + 18446744073709551616 * (x26.1 + 18446744073709551616 * (x25.1 + 18446744073709551616 * (x24.1 + 18446744073709551616 * (x23.1 + 18446744073709551616 * (x22.1 + 18446744073709551616 * x21.1))))))) * (x20.1 + 18446744073709551616 * x20.2) + (x27.2.1 + 18446744073709551616 * x27.2.2.1 + 340282366920938463463374607431768211456 * x27.2.2.2) = n * p := by rw [← E]; rw [A0]; omega
        obtain ⟨G1, G2, G3⟩ := div_end A N1 h23.r0 h23.r1 hp
        have G4 := rest2 hp hq hpq hVk h23_0 h23_1 h23_2 G2 h23.r1
        have c0 := down_or (x := x27.2.1) (y := x27.2.2.1) (s := ((nrm (lim d 1) : Nat) : Int)) (nrm_0 _) (nrm_63 (W_lim _ _) (by assumption)) h23_0 h23_1
        rw [e1, e2] at c0
        have cw0 := down_W (y := x27.2.2.1) hp hq hpq h23_0
        have c1 := down_or (x := x27.2.2.1) (y := x27.2.2.2) (s := ((nrm (lim d 1) : Nat) : Int)) (nrm_0 _) (nrm_63 (W_lim _ _) (by assumption)) h23_1 h23_2
        rw [e1, e2] at c1
        have cw1 := down_W (y := x27.2.2.2) hp hq hpq h23_1
        have W0 : W 0 := by unfold W; decide
        have Hq : num (.agg #[.int .u64 x27.1, .int .u64 x26.1, .int .u64 x25.1, .int .u64 x24.1, .int .u64 x23.1, .int .u64 x22.1, .int .u64 x21.1, .int .u64 0]) = n / d := by rw [G1, num8]; omega
        have Hr : num (.agg #[.int .u64 (x27.2.1 / p + x27.2.2.1 * q % 18446744073709551616), .int .u64 (x27.2.2.1 / p + x27.2.2.2 * q % 18446744073709551616), .int .u64 0, .int .u64 0]) = n % d := by rw [← G4, num4]; omega
        have Hv := vW_num8 (show W x27.1 by first | assumption | exact W0) (show W x26.1 by first | assumption | exact W0) (show W x25.1 by first | assumption | exact W0) (show W x24.1 by first | assumption | exact W0) (show W x23.1 by first | assumption | exact W0) (show W x22.1 by first | assumption | exact W0) (show W x21.1 by first | assumption | exact W0) (show W 0 by first | assumption | exact W0)
        have Hw := vI_num4 cw0 cw1 W0 W0
        rw [Hq] at Hv
        rw [Hr] at Hw
        refine fin3 (n := n / d) (r := n % d) (by rw [num_vW r_n, num_vI r_d]; unfold wDiv; rw [if_neg G3]) (Hq ▸ R8_num8 (by first | assumption | exact W0) (by first | assumption | exact W0) (by first | assumption | exact W0) (by first | assumption | exact W0) (by first | assumption | exact W0) (by first | assumption | exact W0) (by first | assumption | exact W0) (by first | assumption | exact W0)) (Hr ▸ R4_num4 cw0 cw1 W0 W0) Hv ?_
        rw [Hw, c0, c1]
    · refine ⟨rfl, ?_⟩
      refine ⟨rfl, rfl, limb_Len (lim d 2) (by first | assumption | exact W_lim _ _ | (unfold W; decide)), ⟨(), trivial⟩, ?_⟩
      intro _
      intro _
      refine ⟨⟨(), trivial, congrArg (Value.int .i64) (nrm_s (W_lim _ _) (by assumption))⟩, ?_⟩
      intro _
      intro _
      intro b28
      intro b29
      refine ⟨wide_up98 b28 b1 (lim n 0) (lim n 1) (lim n 2) (lim n 3) (lim n 4) (lim n 5) (lim n 6) (lim n 7) ((nrm (lim d 2) : Nat) : Int) (nrm_0 _) (nrm_63 (W_lim _ _) (by assumption)) (W_lim _ _) (W_lim _ _) (W_lim _ _) (W_lim _ _) (W_lim _ _) (W_lim _ _) (W_lim _ _) (W_lim _ _), wit_up98 (nrm_0 _) (nrm_63 (W_lim _ _) (by assumption)) (W_lim _ _) (W_lim _ _) (W_lim _ _) (W_lim _ _) (W_lim _ _) (W_lim _ _) (W_lim _ _) (W_lim _ _), ?_⟩
      intro x30
      intro h24
      obtain ⟨E, wx0, wx1, wx2, wx3, wx4, wx5, wx6, wx7, wx8⟩ := h24
      refine ⟨wide_up3 b29 b2 (lim d 0) (lim d 1) (lim d 2) (lim d 3) ((nrm (lim d 2) : Nat) : Int) (nrm_0 _) (nrm_63 (W_lim _ _) (by assumption)) (W_lim _ _) (W_lim _ _) (W_lim _ _), wit_up3 (nrm_0 _) (nrm_63 (W_lim _ _) (by assumption)) (W_lim _ _) (W_lim _ _) (W_lim _ _), ?_⟩
      intro x31
      intro h25
      obtain ⟨F, wz0, wz1, wz2⟩ := h25
      obtain ⟨N1, N2, N3⟩ := norm3 (W_lim _ _) (by assumption) wz0 wz1 wz2 (W_lim _ _) (W_lim _ _) F
      obtain ⟨p, q, hp', hq', hp, hq, hpq, hp2, ht, h0, e1, e2⟩ := nrm_top (W_lim d 2) (by assumption)
      have n63 := nrm_63 (W_lim d 2) (by assumption)
      rw [e1, lims8 r_n] at E
      rw [← hp'] at N1
      have hVk : x31.1 + 18446744073709551616 * x31.2.1 + 340282366920938463463374607431768211456 * x31.2.2 < 6277101735386680763835789423207666416102355444464034512896 := by unfold W at wz0 wz1 wz2; omega
      have V0 : 0 < x31.1 + 18446744073709551616 * x31.2.1 + 340282366920938463463374607431768211456 * x31.2.2 := by omega
      have hlt5 := first3 r_n hp hp2 wx0 wx1 wx2 wx3 wx4 wx5 wx6 wx7 wx8 E N2
      refine ⟨rfl, ?_⟩
      refine ⟨wide_step3 b28 (#[.int .u64 x30.1, .int .u64 x30.2.1, .int .u64 x30.2.2.1, .int .u64 x30.2.2.2.1, .int .u64 x30.2.2.2.2.1, .int .u64 x30.2.2.2.2.2.1, .int .u64 x30.2.2.2.2.2.2.1, .int .u64 x30.2.2.2.2.2.2.2.1, .int .u64 x30.2.2.2.2.2.2.2.2]) 5 4 x30.2.2.2.2.2.1 x30.2.2.2.2.2.2.1 x30.2.2.2.2.2.2.2.1 x30.2.2.2.2.2.2.2.2 b29 x31.1 x31.2.1 x31.2.2 (Nat.le_of_ble_eq_true rfl) (rfl) (rfl) (rfl) (rfl) (by assumption) (by assumption) (by assumption) (by assumption) (by assumption) (by assumption) (by assumption) (hlt5) (N3), wit_step3 (nn4 (by assumption) (by assumption) (by assumption) (by assumption)) hlt5 V0 hVk, ?_⟩
      intro x32
      intro h26
      obtain ⟨h26, h26_0, h26_1, h26_2, h26_3⟩ := h26
      have A5 := h26.eq
      obtain ⟨hu4, hlt4⟩ := next3 (x := x30.2.2.2.2.1) h26 wx4 h26_0 h26_1 h26_2 h26_3 hVk
      have wqh26 := h26.wq
      refine ⟨rfl, rfl, ?_⟩
      refine ⟨rfl, ?_⟩
      refine ⟨wide_step3 b28 (#[.int .u64 x30.1, .int .u64 x30.2.1, .int .u64 x30.2.2.1, .int .u64 x30.2.2.2.1, .int .u64 x30.2.2.2.2.1, .int .u64 x32.2.1, .int .u64 x32.2.2.1, .int .u64 x32.2.2.2.1, .int .u64 x32.2.2.2.2]) 4 5 x30.2.2.2.2.1 x32.2.1 x32.2.2.1 x32.2.2.2.1 b29 x31.1 x31.2.1 x31.2.2 (Nat.le_of_ble_eq_true rfl) (rfl) (rfl) (rfl) (rfl) (by assumption) (by assumption) (by assumption) (by assumption) (by assumption) (by assumption) (by assumption) (hlt4) (N3), wit_step3 (nn4 (by assumption) (by assumption) (by assumption) (by assumption)) hlt4 V0 hVk, ?_⟩
      intro x33
      intro h27
      obtain ⟨h27, h27_0, h27_1, h27_2, h27_3⟩ := h27
      rw [hu4] at h27
      have A4 := chain_step A5 h27
      obtain ⟨hu3, hlt3⟩ := next3 (x := x30.2.2.2.1) h27 wx3 h27_0 h27_1 h27_2 h27_3 hVk
      have wqh27 := h27.wq
      refine ⟨rfl, rfl, ?_⟩
      refine ⟨rfl, ?_⟩
      refine ⟨wide_step3 b28 (#[.int .u64 x30.1, .int .u64 x30.2.1, .int .u64 x30.2.2.1, .int .u64 x30.2.2.2.1, .int .u64 x33.2.1, .int .u64 x33.2.2.1, .int .u64 x33.2.2.2.1, .int .u64 x33.2.2.2.2, .int .u64 x32.2.2.2.2]) 3 6 x30.2.2.2.1 x33.2.1 x33.2.2.1 x33.2.2.2.1 b29 x31.1 x31.2.1 x31.2.2 (Nat.le_of_ble_eq_true rfl) (rfl) (rfl) (rfl) (rfl) (by assumption) (by assumption) (by assumption) (by assumption) (by assumption) (by assumption) (by assumption) (hlt3) (N3), wit_step3 (nn4 (by assumption) (by assumption) (by assumption) (by assumption)) hlt3 V0 hVk, ?_⟩
      intro x34
      intro h28
      obtain ⟨h28, h28_0, h28_1, h28_2, h28_3⟩ := h28
      rw [hu3] at h28
      have A3 := chain_step A4 h28
      obtain ⟨hu2, hlt2⟩ := next3 (x := x30.2.2.1) h28 wx2 h28_0 h28_1 h28_2 h28_3 hVk
      have wqh28 := h28.wq
      refine ⟨rfl, rfl, ?_⟩
      refine ⟨rfl, ?_⟩
      refine ⟨wide_step3 b28 (#[.int .u64 x30.1, .int .u64 x30.2.1, .int .u64 x30.2.2.1, .int .u64 x34.2.1, .int .u64 x34.2.2.1, .int .u64 x34.2.2.2.1, .int .u64 x34.2.2.2.2, .int .u64 x33.2.2.2.2, .int .u64 x32.2.2.2.2]) 2 7 x30.2.2.1 x34.2.1 x34.2.2.1 x34.2.2.2.1 b29 x31.1 x31.2.1 x31.2.2 (Nat.le_of_ble_eq_true rfl) (rfl) (rfl) (rfl) (rfl) (by assumption) (by assumption) (by assumption) (by assumption) (by assumption) (by assumption) (by assumption) (hlt2) (N3), wit_step3 (nn4 (by assumption) (by assumption) (by assumption) (by assumption)) hlt2 V0 hVk, ?_⟩
      intro x35
      intro h29
      obtain ⟨h29, h29_0, h29_1, h29_2, h29_3⟩ := h29
      rw [hu2] at h29
      have A2 := chain_step A3 h29
      obtain ⟨hu1, hlt1⟩ := next3 (x := x30.2.1) h29 wx1 h29_0 h29_1 h29_2 h29_3 hVk
      have wqh29 := h29.wq
      refine ⟨rfl, rfl, ?_⟩
      refine ⟨rfl, ?_⟩
      refine ⟨wide_step3 b28 (#[.int .u64 x30.1, .int .u64 x30.2.1, .int .u64 x35.2.1, .int .u64 x35.2.2.1, .int .u64 x35.2.2.2.1, .int .u64 x35.2.2.2.2, .int .u64 x34.2.2.2.2, .int .u64 x33.2.2.2.2, .int .u64 x32.2.2.2.2]) 1 8 x30.2.1 x35.2.1 x35.2.2.1 x35.2.2.2.1 b29 x31.1 x31.2.1 x31.2.2 (Nat.le_of_ble_eq_true rfl) (rfl) (rfl) (rfl) (rfl) (by assumption) (by assumption) (by assumption) (by assumption) (by assumption) (by assumption) (by assumption) (hlt1) (N3), wit_step3 (nn4 (by assumption) (by assumption) (by assumption) (by assumption)) hlt1 V0 hVk, ?_⟩
      intro x36
      intro h30
      obtain ⟨h30, h30_0, h30_1, h30_2, h30_3⟩ := h30
      rw [hu1] at h30
      have A1 := chain_step A2 h30
      obtain ⟨hu0, hlt0⟩ := next3 (x := x30.1) h30 wx0 h30_0 h30_1 h30_2 h30_3 hVk
      have wqh30 := h30.wq
      refine ⟨rfl, rfl, ?_⟩
      refine ⟨rfl, ?_⟩
      refine ⟨wide_step3 b28 (#[.int .u64 x30.1, .int .u64 x36.2.1, .int .u64 x36.2.2.1, .int .u64 x36.2.2.2.1, .int .u64 x36.2.2.2.2, .int .u64 x35.2.2.2.2, .int .u64 x34.2.2.2.2, .int .u64 x33.2.2.2.2, .int .u64 x32.2.2.2.2]) 0 9 x30.1 x36.2.1 x36.2.2.1 x36.2.2.2.1 b29 x31.1 x31.2.1 x31.2.2 (Nat.le_of_ble_eq_true rfl) (rfl) (rfl) (rfl) (rfl) (by assumption) (by assumption) (by assumption) (by assumption) (by assumption) (by assumption) (by assumption) (hlt0) (N3), wit_step3 (nn4 (by assumption) (by assumption) (by assumption) (by assumption)) hlt0 V0 hVk, ?_⟩
      intro x37
      intro h31
      obtain ⟨h31, h31_0, h31_1, h31_2, h31_3⟩ := h31
      rw [hu0] at h31
      have A0 := chain_step A1 h31
      have wqh31 := h31.wq
      refine ⟨rfl, rfl, ?_⟩
      refine ⟨rfl, ?_⟩
      refine ⟨rfl, ?_⟩
      refine ⟨rfl, rfl, xshr (by omega), rfl, rfl, ⟨(), trivial, congrArg (Value.int .i64) (wrap_i64 _ (by omega) (by omega))⟩, ?_⟩
      intro _
      intro _
      refine ⟨xshl (by omega), rfl, rfl, ?_⟩
      refine ⟨rfl, ?_⟩
      refine ⟨rfl, rfl, xshr (by omega), rfl, rfl, ⟨(), trivial, congrArg (Value.int .i64) (wrap_i64 _ (by omega) (by omega))⟩, ?_⟩
      intro _
      intro _
      refine ⟨xshl (by omega), rfl, rfl, ?_⟩
      refine ⟨rfl, ?_⟩
      refine ⟨rfl, rfl, xshr (by omega), rfl, rfl, ⟨(), trivial, congrArg (Value.int .i64) (wrap_i64 _ (by omega) (by omega))⟩, ?_⟩
      intro _
      intro _
      refine ⟨xshl (by omega), rfl, rfl, ?_⟩
      refine ⟨rfl, ?_⟩
      refine ⟨rfl, rfl, rfl, rfl, rfl, rfl, rfl, rfl, rfl, rfl, rfl, rfl, rfl, rfl, rfl, rfl, rfl, rfl, rfl, rfl, rfl, rfl, rfl, rfl, rfl, rfl, rfl, rfl, rfl, rfl, rfl, rfl, rfl, rfl, rfl, rfl, rfl, rfl, rfl, rfl, rfl, rfl, rfl, rfl, rfl, rfl, rfl, rfl, ?_⟩
      refine ⟨rfl, rfl, rfl, rfl, rfl, rfl, rfl, rfl, rfl, rfl, rfl, rfl, rfl, rfl, rfl, rfl, rfl, rfl, rfl, rfl, rfl, rfl, rfl, rfl, ?_⟩
      have hD : lim d 0 + 18446744073709551616 * lim d 1 + 340282366920938463463374607431768211456 * lim d 2 = d := by
        have e := lims d
        rw [num_vI r_d] at e
        simp only [beq_iff_eq, beq_eq_false_iff_ne] at *
        omega
      rw [hD] at N1
      have A : ((x37.1 + 18446744073709551616 * (x36.1 + 18446744073709551616 * (x35.1 + 18446744073709551616 * (x34.1 + 18446744073709551616 * (x33.1 + 18446744073709551616 * x32.1)))))) * (x31.1 + 18446744073709551616 * x31.2.1 + 340282366920938463463374607431768211456 * x31.2.2) + (x37.2.1 + 18446744073709551616 * x37.2.2.1 + 340282366920938463463374607431768211456 * x37.2.2.2.1 + 6277101735386680763835789423207666416102355444464034512896 * x37.2.2.2.2) = n * p := by rw [← E]; rw [A0]; omega
      obtain ⟨G1, G2, G3⟩ := div_end A N1 h31.r0 h31.r1 hp
      have G4 := rest3 hp hq hpq hVk h31_0 h31_1 h31_2 h31_3 G2 h31.r1
      have c0 := down_or (x := x37.2.1) (y := x37.2.2.1) (s := ((nrm (lim d 2) : Nat) : Int)) (nrm_0 _) (nrm_63 (W_lim _ _) (by assumption)) h31_0 h31_1
      rw [e1, e2] at c0
      have cw0 := down_W (y := x37.2.2.1) hp hq hpq h31_0
      have c1 := down_or (x := x37.2.2.1) (y := x37.2.2.2.1) (s := ((nrm (lim d 2) : Nat) : Int)) (nrm_0 _) (nrm_63 (W_lim _ _) (by assumption)) h31_1 h31_2
      rw [e1, e2] at c1
      have cw1 := down_W (y := x37.2.2.2.1) hp hq hpq h31_1
      have c2 := down_or (x := x37.2.2.2.1) (y := x37.2.2.2.2) (s := ((nrm (lim d 2) : Nat) : Int)) (nrm_0 _) (nrm_63 (W_lim _ _) (by assumption)) h31_2 h31_3
      rw [e1, e2] at c2
      have cw2 := down_W (y := x37.2.2.2.2) hp hq hpq h31_2
      have W0 : W 0 := by unfold W; decide
      have Hq : num (.agg #[.int .u64 x37.1, .int .u64 x36.1, .int .u64 x35.1, .int .u64 x34.1, .int .u64 x33.1, .int .u64 x32.1, .int .u64 0, .int .u64 0]) = n / d := by rw [G1, num8]; omega
      have Hr : num (.agg #[.int .u64 (x37.2.1 / p + x37.2.2.1 * q % 18446744073709551616), .int .u64 (x37.2.2.1 / p + x37.2.2.2.1 * q % 18446744073709551616), .int .u64 (x37.2.2.2.1 / p + x37.2.2.2.2 * q % 18446744073709551616), .int .u64 0]) = n % d := by rw [← G4, num4]; omega
      have Hv := vW_num8 (show W x37.1 by first | assumption | exact W0) (show W x36.1 by first | assumption | exact W0) (show W x35.1 by first | assumption | exact W0) (show W x34.1 by first | assumption | exact W0) (show W x33.1 by first | assumption | exact W0) (show W x32.1 by first | assumption | exact W0) (show W 0 by first | assumption | exact W0) (show W 0 by first | assumption | exact W0)
      have Hw := vI_num4 cw0 cw1 cw2 W0
      rw [Hq] at Hv
      rw [Hr] at Hw
      refine fin3 (n := n / d) (r := n % d) (by rw [num_vW r_n, num_vI r_d]; unfold wDiv; rw [if_neg G3]) (Hq ▸ R8_num8 (by first | assumption | exact W0) (by first | assumption | exact W0) (by first | assumption | exact W0) (by first | assumption | exact W0) (by first | assumption | exact W0) (by first | assumption | exact W0) (by first | assumption | exact W0) (by first | assumption | exact W0)) (Hr ▸ R4_num4 cw0 cw1 cw2 W0) Hv ?_
      rw [Hw, c0, c1, c2]
  · refine ⟨rfl, ?_⟩
    refine ⟨rfl, rfl, limb_Len (lim d 3) (by first | assumption | exact W_lim _ _ | (unfold W; decide)), ⟨(), trivial⟩, ?_⟩
    intro _
    intro _
    refine ⟨⟨(), trivial, congrArg (Value.int .i64) (nrm_s (W_lim _ _) (by assumption))⟩, ?_⟩
    intro _
    intro _
    intro b38
    intro b39
    refine ⟨wide_up98 b38 b1 (lim n 0) (lim n 1) (lim n 2) (lim n 3) (lim n 4) (lim n 5) (lim n 6) (lim n 7) ((nrm (lim d 3) : Nat) : Int) (nrm_0 _) (nrm_63 (W_lim _ _) (by assumption)) (W_lim _ _) (W_lim _ _) (W_lim _ _) (W_lim _ _) (W_lim _ _) (W_lim _ _) (W_lim _ _) (W_lim _ _), wit_up98 (nrm_0 _) (nrm_63 (W_lim _ _) (by assumption)) (W_lim _ _) (W_lim _ _) (W_lim _ _) (W_lim _ _) (W_lim _ _) (W_lim _ _) (W_lim _ _) (W_lim _ _), ?_⟩
    intro x40
    intro h32
    obtain ⟨E, wx0, wx1, wx2, wx3, wx4, wx5, wx6, wx7, wx8⟩ := h32
    refine ⟨wide_up4 b39 b2 (lim d 0) (lim d 1) (lim d 2) (lim d 3) ((nrm (lim d 3) : Nat) : Int) (nrm_0 _) (nrm_63 (W_lim _ _) (by assumption)) (W_lim _ _) (W_lim _ _) (W_lim _ _) (W_lim _ _), wit_up4 (nrm_0 _) (nrm_63 (W_lim _ _) (by assumption)) (W_lim _ _) (W_lim _ _) (W_lim _ _) (W_lim _ _), ?_⟩
    intro x41
    intro h33
    obtain ⟨F, wz0, wz1, wz2, wz3⟩ := h33
    obtain ⟨N1, N2, N3⟩ := norm4 (W_lim _ _) (by assumption) wz0 wz1 wz2 wz3 (W_lim _ _) (W_lim _ _) (W_lim _ _) F
    obtain ⟨p, q, hp', hq', hp, hq, hpq, hp2, ht, h0, e1, e2⟩ := nrm_top (W_lim d 3) (by assumption)
    have n63 := nrm_63 (W_lim d 3) (by assumption)
    rw [e1, lims8 r_n] at E
    rw [← hp'] at N1
    have hVk : x41.1 + 18446744073709551616 * x41.2.1 + 340282366920938463463374607431768211456 * x41.2.2.1 + 6277101735386680763835789423207666416102355444464034512896 * x41.2.2.2 < 115792089237316195423570985008687907853269984665640564039457584007913129639936 := by unfold W at wz0 wz1 wz2 wz3; omega
    have V0 : 0 < x41.1 + 18446744073709551616 * x41.2.1 + 340282366920938463463374607431768211456 * x41.2.2.1 + 6277101735386680763835789423207666416102355444464034512896 * x41.2.2.2 := by omega
    have hlt4 := first4 r_n hp hp2 wx0 wx1 wx2 wx3 wx4 wx5 wx6 wx7 wx8 E N2
    refine ⟨rfl, ?_⟩
    refine ⟨wide_step4 b38 (#[.int .u64 x40.1, .int .u64 x40.2.1, .int .u64 x40.2.2.1, .int .u64 x40.2.2.2.1, .int .u64 x40.2.2.2.2.1, .int .u64 x40.2.2.2.2.2.1, .int .u64 x40.2.2.2.2.2.2.1, .int .u64 x40.2.2.2.2.2.2.2.1, .int .u64 x40.2.2.2.2.2.2.2.2]) 4 5 x40.2.2.2.2.1 x40.2.2.2.2.2.1 x40.2.2.2.2.2.2.1 x40.2.2.2.2.2.2.2.1 x40.2.2.2.2.2.2.2.2 b39 x41.1 x41.2.1 x41.2.2.1 x41.2.2.2 (Nat.le_of_ble_eq_true rfl) (rfl) (rfl) (rfl) (rfl) (rfl) (by assumption) (by assumption) (by assumption) (by assumption) (by assumption) (by assumption) (by assumption) (by assumption) (by assumption) (hlt4) (N3), wit_step4 (nn5 (by assumption) (by assumption) (by assumption) (by assumption) (by assumption)) hlt4 V0 hVk, ?_⟩
    intro x42
    intro h34
    obtain ⟨h34, h34_0, h34_1, h34_2, h34_3, h34_4⟩ := h34
    have A4 := h34.eq
    obtain ⟨hu3, hlt3⟩ := next4 (x := x40.2.2.2.1) h34 wx3 h34_0 h34_1 h34_2 h34_3 h34_4 hVk
    have wqh34 := h34.wq
    refine ⟨rfl, rfl, ?_⟩
    refine ⟨rfl, ?_⟩
    refine ⟨wide_step4 b38 (#[.int .u64 x40.1, .int .u64 x40.2.1, .int .u64 x40.2.2.1, .int .u64 x40.2.2.2.1, .int .u64 x42.2.1, .int .u64 x42.2.2.1, .int .u64 x42.2.2.2.1, .int .u64 x42.2.2.2.2.1, .int .u64 x42.2.2.2.2.2]) 3 6 x40.2.2.2.1 x42.2.1 x42.2.2.1 x42.2.2.2.1 x42.2.2.2.2.1 b39 x41.1 x41.2.1 x41.2.2.1 x41.2.2.2 (Nat.le_of_ble_eq_true rfl) (rfl) (rfl) (rfl) (rfl) (rfl) (by assumption) (by assumption) (by assumption) (by assumption) (by assumption) (by assumption) (by assumption) (by assumption) (by assumption) (hlt3) (N3), wit_step4 (nn5 (by assumption) (by assumption) (by assumption) (by assumption) (by assumption)) hlt3 V0 hVk, ?_⟩
    intro x43
    intro h35
    obtain ⟨h35, h35_0, h35_1, h35_2, h35_3, h35_4⟩ := h35
    rw [hu3] at h35
    have A3 := chain_step A4 h35
    obtain ⟨hu2, hlt2⟩ := next4 (x := x40.2.2.1) h35 wx2 h35_0 h35_1 h35_2 h35_3 h35_4 hVk
    have wqh35 := h35.wq
    refine ⟨rfl, rfl, ?_⟩
    refine ⟨rfl, ?_⟩
    refine ⟨wide_step4 b38 (#[.int .u64 x40.1, .int .u64 x40.2.1, .int .u64 x40.2.2.1, .int .u64 x43.2.1, .int .u64 x43.2.2.1, .int .u64 x43.2.2.2.1, .int .u64 x43.2.2.2.2.1, .int .u64 x43.2.2.2.2.2, .int .u64 x42.2.2.2.2.2]) 2 7 x40.2.2.1 x43.2.1 x43.2.2.1 x43.2.2.2.1 x43.2.2.2.2.1 b39 x41.1 x41.2.1 x41.2.2.1 x41.2.2.2 (Nat.le_of_ble_eq_true rfl) (rfl) (rfl) (rfl) (rfl) (rfl) (by assumption) (by assumption) (by assumption) (by assumption) (by assumption) (by assumption) (by assumption) (by assumption) (by assumption) (hlt2) (N3), wit_step4 (nn5 (by assumption) (by assumption) (by assumption) (by assumption) (by assumption)) hlt2 V0 hVk, ?_⟩
    intro x44
    intro h36
    obtain ⟨h36, h36_0, h36_1, h36_2, h36_3, h36_4⟩ := h36
    rw [hu2] at h36
    have A2 := chain_step A3 h36
    obtain ⟨hu1, hlt1⟩ := next4 (x := x40.2.1) h36 wx1 h36_0 h36_1 h36_2 h36_3 h36_4 hVk
    have wqh36 := h36.wq
    refine ⟨rfl, rfl, ?_⟩
    refine ⟨rfl, ?_⟩
    refine ⟨wide_step4 b38 (#[.int .u64 x40.1, .int .u64 x40.2.1, .int .u64 x44.2.1, .int .u64 x44.2.2.1, .int .u64 x44.2.2.2.1, .int .u64 x44.2.2.2.2.1, .int .u64 x44.2.2.2.2.2, .int .u64 x43.2.2.2.2.2, .int .u64 x42.2.2.2.2.2]) 1 8 x40.2.1 x44.2.1 x44.2.2.1 x44.2.2.2.1 x44.2.2.2.2.1 b39 x41.1 x41.2.1 x41.2.2.1 x41.2.2.2 (Nat.le_of_ble_eq_true rfl) (rfl) (rfl) (rfl) (rfl) (rfl) (by assumption) (by assumption) (by assumption) (by assumption) (by assumption) (by assumption) (by assumption) (by assumption) (by assumption) (hlt1) (N3), wit_step4 (nn5 (by assumption) (by assumption) (by assumption) (by assumption) (by assumption)) hlt1 V0 hVk, ?_⟩
    intro x45
    intro h37
    obtain ⟨h37, h37_0, h37_1, h37_2, h37_3, h37_4⟩ := h37
    rw [hu1] at h37
    have A1 := chain_step A2 h37
    obtain ⟨hu0, hlt0⟩ := next4 (x := x40.1) h37 wx0 h37_0 h37_1 h37_2 h37_3 h37_4 hVk
    have wqh37 := h37.wq
    refine ⟨rfl, rfl, ?_⟩
    refine ⟨rfl, ?_⟩
    refine ⟨wide_step4 b38 (#[.int .u64 x40.1, .int .u64 x45.2.1, .int .u64 x45.2.2.1, .int .u64 x45.2.2.2.1, .int .u64 x45.2.2.2.2.1, .int .u64 x45.2.2.2.2.2, .int .u64 x44.2.2.2.2.2, .int .u64 x43.2.2.2.2.2, .int .u64 x42.2.2.2.2.2]) 0 9 x40.1 x45.2.1 x45.2.2.1 x45.2.2.2.1 x45.2.2.2.2.1 b39 x41.1 x41.2.1 x41.2.2.1 x41.2.2.2 (Nat.le_of_ble_eq_true rfl) (rfl) (rfl) (rfl) (rfl) (rfl) (by assumption) (by assumption) (by assumption) (by assumption) (by assumption) (by assumption) (by assumption) (by assumption) (by assumption) (hlt0) (N3), wit_step4 (nn5 (by assumption) (by assumption) (by assumption) (by assumption) (by assumption)) hlt0 V0 hVk, ?_⟩
    intro x46
    intro h38
    obtain ⟨h38, h38_0, h38_1, h38_2, h38_3, h38_4⟩ := h38
    rw [hu0] at h38
    have A0 := chain_step A1 h38
    have wqh38 := h38.wq
    refine ⟨rfl, rfl, ?_⟩
    refine ⟨rfl, ?_⟩
    refine ⟨rfl, ?_⟩
    refine ⟨rfl, rfl, xshr (by omega), rfl, rfl, ⟨(), trivial, congrArg (Value.int .i64) (wrap_i64 _ (by omega) (by omega))⟩, ?_⟩
    intro _
    intro _
    refine ⟨xshl (by omega), rfl, rfl, ?_⟩
    refine ⟨rfl, ?_⟩
    refine ⟨rfl, rfl, xshr (by omega), rfl, rfl, ⟨(), trivial, congrArg (Value.int .i64) (wrap_i64 _ (by omega) (by omega))⟩, ?_⟩
    intro _
    intro _
    refine ⟨xshl (by omega), rfl, rfl, ?_⟩
    refine ⟨rfl, ?_⟩
    refine ⟨rfl, rfl, xshr (by omega), rfl, rfl, ⟨(), trivial, congrArg (Value.int .i64) (wrap_i64 _ (by omega) (by omega))⟩, ?_⟩
    intro _
    intro _
    refine ⟨xshl (by omega), rfl, rfl, ?_⟩
    refine ⟨rfl, ?_⟩
    refine ⟨rfl, rfl, xshr (by omega), rfl, rfl, ⟨(), trivial, congrArg (Value.int .i64) (wrap_i64 _ (by omega) (by omega))⟩, ?_⟩
    intro _
    intro _
    refine ⟨xshl (by omega), rfl, rfl, ?_⟩
    refine ⟨rfl, ?_⟩
    refine ⟨rfl, rfl, rfl, rfl, rfl, rfl, rfl, rfl, rfl, rfl, rfl, rfl, rfl, rfl, rfl, rfl, rfl, rfl, rfl, rfl, rfl, rfl, rfl, rfl, rfl, rfl, rfl, rfl, rfl, rfl, rfl, rfl, rfl, rfl, rfl, rfl, rfl, rfl, rfl, rfl, rfl, rfl, rfl, rfl, rfl, rfl, rfl, rfl, ?_⟩
    refine ⟨rfl, rfl, rfl, rfl, rfl, rfl, rfl, rfl, rfl, rfl, rfl, rfl, rfl, rfl, rfl, rfl, rfl, rfl, rfl, rfl, rfl, rfl, rfl, rfl, ?_⟩
    have hD : lim d 0 + 18446744073709551616 * lim d 1 + 340282366920938463463374607431768211456 * lim d 2 + 6277101735386680763835789423207666416102355444464034512896 * lim d 3 = d := by
      have e := lims d
      rw [num_vI r_d] at e
      simp only [beq_iff_eq, beq_eq_false_iff_ne] at *
      omega
    rw [hD] at N1
    have A : ((x46.1 + 18446744073709551616 * (x45.1 + 18446744073709551616 * (x44.1 + 18446744073709551616 * (x43.1 + 18446744073709551616 * x42.1))))) * (x41.1 + 18446744073709551616 * x41.2.1 + 340282366920938463463374607431768211456 * x41.2.2.1 + 6277101735386680763835789423207666416102355444464034512896 * x41.2.2.2) + (x46.2.1 + 18446744073709551616 * x46.2.2.1 + 340282366920938463463374607431768211456 * x46.2.2.2.1 + 6277101735386680763835789423207666416102355444464034512896 * x46.2.2.2.2.1 + 115792089237316195423570985008687907853269984665640564039457584007913129639936 * x46.2.2.2.2.2) = n * p := by rw [← E]; rw [A0]; omega
    obtain ⟨G1, G2, G3⟩ := div_end A N1 h38.r0 h38.r1 hp
    have G4 := rest4 hp hq hpq hVk h38_0 h38_1 h38_2 h38_3 h38_4 G2 h38.r1
    have c0 := down_or (x := x46.2.1) (y := x46.2.2.1) (s := ((nrm (lim d 3) : Nat) : Int)) (nrm_0 _) (nrm_63 (W_lim _ _) (by assumption)) h38_0 h38_1
    rw [e1, e2] at c0
    have cw0 := down_W (y := x46.2.2.1) hp hq hpq h38_0
    have c1 := down_or (x := x46.2.2.1) (y := x46.2.2.2.1) (s := ((nrm (lim d 3) : Nat) : Int)) (nrm_0 _) (nrm_63 (W_lim _ _) (by assumption)) h38_1 h38_2
    rw [e1, e2] at c1
    have cw1 := down_W (y := x46.2.2.2.1) hp hq hpq h38_1
    have c2 := down_or (x := x46.2.2.2.1) (y := x46.2.2.2.2.1) (s := ((nrm (lim d 3) : Nat) : Int)) (nrm_0 _) (nrm_63 (W_lim _ _) (by assumption)) h38_2 h38_3
    rw [e1, e2] at c2
    have cw2 := down_W (y := x46.2.2.2.2.1) hp hq hpq h38_2
    have c3 := down_or (x := x46.2.2.2.2.1) (y := x46.2.2.2.2.2) (s := ((nrm (lim d 3) : Nat) : Int)) (nrm_0 _) (nrm_63 (W_lim _ _) (by assumption)) h38_3 h38_4
    rw [e1, e2] at c3
    have cw3 := down_W (y := x46.2.2.2.2.2) hp hq hpq h38_3
    have W0 : W 0 := by unfold W; decide
    have Hq : num (.agg #[.int .u64 x46.1, .int .u64 x45.1, .int .u64 x44.1, .int .u64 x43.1, .int .u64 x42.1, .int .u64 0, .int .u64 0, .int .u64 0]) = n / d := by rw [G1, num8]; omega
    have Hr : num (.agg #[.int .u64 (x46.2.1 / p + x46.2.2.1 * q % 18446744073709551616), .int .u64 (x46.2.2.1 / p + x46.2.2.2.1 * q % 18446744073709551616), .int .u64 (x46.2.2.2.1 / p + x46.2.2.2.2.1 * q % 18446744073709551616), .int .u64 (x46.2.2.2.2.1 / p + x46.2.2.2.2.2 * q % 18446744073709551616)]) = n % d := by rw [← G4, num4]; omega
    have Hv := vW_num8 (show W x46.1 by first | assumption | exact W0) (show W x45.1 by first | assumption | exact W0) (show W x44.1 by first | assumption | exact W0) (show W x43.1 by first | assumption | exact W0) (show W x42.1 by first | assumption | exact W0) (show W 0 by first | assumption | exact W0) (show W 0 by first | assumption | exact W0) (show W 0 by first | assumption | exact W0)
    have Hw := vI_num4 cw0 cw1 cw2 cw3
    rw [Hq] at Hv
    rw [Hr] at Hw
    refine fin3 (n := n / d) (r := n % d) (by rw [num_vW r_n, num_vI r_d]; unfold wDiv; rw [if_neg G3]) (Hq ▸ R8_num8 (by first | assumption | exact W0) (by first | assumption | exact W0) (by first | assumption | exact W0) (by first | assumption | exact W0) (by first | assumption | exact W0) (by first | assumption | exact W0) (by first | assumption | exact W0) (by first | assumption | exact W0)) (Hr ▸ R4_num4 cw0 cw1 cw2 cw3) Hv ?_
    rw [Hw, c0, c1, c2, c3]

theorem Try.xeq24 (a b : Int) : PureRun Try.prog (xBin .eql 24 (vI a) (vI b)) (.bool (num (vI a) == num (vI b))) := xeq4 (e := 22) (by kernel_rfl) (by kernel_rfl) (fun w => by kernel_rfl) (fun w => by kernel_rfl) (by kernel_rfl) a b
theorem Try.xne24 (a b : Int) : PureRun Try.prog (xBin .neq 24 (vI a) (vI b)) (.bool (num (vI a) != num (vI b))) := xne4 (e := 22) (by kernel_rfl) (by kernel_rfl) (fun w => by kernel_rfl) (fun w => by kernel_rfl) (by kernel_rfl) a b
def wide_narrow_C : List Value → List Slot → Ctr := fun vs hs => ⟨Int × Int, fun zx => .tuple #[vI zx.1, .int .i64 zx.2], fun _ => hs, fun zx => R4 zx.1 ∧ zx = wNar (num (varg vs 1))⟩
set_option maxRecDepth 100000 in
theorem wide_narrow_vc (w : Int) : codeW Try.prog 20 none 2000 none (bodyOf Try.f30) (.reg [.sem [.nw 0], .sem [.nw 1], .sem []] (.reg [.sem [], .sem [.rd 0], .sem [], .sem [.rd 0], .sem [], .sem [], .sem [.rd 0], .sem [], .sem [], .sem [.rd 0], .sem [], .sem []] (.cond (.reg [.sem [], .sem [.wr 1, .wr 1, .wr 1, .wr 1], .sem []] (.done)) (.reg [.sem [], .sem [], .sem [.rd 0, .rd 0, .rd 0, .rd 0], .sem [.wr 1, .wr 1, .wr 1, .wr 1], .sem []] (.done)))))
    (init #[vW w] []) (finW Try.prog Try.f30 [.rd 1, .rd 1, .rd 1, .rd 1] [] (X := Int × Int) (fun zx => .tuple #[vI zx.1, .int .i64 zx.2]) (fun zx => []) (fun zx => (R4 zx.1 ∧ zx = wNar (num (vW w))))) =
    (∀ b1 : Nat, ∀ b2 : Nat, b1 = b1 ∧ (none : Option Nat) = none ∧ b1 = b1 ∧ (none : Option Nat) = none ∧ b1 = b1 ∧ (none : Option Nat) = none ∧ b1 = b1 ∧ (none : Option Nat) = none ∧ (((IntKind.u64.wrap ((BitVec.ofInt 64 (IntKind.u64.wrap ((BitVec.ofInt 64 (IntKind.u64.wrap ((BitVec.ofInt 64 (lim w 4) ||| BitVec.ofInt 64 (lim w 5) : BitVec 64).toNat : Int)) ||| BitVec.ofInt 64 (lim w 6) : BitVec 64).toNat : Int)) ||| BitVec.ofInt 64 (lim w 7) : BitVec 64).toNat : Int)) != (0 : Int)) = true → b2 = b2 ∧ (none : Option Nat) = none ∧ b2 = b2 ∧ (none : Option Nat) = none ∧ b2 = b2 ∧ (none : Option Nat) = none ∧ b2 = b2 ∧ (none : Option Nat) = none ∧ b2 = b2 ∧ (none : Option Nat) = none ∧ b2 = b2 ∧ (none : Option Nat) = none ∧ b2 = b2 ∧ (none : Option Nat) = none ∧ b2 = b2 ∧ (none : Option Nat) = none ∧ ∃ zx : Int × Int, (R4 zx.1 ∧ zx = wNar (num (vW w))) ∧ Value.tuple #[.agg #[.int .u64 0, .int .u64 0, .int .u64 0, .int .u64 0], .int .i64 2] = .tuple #[vI zx.1, .int .i64 zx.2] ∧ True) ∧ (((IntKind.u64.wrap ((BitVec.ofInt 64 (IntKind.u64.wrap ((BitVec.ofInt 64 (IntKind.u64.wrap ((BitVec.ofInt 64 (lim w 4) ||| BitVec.ofInt 64 (lim w 5) : BitVec 64).toNat : Int)) ||| BitVec.ofInt 64 (lim w 6) : BitVec 64).toNat : Int)) ||| BitVec.ofInt 64 (lim w 7) : BitVec 64).toNat : Int)) != (0 : Int)) = false → b1 = b1 ∧ (none : Option Nat) = none ∧ b1 = b1 ∧ (none : Option Nat) = none ∧ b1 = b1 ∧ (none : Option Nat) = none ∧ b1 = b1 ∧ (none : Option Nat) = none ∧ b2 = b2 ∧ (none : Option Nat) = none ∧ b2 = b2 ∧ (none : Option Nat) = none ∧ b2 = b2 ∧ (none : Option Nat) = none ∧ b2 = b2 ∧ (none : Option Nat) = none ∧ b2 = b2 ∧ (none : Option Nat) = none ∧ b2 = b2 ∧ (none : Option Nat) = none ∧ b2 = b2 ∧ (none : Option Nat) = none ∧ b2 = b2 ∧ (none : Option Nat) = none ∧ ∃ zx : Int × Int, (R4 zx.1 ∧ zx = wNar (num (vW w))) ∧ Value.tuple #[vI w, .int .i64 0] = .tuple #[vI zx.1, .int .i64 zx.2] ∧ True)) := by kernel_rfl
set_option maxRecDepth 100000 in
theorem wide_narrow (w : Int) (r_w : R8 w) : CallT Try.prog 30 #[vW w] [] (Int × Int) (fun zx => .tuple #[vI zx.1, .int .i64 zx.2]) (fun zx => []) (fun zx => (R4 zx.1 ∧ zx = wNar (num (vW w)))) := by
  refine call_of (c := bodyOf Try.f30) (n := 20) (fn := Try.f30) Try.mixed Try.func30 (by kernel_rfl) (by kernel_rfl) (by kernel_rfl) 2000 _ [.rd 1, .rd 1, .rd 1, .rd 1] [] rfl rfl (Eq.mpr (wide_narrow_vc w) ?_)
  intro b1
  intro b2
  refine ⟨rfl, rfl, rfl, rfl, rfl, rfl, rfl, rfl, ?_⟩
  refine ⟨fun h1 => ?_, fun h1 => ?_⟩
  · refine ⟨rfl, rfl, rfl, rfl, rfl, rfl, rfl, rfl, ?_⟩
    refine ⟨rfl, rfl, rfl, rfl, rfl, rfl, rfl, rfl, ?_⟩
    exact fin2 (narrow_ov r_w (by assumption)) R4_zero vI_zero
  · refine ⟨rfl, rfl, rfl, rfl, rfl, rfl, rfl, rfl, rfl, rfl, rfl, rfl, rfl, rfl, rfl, rfl, ?_⟩
    refine ⟨rfl, rfl, rfl, rfl, rfl, rfl, rfl, rfl, ?_⟩
    exact fin2 (narrow_ok r_w (by assumption)).1 (narrow_ok r_w (by assumption)).2 rfl


def wide_MulDiv_C : List Value → List Slot → Ctr := fun vs hs => ⟨Int × Int, fun zx => .tuple #[vI zx.1, .int .i64 zx.2], fun _ => hs, fun zx => R4 zx.1 ∧ zx = wMulDiv (num (varg vs 1)) (num (varg vs 2)) (num (varg vs 3))⟩
set_option maxRecDepth 100000 in
theorem wide_MulDiv_vc (a : Int) (b : Int) (d : Int) : codeW Try.prog 28 none 2000 none (bodyOf Try.f17) (.reg [.sem [.nw 0], .sem [.nw 1], .sem [.nw 2], .sem [.nw 3], .sem []] (.reg [.sem [.rd 0, .rd 0, .rd 0, .rd 0], .sem [.rd 1, .rd 1, .rd 1, .rd 1], .callr [] wide_Product_C, .sem [.rd 2, .rd 2, .rd 2, .rd 2], .callr [] wide_Divide_C, .sem [], .sem [], .sem [], .sem [], .sem [.nw 4], .sem [.nw 5], .sem [.wr 4, .wr 4, .wr 4, .wr 4, .wr 4, .wr 4, .wr 4, .wr 4], .sem [.wr 5, .wr 5, .wr 5, .wr 5], .sem []] (.reg [.sem [], .sem []] (.cond (.reg [.sem [], .sem [], .sem [.wr 3, .wr 3, .wr 3, .wr 3], .sem []] (.done)) (.reg [.sem [.rd 4, .rd 4, .rd 4, .rd 4, .rd 4, .rd 4, .rd 4, .rd 4], .callr [] wide_narrow_C, .sem [], .sem [], .sem [.wr 3, .wr 3, .wr 3, .wr 3], .sem []] (.done))))))
    (init #[vI a, vI b, vI d] []) (finW Try.prog Try.f17 [.rd 3, .rd 3, .rd 3, .rd 3] [] (X := Int × Int) (fun zx => .tuple #[vI zx.1, .int .i64 zx.2]) (fun zx => []) (fun zx => (R4 zx.1 ∧ zx = wMulDiv (num (vI a)) (num (vI b)) (num (vI d))))) =
    (∀ b1 : Nat, ∀ b2 : Nat, ∀ b3 : Nat, ∀ b4 : Nat, b1 = b1 ∧ (none : Option Nat) = none ∧ b1 = b1 ∧ (none : Option Nat) = none ∧ b1 = b1 ∧ (none : Option Nat) = none ∧ b1 = b1 ∧ (none : Option Nat) = none ∧ b2 = b2 ∧ (none : Option Nat) = none ∧ b2 = b2 ∧ (none : Option Nat) = none ∧ b2 = b2 ∧ (none : Option Nat) = none ∧ b2 = b2 ∧ (none : Option Nat) = none ∧ (CallT Try.prog 29 #[vI a, vI b] [] Int (fun zx => vW zx) (fun _ => []) (fun zx => R8 zx ∧ zx = (num (vI a)) * (num (vI b)))) ∧ (∃ zx : Int, (fun zx => R8 zx ∧ zx = (num (vI a)) * (num (vI b))) zx) ∧ ∀ x5 : Int, (R8 x5 ∧ x5 = (num (vI a)) * (num (vI b))) → b3 = b3 ∧ (none : Option Nat) = none ∧ b3 = b3 ∧ (none : Option Nat) = none ∧ b3 = b3 ∧ (none : Option Nat) = none ∧ b3 = b3 ∧ (none : Option Nat) = none ∧ (CallT Try.prog 28 #[vW x5, vI d] [] (Int × Int × Int) (fun zx => .tuple #[vW zx.1, vI zx.2.1, .int .i64 zx.2.2]) (fun _ => []) (fun zx => R8 zx.1 ∧ R4 zx.2.1 ∧ zx = wDiv (num (vW x5)) (num (vI d)))) ∧ (∃ zx : Int × Int × Int, (fun zx => R8 zx.1 ∧ R4 zx.2.1 ∧ zx = wDiv (num (vW x5)) (num (vI d))) zx) ∧ ∀ x6 : Int × Int × Int, (R8 x6.1 ∧ R4 x6.2.1 ∧ x6 = wDiv (num (vW x5)) (num (vI d))) → ∀ b7 : Nat, ∀ b8 : Nat, b7 = b7 ∧ (none : Option Nat) = none ∧ b7 = b7 ∧ (none : Option Nat) = none ∧ b7 = b7 ∧ (none : Option Nat) = none ∧ b7 = b7 ∧ (none : Option Nat) = none ∧ b7 = b7 ∧ (none : Option Nat) = none ∧ b7 = b7 ∧ (none : Option Nat) = none ∧ b7 = b7 ∧ (none : Option Nat) = none ∧ b7 = b7 ∧ (none : Option Nat) = none ∧ b8 = b8 ∧ (none : Option Nat) = none ∧ b8 = b8 ∧ (none : Option Nat) = none ∧ b8 = b8 ∧ (none : Option Nat) = none ∧ b8 = b8 ∧ (none : Option Nat) = none ∧ ((x6.2.2 != (0 : Int)) = true → b4 = b4 ∧ (none : Option Nat) = none ∧ b4 = b4 ∧ (none : Option Nat) = none ∧ b4 = b4 ∧ (none : Option Nat) = none ∧ b4 = b4 ∧ (none : Option Nat) = none ∧ b4 = b4 ∧ (none : Option Nat) = none ∧ b4 = b4 ∧ (none : Option Nat) = none ∧ b4 = b4 ∧ (none : Option Nat) = none ∧ b4 = b4 ∧ (none : Option Nat) = none ∧ ∃ zx : Int × Int, (R4 zx.1 ∧ zx = wMulDiv (num (vI a)) (num (vI b)) (num (vI d))) ∧ Value.tuple #[.agg #[.int .u64 0, .int .u64 0, .int .u64 0, .int .u64 0], .int .i64 x6.2.2] = .tuple #[vI zx.1, .int .i64 zx.2] ∧ True) ∧ ((x6.2.2 != (0 : Int)) = false → b7 = b7 ∧ (none : Option Nat) = none ∧ b7 = b7 ∧ (none : Option Nat) = none ∧ b7 = b7 ∧ (none : Option Nat) = none ∧ b7 = b7 ∧ (none : Option Nat) = none ∧ b7 = b7 ∧ (none : Option Nat) = none ∧ b7 = b7 ∧ (none : Option Nat) = none ∧ b7 = b7 ∧ (none : Option Nat) = none ∧ b7 = b7 ∧ (none : Option Nat) = none ∧ (CallT Try.prog 30 #[vW x6.1] [] (Int × Int) (fun zx => .tuple #[vI zx.1, .int .i64 zx.2]) (fun _ => []) (fun zx => R4 zx.1 ∧ zx = wNar (num (vW x6.1)))) ∧ (∃ zx : Int × Int, (fun zx => R4 zx.1 ∧ zx = wNar (num (vW x6.1))) zx) ∧ ∀ x9 : Int × Int, (R4 x9.1 ∧ x9 = wNar (num (vW x6.1))) → b4 = b4 ∧ (none : Option Nat) = none ∧ b4 = b4 ∧ (none : Option Nat) = none ∧ b4 = b4 ∧ (none : Option Nat) = none ∧ b4 = b4 ∧ (none : Option Nat) = none ∧ b4 = b4 ∧ (none : Option Nat) = none ∧ b4 = b4 ∧ (none : Option Nat) = none ∧ b4 = b4 ∧ (none : Option Nat) = none ∧ b4 = b4 ∧ (none : Option Nat) = none ∧ ∃ zx : Int × Int, (R4 zx.1 ∧ zx = wMulDiv (num (vI a)) (num (vI b)) (num (vI d))) ∧ Value.tuple #[vI x9.1, .int .i64 x9.2] = .tuple #[vI zx.1, .int .i64 zx.2] ∧ True)) := by kernel_rfl
set_option maxRecDepth 100000 in
theorem wide_MulDiv (a : Int) (b : Int) (d : Int) (r_a : R4 a) (r_b : R4 b) (r_d : R4 d) : CallT Try.prog 17 #[vI a, vI b, vI d] [] (Int × Int) (fun zx => .tuple #[vI zx.1, .int .i64 zx.2]) (fun zx => []) (fun zx => (R4 zx.1 ∧ zx = wMulDiv (num (vI a)) (num (vI b)) (num (vI d)))) := by
  refine call_of (c := bodyOf Try.f17) (n := 28) (fn := Try.f17) Try.mixed Try.func17 (by kernel_rfl) (by kernel_rfl) (by kernel_rfl) 2000 _ [.rd 3, .rd 3, .rd 3, .rd 3] [] rfl rfl (Eq.mpr (wide_MulDiv_vc a b d) ?_)
  intro b1
  intro b2
  intro b3
  intro b4
  refine ⟨rfl, rfl, rfl, rfl, rfl, rfl, rfl, rfl, rfl, rfl, rfl, rfl, rfl, rfl, rfl, rfl, wide_Product a b (by assumption) (by assumption), ⟨_, prod_R (R4_num a) (R4_num b), rfl⟩, ?_⟩
  intro x5
  intro h1
  obtain ⟨rh1_, h1⟩ := h1
  try simp only [num_vI (n := a) (by assumption), num_vI (n := b) (by assumption)] at h1
  refine ⟨rfl, rfl, rfl, rfl, rfl, rfl, rfl, rfl, wide_Divide x5 d (by assumption) (by assumption), ⟨wDiv _ _, wDiv_R8 (by first | exact R8_num _ | exact by assumption) (R4_num _), wDiv_R4 (R4_num _), rfl⟩, ?_⟩
  intro x6
  intro h2
  obtain ⟨rh2_1, h2⟩ := h2
  obtain ⟨rh2_21, h2⟩ := h2
  try simp only [num_vW (n := x5) (by assumption), num_vI (n := d) (by assumption)] at h2
  intro b7
  intro b8
  refine ⟨rfl, rfl, rfl, rfl, rfl, rfl, rfl, rfl, rfl, rfl, rfl, rfl, rfl, rfl, rfl, rfl, rfl, rfl, rfl, rfl, rfl, rfl, rfl, rfl, ?_⟩
  refine ⟨fun h3 => ?_, fun h3 => ?_⟩
  · refine ⟨rfl, rfl, rfl, rfl, rfl, rfl, rfl, rfl, ?_⟩
    refine ⟨rfl, rfl, rfl, rfl, rfl, rfl, rfl, rfl, ?_⟩
    have hq := (md_err (d := d) (by assumption) (by assumption) (by assumption)).1
    exact fin2 (by rw [num_vI r_a, num_vI r_b, num_vI r_d]; exact hq) R4_zero vI_zero
  · refine ⟨rfl, rfl, rfl, rfl, rfl, rfl, rfl, rfl, rfl, rfl, rfl, rfl, rfl, rfl, rfl, rfl, wide_narrow x6.1 (by assumption), ⟨_, wNar_R (R8_num _), rfl⟩, ?_⟩
    intro x9
    intro h4
    obtain ⟨rh4_1, h4⟩ := h4
    try simp only [num_vW (n := x6.1) (by assumption)] at h4
    refine ⟨rfl, rfl, rfl, rfl, rfl, rfl, rfl, rfl, ?_⟩
    refine ⟨rfl, rfl, rfl, rfl, rfl, rfl, rfl, rfl, ?_⟩
    have hq := md_ok (d := d) (by assumption) (by assumption) (by assumption) (by assumption)
    exact fin2 (by rw [num_vI r_a, num_vI r_b, num_vI r_d]; exact hq) (by assumption) rfl


theorem Try.sl42 : SlT Try.prog 42 3 (.int .i64 0) := SlT.of (by kernel_rfl) (by kernel_rfl) (by kernel_rfl) (by kernel_rfl) rfl
theorem Try.agg3 : ∀ w, (isAgg 3).run Try.prog w = .ok false w := fun w => by kernel_rfl
theorem Try.size3 : ∀ w, (sizeOf 3).run Try.prog w = .ok 1 w := fun w => by kernel_rfl
def ref1_at_C : List Value → List Slot → Ctr := fun vs hs => ⟨Int, fun zx => .int .i64 zx, fun _ => hs, fun zx => zx = dgt (rdv (varg vs 1) (sarg hs 0)) (ci (varg vs 2)).toNat⟩
set_option maxRecDepth 100000 in
theorem ref1_at_vc (a : Row) (i : Int) : codeW Try.prog 13 none 2000 none (bodyOf Try.f32) (.reg [.sem []] (.reg [.sem [], .sem [], .eq (f_len), .sem []] (.cond (.reg [.sem [], .sem [], .eq (f_idx), .specr [0] F_get, .sem []] (.done)) (.reg [.sem []] (.done)))))
    (init #[sv a, .int .i64 i] [(ss 3 a)]) (finW Try.prog Try.f32 [] [0] (X := Int) (fun zx => .int .i64 zx) (fun zx => [(ss 3 a)]) (fun zx => (zx = dgt (rdv (sv a) (ss 3 a)) i.toNat))) =
    ((PureRun Try.prog (do pure (.value (← Builtin.len_ #[42] 3 #[sv a]))) (.int .i64 ((vlen (sv a) : Nat) : Int))) ∧ ((decide (i < ((vlen (sv a) : Nat) : Int))) = true → (PureRun Try.prog (do pure (.value (← Instr.indexAt 42 (sv a) (.int .i64 i)))) (.pointer (some ⟨(vblk (sv a)), (Int.toNat i), none⟩))) ∧ (OpT Try.prog (do pure (.value (← Instr.loadAt 3 (.pointer (some ⟨(vblk (sv a)), (Int.toNat i), none⟩))))) [(ss 3 a)] Int (fun zx => .int .i64 zx) (fun _ => [(ss 3 a)]) (fun zx => (scells (ss 3 a))[(Int.toNat i)]? = some (.int .i64 zx))) ∧ (∃ zx : Int, (fun zx => (scells (ss 3 a))[(Int.toNat i)]? = some (.int .i64 zx)) zx) ∧ ∀ x1 : Int, ((scells (ss 3 a))[(Int.toNat i)]? = some (.int .i64 x1)) → ∃ zx : Int, (zx = dgt (rdv (sv a) (ss 3 a)) i.toNat) ∧ Value.int .i64 x1 = .int .i64 zx ∧ (ss 3 a) = (ss 3 a) ∧ True) ∧ ((decide (i < ((vlen (sv a) : Nat) : Int))) = false → ∃ zx : Int, (zx = dgt (rdv (sv a) (ss 3 a)) i.toNat) ∧ Value.int .i64 0 = .int .i64 zx ∧ (ss 3 a) = (ss 3 a) ∧ True)) := by kernel_rfl
set_option maxRecDepth 100000 in
theorem ref1_at (a : Row) (i : Int) (r_a : RowOK a) (hi : 0 ≤ i) : CallT Try.prog 32 #[sv a, .int .i64 i] [(ss 3 a)] Int (fun zx => .int .i64 zx) (fun zx => [(ss 3 a)]) (fun zx => (zx = dgt (rdv (sv a) (ss 3 a)) i.toNat)) := by
  refine call_of (c := bodyOf Try.f32) (n := 13) (fn := Try.f32) Try.mixed Try.func32 (by kernel_rfl) (by kernel_rfl) (by kernel_rfl) 2000 _ [] [0] rfl rfl (Eq.mpr (ref1_at_vc a i) ?_)
  have d_a := rdv_eq a 3
  have e_a := vlen_dg a
  refine ⟨xlen Try.sl42 3 a, ?_⟩
  refine ⟨fun h1 => ?_, fun h1 => ?_⟩
  · refine ⟨xidx Try.sl42 a .i64 i hi (by rw [← vlen_sv]; exact of_decide_eq_true (by assumption)), xgetR (e := 3) a 3 Try.agg3 (Int.toNat i) r_a (by rw [← vlen_dg]; have := of_decide_eq_true ‹_›; omega), wit_get (e := 3) a (Int.toNat i) r_a (by rw [← vlen_dg]; have := of_decide_eq_true ‹_›; omega), ?_⟩
    intro x1
    intro h2
    replace h2 := getR (e := 3) a (Int.toNat i) r_a (by rw [← vlen_dg]; have := of_decide_eq_true ‹_›; omega) h2
    exact ⟨_, by rw [d_a]; assumption, rfl, rfl, trivial⟩
  · exact ⟨0, by rw [d_a]; exact (dgt_out (by have := of_decide_eq_false ‹_›; omega)).symm, rfl, rfl, trivial⟩

def ref1_Trim_C : List Value → List Slot → Ctr := fun vs hs => ⟨Row, fun zx => sv zx, fun zx => [(ss 3 zx)], fun zx => RowOK zx ∧ ss 3 zx = (sarg hs 0) ∧ TrimR (rdv (varg vs 1) (sarg hs 0)) (dg zx)⟩
set_option maxRecDepth 100000 in
theorem ref1_Trim_vc (a : Row) : codeW Try.prog 21 none 2000 none (bodyOf Try.f31) (.reg [.sem []] (.reg [.sem [], .eq (f_len), .sem []] (.inv Nat (fun zx => [(0, sv a), (3, .int .i64 ((zx : Nat) : Int))]) (fun zx => [(0, (ss 3 a))]) (fun zx => TrimI (dg a) zx) (fun zx => zx) (fun x1 => .caseP (fun s => decide ((ci (s.fr 3)) > (0 : Int))) (.reg [.sem [], .gen [] (one (.bool true)), .sem [], .sem [], .sem [], .gen [] (fun vs => one (.int .i64 (ci (varg vs 0) - ci (varg vs 1))) vs), .eq (f_idx), .specr [0] F_get, .sem [], .sem []] (.cond (.reg [.sem [], .gen [] (fun vs => one (.int .i64 (ci (varg vs 0) - ci (varg vs 1))) vs), .sem []] (.done)) (.reg [.sem [], .sem [], .eq (f_take), .sem []] (.done)))) (.reg [.sem [], .gen [] (one (.bool false)), .sem [], .no, .no, .no, .no, .no, .no, .sem []] (.condF (.reg [.sem [], .sem [], .eq (f_take), .sem []] (.done))))))))
    (init #[sv a] [(ss 3 a)]) (finW Try.prog Try.f31 [] [0] (X := Row) (fun zx => sv zx) (fun zx => [(ss 3 zx)]) (fun zx => (RowOK zx ∧ ss 3 zx = (ss 3 a) ∧ TrimR (rdv (sv a) (ss 3 a)) (dg zx)))) =
    ((PureRun Try.prog (do pure (.value (← Builtin.len_ #[42] 3 #[sv a]))) (.int .i64 ((vlen (sv a) : Nat) : Int))) ∧ (∃ zx : Nat, (TrimI (dg a) zx) ∧ sv a = sv a ∧ Value.int .i64 ((vlen (sv a) : Nat) : Int) = .int .i64 ((zx : Nat) : Int) ∧ (ss 3 a) = (ss 3 a) ∧ True) ∧ ∀ x1 : Nat, ∀ jx1 : Nat → Value, (TrimI (dg a) x1) → ((decide (((x1 : Nat) : Int) > (0 : Int))) = true → (∃ _ : Unit, True ∧ Value.bool (decide (((x1 : Nat) : Int) > (0 : Int))) = .bool true) ∧ ∀ _ : Unit, (True) → true = true ∧ true = true ∧ true = true ∧ (∃ _ : Unit, True ∧ Value.int .i64 (IntKind.i64.wrap (((x1 : Nat) : Int) - 1)) = .int .i64 (((x1 : Nat) : Int) - 1)) ∧ ∀ _ : Unit, (True) → true = true ∧ (PureRun Try.prog (do pure (.value (← Instr.indexAt 42 (sv a) (.int .i64 (((x1 : Nat) : Int) - 1))))) (.pointer (some ⟨(vblk (sv a)), (Int.toNat (((x1 : Nat) : Int) - 1)), none⟩))) ∧ true = true ∧ (OpT Try.prog (do pure (.value (← Instr.loadAt 3 (.pointer (some ⟨(vblk (sv a)), (Int.toNat (((x1 : Nat) : Int) - 1)), none⟩))))) [(ss 3 a)] Int (fun zx => .int .i64 zx) (fun _ => [(ss 3 a)]) (fun zx => (scells (ss 3 a))[(Int.toNat (((x1 : Nat) : Int) - 1))]? = some (.int .i64 zx))) ∧ (∃ zx : Int, (fun zx => (scells (ss 3 a))[(Int.toNat (((x1 : Nat) : Int) - 1))]? = some (.int .i64 zx)) zx) ∧ ∀ x2 : Int, ((scells (ss 3 a))[(Int.toNat (((x1 : Nat) : Int) - 1))]? = some (.int .i64 x2)) → true = true ∧ ((x2 == (0 : Int)) = true → (∃ _ : Unit, True ∧ Value.int .i64 (IntKind.i64.wrap (((x1 : Nat) : Int) - 1)) = .int .i64 (((x1 : Nat) : Int) - 1)) ∧ ∀ _ : Unit, (True) → ∃ zy : Nat, (TrimI (dg a) zy) ∧ zy < x1 ∧ sv a = sv a ∧ Value.int .i64 (((x1 : Nat) : Int) - 1) = .int .i64 ((zy : Nat) : Int) ∧ (ss 3 a) = (ss 3 a) ∧ True) ∧ ((x2 == (0 : Int)) = false → (PureRun Try.prog (do pure (.value (← Instr.sliceAt 42 (sv a) none (some (.int .i64 ((x1 : Nat) : Int))) none))) ((vtake (sv a) (Int.toNat ((x1 : Nat) : Int))))) ∧ ∃ zx : Row, (RowOK zx ∧ ss 3 zx = (ss 3 a) ∧ TrimR (rdv (sv a) (ss 3 a)) (dg zx)) ∧ (vtake (sv a) (Int.toNat ((x1 : Nat) : Int))) = sv zx ∧ (ss 3 a) = (ss 3 zx) ∧ True)) ∧ ((decide (((x1 : Nat) : Int) > (0 : Int))) = false → (∃ _ : Unit, True ∧ Value.bool (decide (((x1 : Nat) : Int) > (0 : Int))) = .bool false) ∧ ∀ _ : Unit, (True) → false = !true ∧ false = !true ∧ false = !true ∧ false = !true ∧ false = !true ∧ false = !true ∧ (false = false) ∧ (PureRun Try.prog (do pure (.value (← Instr.sliceAt 42 (sv a) none (some (.int .i64 ((x1 : Nat) : Int))) none))) ((vtake (sv a) (Int.toNat ((x1 : Nat) : Int))))) ∧ ∃ zx : Row, (RowOK zx ∧ ss 3 zx = (ss 3 a) ∧ TrimR (rdv (sv a) (ss 3 a)) (dg zx)) ∧ (vtake (sv a) (Int.toNat ((x1 : Nat) : Int))) = sv zx ∧ (ss 3 a) = (ss 3 zx) ∧ True)) := by kernel_rfl
set_option maxRecDepth 100000 in
theorem ref1_Trim (a : Row) (r_a : RowOK a) (hl : (dg a).length ≤ 1073741824) : CallT Try.prog 31 #[sv a] [(ss 3 a)] Row (fun zx => sv zx) (fun zx => [(ss 3 zx)]) (fun zx => (RowOK zx ∧ ss 3 zx = (ss 3 a) ∧ TrimR (rdv (sv a) (ss 3 a)) (dg zx))) := by
  refine call_of (c := bodyOf Try.f31) (n := 21) (fn := Try.f31) Try.mixed Try.func31 (by kernel_rfl) (by kernel_rfl) (by kernel_rfl) 2000 _ [] [0] rfl rfl (Eq.mpr (ref1_Trim_vc a) ?_)
  have d_a := rdv_eq a 3
  have e_a := vlen_dg a
  refine ⟨xlen Try.sl42 3 a, ?_⟩
  refine ⟨?_, fun x1 jx1 h1 => ?_⟩
  · exact ⟨_, e_a ▸ trim_start _, rfl, rfl, rfl, trivial⟩
  · have L := h1
    have Ll := L.le
    refine ⟨fun h2 => ?_, fun h2 => ?_⟩
    · refine ⟨⟨(), trivial, congrArg Value.bool h2⟩, ?_⟩
      intro _
      intro _
      refine ⟨rfl, rfl, rfl, ⟨(), trivial, congrArg (Value.int .i64) (wrap_i64 _ (by simp only [decide_eq_true_eq, decide_eq_false_iff_not, gt_iff_lt, ge_iff_le, beq_iff_eq, beq_eq_false_iff_ne] at *; omega) (by simp only [decide_eq_true_eq, decide_eq_false_iff_not, gt_iff_lt, ge_iff_le, beq_iff_eq, beq_eq_false_iff_ne] at *; omega))⟩, ?_⟩
      intro _
      intro _
      refine ⟨rfl, xidx Try.sl42 a .i64 (((x1 : Nat) : Int) - 1) (by simp only [decide_eq_true_eq, decide_eq_false_iff_not, gt_iff_lt, ge_iff_le, beq_iff_eq, beq_eq_false_iff_ne] at *; omega) (by rw [← dg_len]; simp only [decide_eq_true_eq, decide_eq_false_iff_not, gt_iff_lt, ge_iff_le, beq_iff_eq, beq_eq_false_iff_ne] at *; omega), rfl, xgetR (e := 3) a 3 Try.agg3 (Int.toNat (((x1 : Nat) : Int) - 1)) r_a (by simp only [decide_eq_true_eq, decide_eq_false_iff_not, gt_iff_lt, ge_iff_le, beq_iff_eq, beq_eq_false_iff_ne] at *; omega), wit_get (e := 3) a (Int.toNat (((x1 : Nat) : Int) - 1)) r_a (by simp only [decide_eq_true_eq, decide_eq_false_iff_not, gt_iff_lt, ge_iff_le, beq_iff_eq, beq_eq_false_iff_ne] at *; omega), ?_⟩
      intro x2
      intro h3
      replace h3 := getR (e := 3) a (Int.toNat (((x1 : Nat) : Int) - 1)) r_a (by simp only [decide_eq_true_eq, decide_eq_false_iff_not, gt_iff_lt, ge_iff_le, beq_iff_eq, beq_eq_false_iff_ne] at *; omega) h3
      refine ⟨rfl, ?_⟩
      refine ⟨fun h4 => ?_, fun h4 => ?_⟩
      · refine ⟨⟨(), trivial, congrArg (Value.int .i64) (wrap_i64 _ (by simp only [decide_eq_true_eq, decide_eq_false_iff_not, gt_iff_lt, ge_iff_le, beq_iff_eq, beq_eq_false_iff_ne] at *; omega) (by simp only [decide_eq_true_eq, decide_eq_false_iff_not, gt_iff_lt, ge_iff_le, beq_iff_eq, beq_eq_false_iff_ne] at *; omega))⟩, ?_⟩
        intro _
        intro _
        have hd : dgt (dg a) (x1 - 1) = 0 := by
          simp only [decide_eq_true_eq, decide_eq_false_iff_not, gt_iff_lt, ge_iff_le, beq_iff_eq, beq_eq_false_iff_ne] at *
          have e1 : Int.toNat (((x1 : Nat) : Int) - 1) = x1 - 1 := by omega
          simp_all
        exact ⟨x1 - 1, trim_step L (by simp only [decide_eq_true_eq, decide_eq_false_iff_not, gt_iff_lt, ge_iff_le, beq_iff_eq, beq_eq_false_iff_ne] at *; omega) hd, (by simp only [decide_eq_true_eq, decide_eq_false_iff_not, gt_iff_lt, ge_iff_le, beq_iff_eq, beq_eq_false_iff_ne] at *; omega), rfl, congrArg (Value.int .i64) (by simp only [decide_eq_true_eq, decide_eq_false_iff_not, gt_iff_lt, ge_iff_le, beq_iff_eq, beq_eq_false_iff_ne] at *; omega), rfl, trivial⟩
      · refine ⟨xtake Try.sl42 a .i64 ((x1 : Nat) : Int) (by omega) (by rw [← dg_len]; omega), ?_⟩
        refine ⟨a.take x1, ⟨(r_a.take _).1, ss_take _ _ _, ?_⟩, vtake_sv a _ (by rw [← dg_len]; exact L.le), (ss_take _ _ _).symm, trivial⟩
        rw [d_a, (r_a.take _).2]
        refine trim_end L ?_
        simp only [decide_eq_true_eq, decide_eq_false_iff_not, gt_iff_lt, ge_iff_le, beq_iff_eq, beq_eq_false_iff_ne] at *
        first | exact .inl (by omega) | exact .inr (by rename_i hne; intro h0; simp_all) | exact .inr (by intro h0; simp_all)
    · refine ⟨⟨(), trivial, congrArg Value.bool h2⟩, ?_⟩
      intro _
      intro _
      refine ⟨rfl, rfl, rfl, rfl, rfl, rfl, ?_⟩
      refine ⟨rfl, ?_⟩
      refine ⟨xtake Try.sl42 a .i64 ((x1 : Nat) : Int) (by omega) (by rw [← dg_len]; omega), ?_⟩
      refine ⟨a.take x1, ⟨(r_a.take _).1, ss_take _ _ _, ?_⟩, vtake_sv a _ (by rw [← dg_len]; exact L.le), (ss_take _ _ _).symm, trivial⟩
      rw [d_a, (r_a.take _).2]
      refine trim_end L ?_
      simp only [decide_eq_true_eq, decide_eq_false_iff_not, gt_iff_lt, ge_iff_le, beq_iff_eq, beq_eq_false_iff_ne] at *
      first | exact .inl (by omega) | exact .inr (by rename_i hne; intro h0; simp_all) | exact .inr (by intro h0; simp_all)

def ref1_Cmp_C : List Value → List Slot → Ctr := fun vs hs => ⟨Int, fun zx => .int .i64 zx, fun _ => hs, fun zx => zx = hCmp (nv (rdv (varg vs 1) (sarg hs 0))) (nv (rdv (varg vs 2) (sarg hs 1)))⟩
set_option maxRecDepth 100000 in
theorem ref1_Cmp_vc (a : Row) (b : Row) : codeW Try.prog 30 none 2000 none (bodyOf Try.f20) (.reg [.sem []] (.reg [.sem [], .eq (f_len), .sem [], .eq (f_len), .sem [], .gen [] (fun vs => one (.int .i64 (ci (varg vs 0) - ci (varg vs 1))) vs), .sem []] (.inv Nat (fun zx => [(0, sv a), (1, sv b), (5, .int .i64 (((zx : Nat) : Int) - 1))]) (fun zx => [(0, (ss 3 a)), (1, (ss 3 b))]) (fun zx => CmpI (dg a) (dg b) zx) (fun zx => zx) (fun x1 => .reg [.sem [], .sem []] (.cond (.reg [.sem [], .sem [], .callr [0] ref1_at_C, .sem [], .sem [], .callr [1] ref1_at_C, .sem []] (.cond (.reg [.sem []] (.done)) (.reg [.sem [], .sem [], .callr [0] ref1_at_C, .sem [], .sem [], .callr [1] ref1_at_C, .sem []] (.cond (.reg [.sem []] (.done)) (.reg [.sem [], .gen [] (fun vs => one (.int .i64 (ci (varg vs 0) - ci (varg vs 1))) vs), .sem []] (.done)))))) (.reg [.sem []] (.done)))))))
    (init #[sv a, sv b] [(ss 3 a), (ss 3 b)]) (finW Try.prog Try.f20 [] [0, 1] (X := Int) (fun zx => .int .i64 zx) (fun zx => [(ss 3 a), (ss 3 b)]) (fun zx => (zx = hCmp (nv (rdv (sv a) (ss 3 a))) (nv (rdv (sv b) (ss 3 b)))))) =
    ((PureRun Try.prog (do pure (.value (← Builtin.len_ #[42] 3 #[sv a]))) (.int .i64 ((vlen (sv a) : Nat) : Int))) ∧ (PureRun Try.prog (do pure (.value (← Builtin.len_ #[42] 3 #[sv b]))) (.int .i64 ((vlen (sv b) : Nat) : Int))) ∧ (∃ _ : Unit, True ∧ Value.int .i64 (IntKind.i64.wrap ((if ((vlen (sv b) : Nat) : Int) > ((vlen (sv a) : Nat) : Int) then ((vlen (sv b) : Nat) : Int) else ((vlen (sv a) : Nat) : Int)) - 1)) = .int .i64 ((if ((vlen (sv b) : Nat) : Int) > ((vlen (sv a) : Nat) : Int) then ((vlen (sv b) : Nat) : Int) else ((vlen (sv a) : Nat) : Int)) - 1)) ∧ ∀ _ : Unit, (True) → (∃ zx : Nat, (CmpI (dg a) (dg b) zx) ∧ sv a = sv a ∧ sv b = sv b ∧ Value.int .i64 ((if ((vlen (sv b) : Nat) : Int) > ((vlen (sv a) : Nat) : Int) then ((vlen (sv b) : Nat) : Int) else ((vlen (sv a) : Nat) : Int)) - 1) = .int .i64 (((zx : Nat) : Int) - 1) ∧ (ss 3 a) = (ss 3 a) ∧ (ss 3 b) = (ss 3 b) ∧ True) ∧ ∀ x1 : Nat, ∀ jx1 : Nat → Value, (CmpI (dg a) (dg b) x1) → ((decide ((((x1 : Nat) : Int) - 1) ≥ (0 : Int))) = true → (CallT Try.prog 32 #[sv a, .int .i64 (((x1 : Nat) : Int) - 1)] [(ss 3 a)] Int (fun zx => .int .i64 zx) (fun _ => [(ss 3 a)]) (fun zx => zx = dgt (rdv (sv a) (ss 3 a)) (((x1 : Nat) : Int) - 1).toNat)) ∧ (∃ zx : Int, (fun zx => zx = dgt (rdv (sv a) (ss 3 a)) (((x1 : Nat) : Int) - 1).toNat) zx) ∧ ∀ x2 : Int, (x2 = dgt (rdv (sv a) (ss 3 a)) (((x1 : Nat) : Int) - 1).toNat) → (CallT Try.prog 32 #[sv b, .int .i64 (((x1 : Nat) : Int) - 1)] [(ss 3 b)] Int (fun zx => .int .i64 zx) (fun _ => [(ss 3 b)]) (fun zx => zx = dgt (rdv (sv b) (ss 3 b)) (((x1 : Nat) : Int) - 1).toNat)) ∧ (∃ zx : Int, (fun zx => zx = dgt (rdv (sv b) (ss 3 b)) (((x1 : Nat) : Int) - 1).toNat) zx) ∧ ∀ x3 : Int, (x3 = dgt (rdv (sv b) (ss 3 b)) (((x1 : Nat) : Int) - 1).toNat) → ((decide (x2 < x3)) = true → ∃ zx : Int, (zx = hCmp (nv (rdv (sv a) (ss 3 a))) (nv (rdv (sv b) (ss 3 b)))) ∧ Value.int .i64 (-1) = .int .i64 zx ∧ (ss 3 a) = (ss 3 a) ∧ (ss 3 b) = (ss 3 b) ∧ True) ∧ ((decide (x2 < x3)) = false → (CallT Try.prog 32 #[sv a, .int .i64 (((x1 : Nat) : Int) - 1)] [(ss 3 a)] Int (fun zx => .int .i64 zx) (fun _ => [(ss 3 a)]) (fun zx => zx = dgt (rdv (sv a) (ss 3 a)) (((x1 : Nat) : Int) - 1).toNat)) ∧ (∃ zx : Int, (fun zx => zx = dgt (rdv (sv a) (ss 3 a)) (((x1 : Nat) : Int) - 1).toNat) zx) ∧ ∀ x4 : Int, (x4 = dgt (rdv (sv a) (ss 3 a)) (((x1 : Nat) : Int) - 1).toNat) → (CallT Try.prog 32 #[sv b, .int .i64 (((x1 : Nat) : Int) - 1)] [(ss 3 b)] Int (fun zx => .int .i64 zx) (fun _ => [(ss 3 b)]) (fun zx => zx = dgt (rdv (sv b) (ss 3 b)) (((x1 : Nat) : Int) - 1).toNat)) ∧ (∃ zx : Int, (fun zx => zx = dgt (rdv (sv b) (ss 3 b)) (((x1 : Nat) : Int) - 1).toNat) zx) ∧ ∀ x5 : Int, (x5 = dgt (rdv (sv b) (ss 3 b)) (((x1 : Nat) : Int) - 1).toNat) → ((decide (x4 > x5)) = true → ∃ zx : Int, (zx = hCmp (nv (rdv (sv a) (ss 3 a))) (nv (rdv (sv b) (ss 3 b)))) ∧ Value.int .i64 1 = .int .i64 zx ∧ (ss 3 a) = (ss 3 a) ∧ (ss 3 b) = (ss 3 b) ∧ True) ∧ ((decide (x4 > x5)) = false → (∃ _ : Unit, True ∧ Value.int .i64 (IntKind.i64.wrap ((((x1 : Nat) : Int) - 1) - 1)) = .int .i64 ((((x1 : Nat) : Int) - 1) - 1)) ∧ ∀ _ : Unit, (True) → ∃ zy : Nat, (CmpI (dg a) (dg b) zy) ∧ zy < x1 ∧ sv a = sv a ∧ sv b = sv b ∧ Value.int .i64 ((((x1 : Nat) : Int) - 1) - 1) = .int .i64 (((zy : Nat) : Int) - 1) ∧ (ss 3 a) = (ss 3 a) ∧ (ss 3 b) = (ss 3 b) ∧ True))) ∧ ((decide ((((x1 : Nat) : Int) - 1) ≥ (0 : Int))) = false → ∃ zx : Int, (zx = hCmp (nv (rdv (sv a) (ss 3 a))) (nv (rdv (sv b) (ss 3 b)))) ∧ Value.int .i64 0 = .int .i64 zx ∧ (ss 3 a) = (ss 3 a) ∧ (ss 3 b) = (ss 3 b) ∧ True)) := by kernel_rfl
set_option maxRecDepth 100000 in
theorem ref1_Cmp (a : Row) (b : Row) (r_a : RowOK a) (r_b : RowOK b) (la : (dg a).length ≤ 65536) (lb : (dg b).length ≤ 65536) : CallT Try.prog 20 #[sv a, sv b] [(ss 3 a), (ss 3 b)] Int (fun zx => .int .i64 zx) (fun zx => [(ss 3 a), (ss 3 b)]) (fun zx => (zx = hCmp (nv (rdv (sv a) (ss 3 a))) (nv (rdv (sv b) (ss 3 b))))) := by
  refine call_of (c := bodyOf Try.f20) (n := 30) (fn := Try.f20) Try.mixed Try.func20 (by kernel_rfl) (by kernel_rfl) (by kernel_rfl) 2000 _ [] [0, 1] rfl rfl (Eq.mpr (ref1_Cmp_vc a b) ?_)
  have d_a := rdv_eq a 3
  have d_b := rdv_eq b 3
  have e_a := vlen_dg a
  have e_b := vlen_dg b
  refine ⟨xlen Try.sl42 3 a, xlen Try.sl42 3 b, ⟨(), trivial, congrArg (Value.int .i64) (wrap_i64 _ (by rw [e_a, e_b]; split <;> omega) (by rw [e_a, e_b]; split <;> omega))⟩, ?_⟩
  intro _
  intro _
  refine ⟨?_, fun x1 jx1 h1 => ?_⟩
  · exact ⟨_, cmp_start _ _, rfl, rfl, congrArg (Value.int .i64) (by rw [e_a, e_b]; split <;> omega), rfl, rfl, trivial⟩
  · have L := h1
    have Ll := L.le
    refine ⟨fun h2 => ?_, fun h2 => ?_⟩
    · refine ⟨ref1_at a (((x1 : Nat) : Int) - 1) (by first | assumption | exact rowOK_lit _ _ (by decide)) (by simp only [decide_eq_true_eq, decide_eq_false_iff_not, gt_iff_lt, ge_iff_le, beq_iff_eq, beq_eq_false_iff_ne] at *; omega), ⟨_, rfl⟩, ?_⟩
      intro x2
      intro h3
      simp only [rdv_eq] at h3
      refine ⟨ref1_at b (((x1 : Nat) : Int) - 1) (by first | assumption | exact rowOK_lit _ _ (by decide)) (by simp only [decide_eq_true_eq, decide_eq_false_iff_not, gt_iff_lt, ge_iff_le, beq_iff_eq, beq_eq_false_iff_ne] at *; omega), ⟨_, rfl⟩, ?_⟩
      intro x3
      intro h4
      simp only [rdv_eq] at h4
      refine ⟨fun h5 => ?_, fun h5 => ?_⟩
      · have et : Int.toNat (((x1 : Nat) : Int) - 1) = x1 - 1 := by simp only [decide_eq_true_eq, decide_eq_false_iff_not, gt_iff_lt, ge_iff_le, beq_iff_eq, beq_eq_false_iff_ne] at *; omega
        have hd : dgt (dg a) (x1 - 1) < dgt (dg b) (x1 - 1) := by
          simp only [et] at *
          simp only [decide_eq_true_eq, decide_eq_false_iff_not, gt_iff_lt, ge_iff_le, beq_iff_eq, beq_eq_false_iff_ne] at *
          omega
        exact ⟨_, by rw [d_a, d_b]; exact hCmp_lt (cmp_lt r_a.dig r_b.dig L (by simp only [decide_eq_true_eq, decide_eq_false_iff_not, gt_iff_lt, ge_iff_le, beq_iff_eq, beq_eq_false_iff_ne] at *; omega) hd), rfl, rfl, rfl, trivial⟩
      · refine ⟨ref1_at a (((x1 : Nat) : Int) - 1) (by first | assumption | exact rowOK_lit _ _ (by decide)) (by simp only [decide_eq_true_eq, decide_eq_false_iff_not, gt_iff_lt, ge_iff_le, beq_iff_eq, beq_eq_false_iff_ne] at *; omega), ⟨_, rfl⟩, ?_⟩
        intro x4
        intro h6
        simp only [rdv_eq] at h6
        refine ⟨ref1_at b (((x1 : Nat) : Int) - 1) (by first | assumption | exact rowOK_lit _ _ (by decide)) (by simp only [decide_eq_true_eq, decide_eq_false_iff_not, gt_iff_lt, ge_iff_le, beq_iff_eq, beq_eq_false_iff_ne] at *; omega), ⟨_, rfl⟩, ?_⟩
        intro x5
        intro h7
        simp only [rdv_eq] at h7
        refine ⟨fun h8 => ?_, fun h8 => ?_⟩
        · have et : Int.toNat (((x1 : Nat) : Int) - 1) = x1 - 1 := by simp only [decide_eq_true_eq, decide_eq_false_iff_not, gt_iff_lt, ge_iff_le, beq_iff_eq, beq_eq_false_iff_ne] at *; omega
          have hd : dgt (dg a) (x1 - 1) > dgt (dg b) (x1 - 1) := by
            simp only [et] at *
            simp only [decide_eq_true_eq, decide_eq_false_iff_not, gt_iff_lt, ge_iff_le, beq_iff_eq, beq_eq_false_iff_ne] at *
            omega
          exact ⟨_, by rw [d_a, d_b]; exact hCmp_gt (cmp_lt r_b.dig r_a.dig L.symm (by simp only [decide_eq_true_eq, decide_eq_false_iff_not, gt_iff_lt, ge_iff_le, beq_iff_eq, beq_eq_false_iff_ne] at *; omega) hd), rfl, rfl, rfl, trivial⟩
        · refine ⟨⟨(), trivial, congrArg (Value.int .i64) (wrap_i64 _ (by simp only [decide_eq_true_eq, decide_eq_false_iff_not, gt_iff_lt, ge_iff_le, beq_iff_eq, beq_eq_false_iff_ne] at *; omega) (by simp only [decide_eq_true_eq, decide_eq_false_iff_not, gt_iff_lt, ge_iff_le, beq_iff_eq, beq_eq_false_iff_ne] at *; omega))⟩, ?_⟩
          intro _
          intro _
          have et : Int.toNat (((x1 : Nat) : Int) - 1) = x1 - 1 := by simp only [decide_eq_true_eq, decide_eq_false_iff_not, gt_iff_lt, ge_iff_le, beq_iff_eq, beq_eq_false_iff_ne] at *; omega
          have hd : dgt (dg a) (x1 - 1) = dgt (dg b) (x1 - 1) := by
            simp only [et] at *
            simp only [decide_eq_true_eq, decide_eq_false_iff_not, gt_iff_lt, ge_iff_le, beq_iff_eq, beq_eq_false_iff_ne] at *
            omega
          exact ⟨x1 - 1, cmp_step L (by simp only [decide_eq_true_eq, decide_eq_false_iff_not, gt_iff_lt, ge_iff_le, beq_iff_eq, beq_eq_false_iff_ne] at *; omega) hd, (by simp only [decide_eq_true_eq, decide_eq_false_iff_not, gt_iff_lt, ge_iff_le, beq_iff_eq, beq_eq_false_iff_ne] at *; omega), rfl, rfl, congrArg (Value.int .i64) (by simp only [decide_eq_true_eq, decide_eq_false_iff_not, gt_iff_lt, ge_iff_le, beq_iff_eq, beq_eq_false_iff_ne] at *; omega), rfl, rfl, trivial⟩
    · have ez : x1 = 0 := (by simp only [decide_eq_true_eq, decide_eq_false_iff_not, gt_iff_lt, ge_iff_le, beq_iff_eq, beq_eq_false_iff_ne] at *; omega)
      rw [ez] at L
      exact ⟨_, by rw [d_a, d_b]; exact hCmp_eq (cmp_end L), rfl, rfl, rfl, trivial⟩

def ref1_Add_C : List Value → List Slot → Ctr := fun vs hs => ⟨Row, fun zx => sv zx, fun zx => [(sarg hs 0), (sarg hs 1), (ss 3 zx)], fun zx => RowOK zx ∧ nv (dg zx) = nv (rdv (varg vs 1) (sarg hs 0)) + nv (rdv (varg vs 2) (sarg hs 1)) ∧ Canon (dg zx)⟩
set_option maxRecDepth 100000 in
set_option maxHeartbeats 1000000 in
theorem ref1_Add_vc (a : Row) (b : Row) : codeW Try.prog 40 none 2000 none (bodyOf Try.f33) (.reg [.sem []] (.reg [.sem []] (.reg [.sem []] (.reg [.sem []] (.inv (Nat × Int × Row) (fun zx => [(0, sv a), (1, sv b), (5, sv zx.2.2), (6, .int .i64 zx.2.1), (7, .int .i64 ((zx.1 : Nat) : Int))]) (fun zx => [(0, (ss 3 a)), (1, (ss 3 b)), (20, (ss 3 zx.2.2))]) (fun zx => AddI (dg a) (dg b) zx.1 zx.2.1 (dg zx.2.2) ∧ RowOK zx.2.2) (fun zx => 2 * ((max (dg a).length (dg b).length) + 1 - zx.1) + zx.2.1.toNat) (fun x1 => .caseP (fun s => decide ((ci (s.fr 7)) < (if ((vlen (sv b) : Nat) : Int) > ((vlen (sv a) : Nat) : Int) then ((vlen (sv b) : Nat) : Int) else ((vlen (sv a) : Nat) : Int)))) (.reg [.sem [], .sem [], .eq (f_len), .sem [], .eq (f_len), .sem [], .gen [] (one (.bool true)), .sem [], .no, .no, .sem []] (.condT (.reg [.sem [], .sem [], .callr [0] ref1_at_C, .sem [], .sem [], .callr [1] ref1_at_C, .gen [] (fun vs => one (.int .i64 (ci (varg vs 0) + ci (varg vs 1))) vs), .sem [], .gen [] (fun vs => one (.int .i64 (ci (varg vs 0) + ci (varg vs 1))) vs), .sem []] (.reg [.sem [], .sem [], .gen [] (fun vs => one (.int .i64 (ci (varg vs 0) % 65536)) vs), .sem [.nw 2], .specw [20, 2] [20, 2] (F_app 3), .sem []] (.reg [.sem [], .gen [] (fun vs => one (.int .i64 (ci (varg vs 0) / 65536)) vs), .sem []] (.reg [.sem [], .gen [] (fun vs => one (.int .i64 (ci (varg vs 0) + ci (varg vs 1))) vs), .sem []] (.done))))))) (.reg [.sem [], .sem [], .eq (f_len), .sem [], .eq (f_len), .sem [], .gen [] (one (.bool false)), .sem [], .sem [], .sem [], .sem []] (.cond (.reg [.sem [], .sem [], .callr [0] ref1_at_C, .sem [], .sem [], .callr [1] ref1_at_C, .gen [] (fun vs => one (.int .i64 (ci (varg vs 0) + ci (varg vs 1))) vs), .sem [], .gen [] (fun vs => one (.int .i64 (ci (varg vs 0) + ci (varg vs 1))) vs), .sem []] (.reg [.sem [], .sem [], .gen [] (fun vs => one (.int .i64 (ci (varg vs 0) % 65536)) vs), .sem [.nw 2], .specw [20, 2] [20, 2] (F_app 3), .sem []] (.reg [.sem [], .gen [] (fun vs => one (.int .i64 (ci (varg vs 0) / 65536)) vs), .sem []] (.reg [.sem [], .gen [] (fun vs => one (.int .i64 (ci (varg vs 0) + ci (varg vs 1))) vs), .sem []] (.done))))) (.reg [.sem [], .callw [20] [20] ref1_Trim_C, .sem []] (.done))))))))))
    (init #[sv a, sv b] [(ss 3 a), (ss 3 b)]) (finW Try.prog Try.f33 [] [0, 1, 20] (X := Row) (fun zx => sv zx) (fun zx => [(ss 3 a), (ss 3 b), (ss 3 zx)]) (fun zx => (RowOK zx ∧ nv (dg zx) = nv (rdv (sv a) (ss 3 a)) + nv (rdv (sv b) (ss 3 b)) ∧ Canon (dg zx)))) =
    ((∃ zx : Nat × Int × Row, (AddI (dg a) (dg b) zx.1 zx.2.1 (dg zx.2.2) ∧ RowOK zx.2.2) ∧ sv a = sv a ∧ sv b = sv b ∧ Value.slice none 0 0 = sv zx.2.2 ∧ Value.int .i64 0 = .int .i64 zx.2.1 ∧ Value.int .i64 0 = .int .i64 ((zx.1 : Nat) : Int) ∧ (ss 3 a) = (ss 3 a) ∧ (ss 3 b) = (ss 3 b) ∧ Slot.free = (ss 3 zx.2.2) ∧ True) ∧ ∀ x1 : Nat × Int × Row, ∀ jx1 : Nat → Value, (AddI (dg a) (dg b) x1.1 x1.2.1 (dg x1.2.2) ∧ RowOK x1.2.2) → ((decide (((x1.1 : Nat) : Int) < (if ((vlen (sv b) : Nat) : Int) > ((vlen (sv a) : Nat) : Int) then ((vlen (sv b) : Nat) : Int) else ((vlen (sv a) : Nat) : Int)))) = true → (PureRun Try.prog (do pure (.value (← Builtin.len_ #[42] 3 #[sv a]))) (.int .i64 ((vlen (sv a) : Nat) : Int))) ∧ (PureRun Try.prog (do pure (.value (← Builtin.len_ #[42] 3 #[sv b]))) (.int .i64 ((vlen (sv b) : Nat) : Int))) ∧ (∃ _ : Unit, True ∧ Value.bool (decide (((x1.1 : Nat) : Int) < (if ((vlen (sv b) : Nat) : Int) > ((vlen (sv a) : Nat) : Int) then ((vlen (sv b) : Nat) : Int) else ((vlen (sv a) : Nat) : Int)))) = .bool true) ∧ ∀ _ : Unit, (True) → true = !false ∧ true = !false ∧ (true = true) ∧ (CallT Try.prog 32 #[sv a, .int .i64 ((x1.1 : Nat) : Int)] [(ss 3 a)] Int (fun zx => .int .i64 zx) (fun _ => [(ss 3 a)]) (fun zx => zx = dgt (rdv (sv a) (ss 3 a)) ((x1.1 : Nat) : Int).toNat)) ∧ (∃ zx : Int, (fun zx => zx = dgt (rdv (sv a) (ss 3 a)) ((x1.1 : Nat) : Int).toNat) zx) ∧ ∀ x2 : Int, (x2 = dgt (rdv (sv a) (ss 3 a)) ((x1.1 : Nat) : Int).toNat) → (CallT Try.prog 32 #[sv b, .int .i64 ((x1.1 : Nat) : Int)] [(ss 3 b)] Int (fun zx => .int .i64 zx) (fun _ => [(ss 3 b)]) (fun zx => zx = dgt (rdv (sv b) (ss 3 b)) ((x1.1 : Nat) : Int).toNat)) ∧ (∃ zx : Int, (fun zx => zx = dgt (rdv (sv b) (ss 3 b)) ((x1.1 : Nat) : Int).toNat) zx) ∧ ∀ x3 : Int, (x3 = dgt (rdv (sv b) (ss 3 b)) ((x1.1 : Nat) : Int).toNat) → (∃ _ : Unit, True ∧ Value.int .i64 (IntKind.i64.wrap (x2 + x3)) = .int .i64 (x2 + x3)) ∧ ∀ _ : Unit, (True) → (∃ _ : Unit, True ∧ Value.int .i64 (IntKind.i64.wrap ((x2 + x3) + x1.2.1)) = .int .i64 ((x2 + x3) + x1.2.1)) ∧ ∀ _ : Unit, (True) → (∃ _ : Unit, True ∧ Value.int .i64 (Int.tmod ((x2 + x3) + x1.2.1) 65536) = .int .i64 (((x2 + x3) + x1.2.1) % 65536)) ∧ ∀ _ : Unit, (True) → ∀ b4 : Nat, (OpT Try.prog (do pure (.value (← Builtin.append_ #[42, 42] 42 #[sv x1.2.2, .slice (some ⟨b4, 0, none⟩) 1 1]))) [(ss 3 x1.2.2), .blk b4 (.cells #[.int .i64 (((x2 + x3) + x1.2.1) % 65536)] 3 (0, 0))] Row (fun zx => sv zx) (fun zx => [(ss 3 zx), .blk b4 (.cells #[.int .i64 (((x2 + x3) + x1.2.1) % 65536)] 3 (0, 0))]) (fun zx => vals zx = rvals (sv x1.2.2) (ss 3 x1.2.2) ++ [.int .i64 (((x2 + x3) + x1.2.1) % 65536)])) ∧ (∃ zx : Row, (fun zx => vals zx = rvals (sv x1.2.2) (ss 3 x1.2.2) ++ [.int .i64 (((x2 + x3) + x1.2.1) % 65536)]) zx) ∧ ∀ x5 : Row, (vals x5 = rvals (sv x1.2.2) (ss 3 x1.2.2) ++ [.int .i64 (((x2 + x3) + x1.2.1) % 65536)]) → (∃ _ : Unit, True ∧ Value.int .i64 (IntKind.i64.wrap (Int.tdiv ((x2 + x3) + x1.2.1) 65536)) = .int .i64 (((x2 + x3) + x1.2.1) / 65536)) ∧ ∀ _ : Unit, (True) → (∃ _ : Unit, True ∧ Value.int .i64 (IntKind.i64.wrap (((x1.1 : Nat) : Int) + 1)) = .int .i64 (((x1.1 : Nat) : Int) + 1)) ∧ ∀ _ : Unit, (True) → ∃ zy : Nat × Int × Row, (AddI (dg a) (dg b) zy.1 zy.2.1 (dg zy.2.2) ∧ RowOK zy.2.2) ∧ 2 * ((max (dg a).length (dg b).length) + 1 - zy.1) + zy.2.1.toNat < 2 * ((max (dg a).length (dg b).length) + 1 - x1.1) + x1.2.1.toNat ∧ sv a = sv a ∧ sv b = sv b ∧ sv x5 = sv zy.2.2 ∧ Value.int .i64 (((x2 + x3) + x1.2.1) / 65536) = .int .i64 zy.2.1 ∧ Value.int .i64 (((x1.1 : Nat) : Int) + 1) = .int .i64 ((zy.1 : Nat) : Int) ∧ (ss 3 a) = (ss 3 a) ∧ (ss 3 b) = (ss 3 b) ∧ (ss 3 x5) = (ss 3 zy.2.2) ∧ True) ∧ ((decide (((x1.1 : Nat) : Int) < (if ((vlen (sv b) : Nat) : Int) > ((vlen (sv a) : Nat) : Int) then ((vlen (sv b) : Nat) : Int) else ((vlen (sv a) : Nat) : Int)))) = false → (PureRun Try.prog (do pure (.value (← Builtin.len_ #[42] 3 #[sv a]))) (.int .i64 ((vlen (sv a) : Nat) : Int))) ∧ (PureRun Try.prog (do pure (.value (← Builtin.len_ #[42] 3 #[sv b]))) (.int .i64 ((vlen (sv b) : Nat) : Int))) ∧ (∃ _ : Unit, True ∧ Value.bool (decide (((x1.1 : Nat) : Int) < (if ((vlen (sv b) : Nat) : Int) > ((vlen (sv a) : Nat) : Int) then ((vlen (sv b) : Nat) : Int) else ((vlen (sv a) : Nat) : Int)))) = .bool false) ∧ ∀ _ : Unit, (True) → false = false ∧ false = false ∧ ((decide (x1.2.1 > (0 : Int))) = true → (CallT Try.prog 32 #[sv a, .int .i64 ((x1.1 : Nat) : Int)] [(ss 3 a)] Int (fun zx => .int .i64 zx) (fun _ => [(ss 3 a)]) (fun zx => zx = dgt (rdv (sv a) (ss 3 a)) ((x1.1 : Nat) : Int).toNat)) ∧ (∃ zx : Int, (fun zx => zx = dgt (rdv (sv a) (ss 3 a)) ((x1.1 : Nat) : Int).toNat) zx) ∧ ∀ x6 : Int, (x6 = dgt (rdv (sv a) (ss 3 a)) ((x1.1 : Nat) : Int).toNat) → (CallT Try.prog 32 #[sv b, .int .i64 ((x1.1 : Nat) : Int)] [(ss 3 b)] Int (fun zx => .int .i64 zx) (fun _ => [(ss 3 b)]) (fun zx => zx = dgt (rdv (sv b) (ss 3 b)) ((x1.1 : Nat) : Int).toNat)) ∧ (∃ zx : Int, (fun zx => zx = dgt (rdv (sv b) (ss 3 b)) ((x1.1 : Nat) : Int).toNat) zx) ∧ ∀ x7 : Int, (x7 = dgt (rdv (sv b) (ss 3 b)) ((x1.1 : Nat) : Int).toNat) → (∃ _ : Unit, True ∧ Value.int .i64 (IntKind.i64.wrap (x6 + x7)) = .int .i64 (x6 + x7)) ∧ ∀ _ : Unit, (True) → (∃ _ : Unit, True ∧ Value.int .i64 (IntKind.i64.wrap ((x6 + x7) + x1.2.1)) = .int .i64 ((x6 + x7) + x1.2.1)) ∧ ∀ _ : Unit, (True) → (∃ _ : Unit, True ∧ Value.int .i64 (Int.tmod ((x6 + x7) + x1.2.1) 65536) = .int .i64 (((x6 + x7) + x1.2.1) % 65536)) ∧ ∀ _ : Unit, (True) → ∀ b8 : Nat, (OpT Try.prog (do pure (.value (← Builtin.append_ #[42, 42] 42 #[sv x1.2.2, .slice (some ⟨b8, 0, none⟩) 1 1]))) [(ss 3 x1.2.2), .blk b8 (.cells #[.int .i64 (((x6 + x7) + x1.2.1) % 65536)] 3 (0, 0))] Row (fun zx => sv zx) (fun zx => [(ss 3 zx), .blk b8 (.cells #[.int .i64 (((x6 + x7) + x1.2.1) % 65536)] 3 (0, 0))]) (fun zx => vals zx = rvals (sv x1.2.2) (ss 3 x1.2.2) ++ [.int .i64 (((x6 + x7) + x1.2.1) % 65536)])) ∧ (∃ zx : Row, (fun zx => vals zx = rvals (sv x1.2.2) (ss 3 x1.2.2) ++ [.int .i64 (((x6 + x7) + x1.2.1) % 65536)]) zx) ∧ ∀ x9 : Row, (vals x9 = rvals (sv x1.2.2) (ss 3 x1.2.2) ++ [.int .i64 (((x6 + x7) + x1.2.1) % 65536)]) → (∃ _ : Unit, True ∧ Value.int .i64 (IntKind.i64.wrap (Int.tdiv ((x6 + x7) + x1.2.1) 65536)) = .int .i64 (((x6 + x7) + x1.2.1) / 65536)) ∧ ∀ _ : Unit, (True) → (∃ _ : Unit, True ∧ Value.int .i64 (IntKind.i64.wrap (((x1.1 : Nat) : Int) + 1)) = .int .i64 (((x1.1 : Nat) : Int) + 1)) ∧ ∀ _ : Unit, (True) → ∃ zy : Nat × Int × Row, (AddI (dg a) (dg b) zy.1 zy.2.1 (dg zy.2.2) ∧ RowOK zy.2.2) ∧ 2 * ((max (dg a).length (dg b).length) + 1 - zy.1) + zy.2.1.toNat < 2 * ((max (dg a).length (dg b).length) + 1 - x1.1) + x1.2.1.toNat ∧ sv a = sv a ∧ sv b = sv b ∧ sv x9 = sv zy.2.2 ∧ Value.int .i64 (((x6 + x7) + x1.2.1) / 65536) = .int .i64 zy.2.1 ∧ Value.int .i64 (((x1.1 : Nat) : Int) + 1) = .int .i64 ((zy.1 : Nat) : Int) ∧ (ss 3 a) = (ss 3 a) ∧ (ss 3 b) = (ss 3 b) ∧ (ss 3 x9) = (ss 3 zy.2.2) ∧ True) ∧ ((decide (x1.2.1 > (0 : Int))) = false → (CallT Try.prog 31 #[sv x1.2.2] [(ss 3 x1.2.2)] Row (fun zx => sv zx) (fun zx => [(ss 3 zx)]) (fun zx => RowOK zx ∧ ss 3 zx = (ss 3 x1.2.2) ∧ TrimR (rdv (sv x1.2.2) (ss 3 x1.2.2)) (dg zx))) ∧ (∃ zx : Row, (fun zx => RowOK zx ∧ ss 3 zx = (ss 3 x1.2.2) ∧ TrimR (rdv (sv x1.2.2) (ss 3 x1.2.2)) (dg zx)) zx) ∧ ∀ x10 : Row, (RowOK x10 ∧ ss 3 x10 = (ss 3 x1.2.2) ∧ TrimR (rdv (sv x1.2.2) (ss 3 x1.2.2)) (dg x10)) → ∃ zx : Row, (RowOK zx ∧ nv (dg zx) = nv (rdv (sv a) (ss 3 a)) + nv (rdv (sv b) (ss 3 b)) ∧ Canon (dg zx)) ∧ sv x10 = sv zx ∧ (ss 3 a) = (ss 3 a) ∧ (ss 3 b) = (ss 3 b) ∧ (ss 3 x10) = (ss 3 zx) ∧ True))) := by kernel_rfl
set_option maxRecDepth 100000 in
set_option maxHeartbeats 1000000 in
theorem ref1_Add (a : Row) (b : Row) (r_a : RowOK a) (r_b : RowOK b) (la : (dg a).length ≤ 65536) (lb : (dg b).length ≤ 65536) : CallT Try.prog 33 #[sv a, sv b] [(ss 3 a), (ss 3 b)] Row (fun zx => sv zx) (fun zx => [(ss 3 a), (ss 3 b), (ss 3 zx)]) (fun zx => (RowOK zx ∧ nv (dg zx) = nv (rdv (sv a) (ss 3 a)) + nv (rdv (sv b) (ss 3 b)) ∧ Canon (dg zx))) := by
  refine call_of (c := bodyOf Try.f33) (n := 40) (fn := Try.f33) Try.mixed Try.func33 (by kernel_rfl) (by kernel_rfl) (by kernel_rfl) 2000 _ [] [0, 1, 20] rfl rfl (Eq.mpr (ref1_Add_vc a b) ?_)
  have d_a := rdv_eq a 3
  have d_b := rdv_eq b 3
  have e_a := vlen_dg a
  have e_b := vlen_dg b
  have hm : (if (((vlen (sv b) : Nat) : Int)) > (((vlen (sv a) : Nat) : Int)) then (((vlen (sv b) : Nat) : Int)) else (((vlen (sv a) : Nat) : Int))) = (((max (dg a).length (dg b).length) : Nat) : Int) := by rw [e_a, e_b]; split <;> omega
  refine ⟨?_, fun x1 jx1 h1 => ?_⟩
  · exact ⟨(0, 0, Row.nil), ⟨add_start _ _, RowOK.nil⟩, rfl, rfl, rfl, rfl, rfl, rfl, rfl, rfl, trivial⟩
  · obtain ⟨L, ok⟩ := h1
    have l1 := L.le; have l2 := L.len; have l3 := L.c0; have l4 := L.c1; have l5 := L.ends
    have da := r_a.dig.dgt (Int.toNat ((x1.1 : Nat) : Int))
    have db := r_b.dig.dgt (Int.toNat ((x1.1 : Nat) : Int))
    refine ⟨fun h2 => ?_, fun h2 => ?_⟩
    · refine ⟨xlen Try.sl42 3 a, xlen Try.sl42 3 b, ⟨(), trivial, congrArg Value.bool h2⟩, ?_⟩
      intro _
      intro _
      refine ⟨rfl, rfl, ?_⟩
      refine ⟨rfl, ?_⟩
      try rw [hm] at *
      refine ⟨ref1_at a ((x1.1 : Nat) : Int) (by first | assumption | exact rowOK_lit _ _ (by decide)) (by omega), ⟨_, rfl⟩, ?_⟩
      intro x2
      intro h3
      simp only [rdv_eq] at h3
      refine ⟨ref1_at b ((x1.1 : Nat) : Int) (by first | assumption | exact rowOK_lit _ _ (by decide)) (by omega), ⟨_, rfl⟩, ?_⟩
      intro x3
      intro h4
      simp only [rdv_eq] at h4
      refine ⟨⟨(), trivial, congrArg (Value.int .i64) (wrap_i64 _ (by omega) (by omega))⟩, ?_⟩
      intro _
      intro _
      refine ⟨⟨(), trivial, congrArg (Value.int .i64) (wrap_i64 _ (by omega) (by omega))⟩, ?_⟩
      intro _
      intro _
      refine ⟨⟨(), trivial, congrArg (Value.int .i64) (tmod_nat (by omega))⟩, ?_⟩
      intro _
      intro _
      intro b4
      refine ⟨xappendR Try.sl42 42 x1.2.2 (by omega) b4 1 (.int .i64 (((x2 + x3) + x1.2.1) % 65536)) rfl, wit_app _, ?_⟩
      intro x5
      intro h5
      rw [rvals_eq] at h5
      refine ⟨⟨(), trivial, congrArg (Value.int .i64) (quo_i64 (by omega) (by omega))⟩, ?_⟩
      intro _
      intro _
      refine ⟨⟨(), trivial, congrArg (Value.int .i64) (wrap_i64 _ (by omega) (by omega))⟩, ?_⟩
      intro _
      intro _
      have hx : ((x2 + x3) + x1.2.1) = dgt (dg a) x1.1 + dgt (dg b) x1.1 + x1.2.1 := by
        simp only [Int.toNat_natCast] at *
        omega
      have hlt : (x1.1 < (max (dg a).length (dg b).length)) ∨ 0 < x1.2.1 := by
        simp only [decide_eq_true_eq, decide_eq_false_iff_not, gt_iff_lt, ge_iff_le, beq_iff_eq, beq_eq_false_iff_ne] at *
        omega
      obtain ⟨q1, q2, q3⟩ := add_step r_a.dig r_b.dig L hx hlt
      have q := RowOK.snoc ok q2 q3 (by assumption)
      have hmu := q1.c1
      exact ⟨(x1.1 + 1, ((x2 + x3) + x1.2.1) / 65536, x5), ⟨q.2 ▸ q1, q.1⟩, by dsimp only; omega, rfl, rfl, rfl, rfl, congrArg (Value.int .i64) (by dsimp only; omega), rfl, rfl, rfl, trivial⟩
    · refine ⟨xlen Try.sl42 3 a, xlen Try.sl42 3 b, ⟨(), trivial, congrArg Value.bool h2⟩, ?_⟩
      intro _
      intro _
      refine ⟨rfl, rfl, ?_⟩
      refine ⟨fun h6 => ?_, fun h6 => ?_⟩
      · try rw [hm] at *
        refine ⟨ref1_at a ((x1.1 : Nat) : Int) (by first | assumption | exact rowOK_lit _ _ (by decide)) (by omega), ⟨_, rfl⟩, ?_⟩
        intro x6
        intro h7
        simp only [rdv_eq] at h7
        refine ⟨ref1_at b ((x1.1 : Nat) : Int) (by first | assumption | exact rowOK_lit _ _ (by decide)) (by omega), ⟨_, rfl⟩, ?_⟩
        intro x7
        intro h8
        simp only [rdv_eq] at h8
        refine ⟨⟨(), trivial, congrArg (Value.int .i64) (wrap_i64 _ (by omega) (by omega))⟩, ?_⟩
        intro _
        intro _
        refine ⟨⟨(), trivial, congrArg (Value.int .i64) (wrap_i64 _ (by omega) (by omega))⟩, ?_⟩
        intro _
        intro _
        refine ⟨⟨(), trivial, congrArg (Value.int .i64) (tmod_nat (by omega))⟩, ?_⟩
        intro _
        intro _
        intro b8
        refine ⟨xappendR Try.sl42 42 x1.2.2 (by omega) b8 1 (.int .i64 (((x6 + x7) + x1.2.1) % 65536)) rfl, wit_app _, ?_⟩
        intro x9
        intro h9
        rw [rvals_eq] at h9
        refine ⟨⟨(), trivial, congrArg (Value.int .i64) (quo_i64 (by omega) (by omega))⟩, ?_⟩
        intro _
        intro _
        refine ⟨⟨(), trivial, congrArg (Value.int .i64) (wrap_i64 _ (by omega) (by omega))⟩, ?_⟩
        intro _
        intro _
        have hx : ((x6 + x7) + x1.2.1) = dgt (dg a) x1.1 + dgt (dg b) x1.1 + x1.2.1 := by
          simp only [Int.toNat_natCast] at *
          omega
        have hlt : (x1.1 < (max (dg a).length (dg b).length)) ∨ 0 < x1.2.1 := by
          simp only [decide_eq_true_eq, decide_eq_false_iff_not, gt_iff_lt, ge_iff_le, beq_iff_eq, beq_eq_false_iff_ne] at *
          omega
        obtain ⟨q1, q2, q3⟩ := add_step r_a.dig r_b.dig L hx hlt
        have q := RowOK.snoc ok q2 q3 (by assumption)
        have hmu := q1.c1
        exact ⟨(x1.1 + 1, ((x6 + x7) + x1.2.1) / 65536, x9), ⟨q.2 ▸ q1, q.1⟩, by dsimp only; omega, rfl, rfl, rfl, rfl, congrArg (Value.int .i64) (by dsimp only; omega), rfl, rfl, rfl, trivial⟩
      · refine ⟨ref1_Trim x1.2.2 (by first | assumption | exact rowOK_lit _ _ (by decide)) (by omega), wit_trim x1.2.2 (by first | assumption | exact rowOK_lit _ _ (by decide)), ?_⟩
        intro x10
        intro h10
        simp only [rdv_eq] at h10
        obtain ⟨rh10_, h10⟩ := h10
        have T : TrimR (dg x1.2.2) (dg x10) := by first | exact And.right (by assumption) | assumption
        have hi : (max (dg a).length (dg b).length) ≤ x1.1 := by
          simp only [decide_eq_true_eq, decide_eq_false_iff_not, gt_iff_lt, ge_iff_le, beq_iff_eq, beq_eq_false_iff_ne] at *
          omega
        have hc : x1.2.1 ≤ 0 := by
          simp only [decide_eq_true_eq, decide_eq_false_iff_not, gt_iff_lt, ge_iff_le, beq_iff_eq, beq_eq_false_iff_ne] at *
          omega
        exact ⟨_, ⟨by assumption, by rw [d_a, d_b]; exact T.eq.trans (add_end L hi hc), T.canon⟩, rfl, rfl, rfl, rfl, trivial⟩

def ref1_Add2_C : List Value → List Slot → Ctr := fun vs hs => ⟨Row, fun zx => sv zx, fun zx => [(sarg hs 0), (ss 3 zx)], fun zx => RowOK zx ∧ nv (dg zx) = nv (rdv (varg vs 1) (sarg hs 0)) + nv (rdv (varg vs 1) (sarg hs 0)) ∧ Canon (dg zx)⟩
set_option maxRecDepth 100000 in
set_option maxHeartbeats 1000000 in
theorem ref1_Add2_vc (a : Row) : codeW Try.prog 40 none 2000 none (bodyOf Try.f33) (.reg [.sem []] (.reg [.sem []] (.reg [.sem []] (.reg [.sem []] (.inv (Nat × Int × Row) (fun zx => [(0, sv a), (1, sv a), (5, sv zx.2.2), (6, .int .i64 zx.2.1), (7, .int .i64 ((zx.1 : Nat) : Int))]) (fun zx => [(0, (ss 3 a)), (20, (ss 3 zx.2.2))]) (fun zx => AddI (dg a) (dg a) zx.1 zx.2.1 (dg zx.2.2) ∧ RowOK zx.2.2) (fun zx => 2 * ((max (dg a).length (dg a).length) + 1 - zx.1) + zx.2.1.toNat) (fun x1 => .caseP (fun s => decide ((ci (s.fr 7)) < (if ((vlen (sv a) : Nat) : Int) > ((vlen (sv a) : Nat) : Int) then ((vlen (sv a) : Nat) : Int) else ((vlen (sv a) : Nat) : Int)))) (.reg [.sem [], .sem [], .eq (f_len), .sem [], .eq (f_len), .sem [], .gen [] (one (.bool true)), .sem [], .no, .no, .sem []] (.condT (.reg [.sem [], .sem [], .callr [0] ref1_at_C, .sem [], .sem [], .callr [0] ref1_at_C, .gen [] (fun vs => one (.int .i64 (ci (varg vs 0) + ci (varg vs 1))) vs), .sem [], .gen [] (fun vs => one (.int .i64 (ci (varg vs 0) + ci (varg vs 1))) vs), .sem []] (.reg [.sem [], .sem [], .gen [] (fun vs => one (.int .i64 (ci (varg vs 0) % 65536)) vs), .sem [.nw 1], .specw [20, 1] [20, 1] (F_app 3), .sem []] (.reg [.sem [], .gen [] (fun vs => one (.int .i64 (ci (varg vs 0) / 65536)) vs), .sem []] (.reg [.sem [], .gen [] (fun vs => one (.int .i64 (ci (varg vs 0) + ci (varg vs 1))) vs), .sem []] (.done))))))) (.reg [.sem [], .sem [], .eq (f_len), .sem [], .eq (f_len), .sem [], .gen [] (one (.bool false)), .sem [], .sem [], .sem [], .sem []] (.cond (.reg [.sem [], .sem [], .callr [0] ref1_at_C, .sem [], .sem [], .callr [0] ref1_at_C, .gen [] (fun vs => one (.int .i64 (ci (varg vs 0) + ci (varg vs 1))) vs), .sem [], .gen [] (fun vs => one (.int .i64 (ci (varg vs 0) + ci (varg vs 1))) vs), .sem []] (.reg [.sem [], .sem [], .gen [] (fun vs => one (.int .i64 (ci (varg vs 0) % 65536)) vs), .sem [.nw 1], .specw [20, 1] [20, 1] (F_app 3), .sem []] (.reg [.sem [], .gen [] (fun vs => one (.int .i64 (ci (varg vs 0) / 65536)) vs), .sem []] (.reg [.sem [], .gen [] (fun vs => one (.int .i64 (ci (varg vs 0) + ci (varg vs 1))) vs), .sem []] (.done))))) (.reg [.sem [], .callw [20] [20] ref1_Trim_C, .sem []] (.done))))))))))
    (init #[sv a, sv a] [(ss 3 a)]) (finW Try.prog Try.f33 [] [0, 20] (X := Row) (fun zx => sv zx) (fun zx => [(ss 3 a), (ss 3 zx)]) (fun zx => (RowOK zx ∧ nv (dg zx) = nv (rdv (sv a) (ss 3 a)) + nv (rdv (sv a) (ss 3 a)) ∧ Canon (dg zx)))) =
    ((∃ zx : Nat × Int × Row, (AddI (dg a) (dg a) zx.1 zx.2.1 (dg zx.2.2) ∧ RowOK zx.2.2) ∧ sv a = sv a ∧ sv a = sv a ∧ Value.slice none 0 0 = sv zx.2.2 ∧ Value.int .i64 0 = .int .i64 zx.2.1 ∧ Value.int .i64 0 = .int .i64 ((zx.1 : Nat) : Int) ∧ (ss 3 a) = (ss 3 a) ∧ Slot.free = (ss 3 zx.2.2) ∧ True) ∧ ∀ x1 : Nat × Int × Row, ∀ jx1 : Nat → Value, (AddI (dg a) (dg a) x1.1 x1.2.1 (dg x1.2.2) ∧ RowOK x1.2.2) → ((decide (((x1.1 : Nat) : Int) < (if ((vlen (sv a) : Nat) : Int) > ((vlen (sv a) : Nat) : Int) then ((vlen (sv a) : Nat) : Int) else ((vlen (sv a) : Nat) : Int)))) = true → (PureRun Try.prog (do pure (.value (← Builtin.len_ #[42] 3 #[sv a]))) (.int .i64 ((vlen (sv a) : Nat) : Int))) ∧ (PureRun Try.prog (do pure (.value (← Builtin.len_ #[42] 3 #[sv a]))) (.int .i64 ((vlen (sv a) : Nat) : Int))) ∧ (∃ _ : Unit, True ∧ Value.bool (decide (((x1.1 : Nat) : Int) < (if ((vlen (sv a) : Nat) : Int) > ((vlen (sv a) : Nat) : Int) then ((vlen (sv a) : Nat) : Int) else ((vlen (sv a) : Nat) : Int)))) = .bool true) ∧ ∀ _ : Unit, (True) → true = !false ∧ true = !false ∧ (true = true) ∧ (CallT Try.prog 32 #[sv a, .int .i64 ((x1.1 : Nat) : Int)] [(ss 3 a)] Int (fun zx => .int .i64 zx) (fun _ => [(ss 3 a)]) (fun zx => zx = dgt (rdv (sv a) (ss 3 a)) ((x1.1 : Nat) : Int).toNat)) ∧ (∃ zx : Int, (fun zx => zx = dgt (rdv (sv a) (ss 3 a)) ((x1.1 : Nat) : Int).toNat) zx) ∧ ∀ x2 : Int, (x2 = dgt (rdv (sv a) (ss 3 a)) ((x1.1 : Nat) : Int).toNat) → (CallT Try.prog 32 #[sv a, .int .i64 ((x1.1 : Nat) : Int)] [(ss 3 a)] Int (fun zx => .int .i64 zx) (fun _ => [(ss 3 a)]) (fun zx => zx = dgt (rdv (sv a) (ss 3 a)) ((x1.1 : Nat) : Int).toNat)) ∧ (∃ zx : Int, (fun zx => zx = dgt (rdv (sv a) (ss 3 a)) ((x1.1 : Nat) : Int).toNat) zx) ∧ ∀ x3 : Int, (x3 = dgt (rdv (sv a) (ss 3 a)) ((x1.1 : Nat) : Int).toNat) → (∃ _ : Unit, True ∧ Value.int .i64 (IntKind.i64.wrap (x2 + x3)) = .int .i64 (x2 + x3)) ∧ ∀ _ : Unit, (True) → (∃ _ : Unit, True ∧ Value.int .i64 (IntKind.i64.wrap ((x2 + x3) + x1.2.1)) = .int .i64 ((x2 + x3) + x1.2.1)) ∧ ∀ _ : Unit, (True) → (∃ _ : Unit, True ∧ Value.int .i64 (Int.tmod ((x2 + x3) + x1.2.1) 65536) = .int .i64 (((x2 + x3) + x1.2.1) % 65536)) ∧ ∀ _ : Unit, (True) → ∀ b4 : Nat, (OpT Try.prog (do pure (.value (← Builtin.append_ #[42, 42] 42 #[sv x1.2.2, .slice (some ⟨b4, 0, none⟩) 1 1]))) [(ss 3 x1.2.2), .blk b4 (.cells #[.int .i64 (((x2 + x3) + x1.2.1) % 65536)] 3 (0, 0))] Row (fun zx => sv zx) (fun zx => [(ss 3 zx), .blk b4 (.cells #[.int .i64 (((x2 + x3) + x1.2.1) % 65536)] 3 (0, 0))]) (fun zx => vals zx = rvals (sv x1.2.2) (ss 3 x1.2.2) ++ [.int .i64 (((x2 + x3) + x1.2.1) % 65536)])) ∧ (∃ zx : Row, (fun zx => vals zx = rvals (sv x1.2.2) (ss 3 x1.2.2) ++ [.int .i64 (((x2 + x3) + x1.2.1) % 65536)]) zx) ∧ ∀ x5 : Row, (vals x5 = rvals (sv x1.2.2) (ss 3 x1.2.2) ++ [.int .i64 (((x2 + x3) + x1.2.1) % 65536)]) → (∃ _ : Unit, True ∧ Value.int .i64 (IntKind.i64.wrap (Int.tdiv ((x2 + x3) + x1.2.1) 65536)) = .int .i64 (((x2 + x3) + x1.2.1) / 65536)) ∧ ∀ _ : Unit, (True) → (∃ _ : Unit, True ∧ Value.int .i64 (IntKind.i64.wrap (((x1.1 : Nat) : Int) + 1)) = .int .i64 (((x1.1 : Nat) : Int) + 1)) ∧ ∀ _ : Unit, (True) → ∃ zy : Nat × Int × Row, (AddI (dg a) (dg a) zy.1 zy.2.1 (dg zy.2.2) ∧ RowOK zy.2.2) ∧ 2 * ((max (dg a).length (dg a).length) + 1 - zy.1) + zy.2.1.toNat < 2 * ((max (dg a).length (dg a).length) + 1 - x1.1) + x1.2.1.toNat ∧ sv a = sv a ∧ sv a = sv a ∧ sv x5 = sv zy.2.2 ∧ Value.int .i64 (((x2 + x3) + x1.2.1) / 65536) = .int .i64 zy.2.1 ∧ Value.int .i64 (((x1.1 : Nat) : Int) + 1) = .int .i64 ((zy.1 : Nat) : Int) ∧ (ss 3 a) = (ss 3 a) ∧ (ss 3 x5) = (ss 3 zy.2.2) ∧ True) ∧ ((decide (((x1.1 : Nat) : Int) < (if ((vlen (sv a) : Nat) : Int) > ((vlen (sv a) : Nat) : Int) then ((vlen (sv a) : Nat) : Int) else ((vlen (sv a) : Nat) : Int)))) = false → (PureRun Try.prog (do pure (.value (← Builtin.len_ #[42] 3 #[sv a]))) (.int .i64 ((vlen (sv a) : Nat) : Int))) ∧ (PureRun Try.prog (do pure (.value (← Builtin.len_ #[42] 3 #[sv a]))) (.int .i64 ((vlen (sv a) : Nat) : Int))) ∧ (∃ _ : Unit, True ∧ Value.bool (decide (((x1.1 : Nat) : Int) < (if ((vlen (sv a) : Nat) : Int) > ((vlen (sv a) : Nat) : Int) then ((vlen (sv a) : Nat) : Int) else ((vlen (sv a) : Nat) : Int)))) = .bool false) ∧ ∀ _ : Unit, (True) → false = false ∧ false = false ∧ ((decide (x1.2.1 > (0 : Int))) = true → (CallT Try.prog 32 #[sv a, .int .i64 ((x1.1 : Nat) : Int)] [(ss 3 a)] Int (fun zx => .int .i64 zx) (fun _ => [(ss 3 a)]) (fun zx => zx = dgt (rdv (sv a) (ss 3 a)) ((x1.1 : Nat) : Int).toNat)) ∧ (∃ zx : Int, (fun zx => zx = dgt (rdv (sv a) (ss 3 a)) ((x1.1 : Nat) : Int).toNat) zx) ∧ ∀ x6 : Int, (x6 = dgt (rdv (sv a) (ss 3 a)) ((x1.1 : Nat) : Int).toNat) → (CallT Try.prog 32 #[sv a, .int .i64 ((x1.1 : Nat) : Int)] [(ss 3 a)] Int (fun zx => .int .i64 zx) (fun _ => [(ss 3 a)]) (fun zx => zx = dgt (rdv (sv a) (ss 3 a)) ((x1.1 : Nat) : Int).toNat)) ∧ (∃ zx : Int, (fun zx => zx = dgt (rdv (sv a) (ss 3 a)) ((x1.1 : Nat) : Int).toNat) zx) ∧ ∀ x7 : Int, (x7 = dgt (rdv (sv a) (ss 3 a)) ((x1.1 : Nat) : Int).toNat) → (∃ _ : Unit, True ∧ Value.int .i64 (IntKind.i64.wrap (x6 + x7)) = .int .i64 (x6 + x7)) ∧ ∀ _ : Unit, (True) → (∃ _ : Unit, True ∧ Value.int .i64 (IntKind.i64.wrap ((x6 + x7) + x1.2.1)) = .int .i64 ((x6 + x7) + x1.2.1)) ∧ ∀ _ : Unit, (True) → (∃ _ : Unit, True ∧ Value.int .i64 (Int.tmod ((x6 + x7) + x1.2.1) 65536) = .int .i64 (((x6 + x7) + x1.2.1) % 65536)) ∧ ∀ _ : Unit, (True) → ∀ b8 : Nat, (OpT Try.prog (do pure (.value (← Builtin.append_ #[42, 42] 42 #[sv x1.2.2, .slice (some ⟨b8, 0, none⟩) 1 1]))) [(ss 3 x1.2.2), .blk b8 (.cells #[.int .i64 (((x6 + x7) + x1.2.1) % 65536)] 3 (0, 0))] Row (fun zx => sv zx) (fun zx => [(ss 3 zx), .blk b8 (.cells #[.int .i64 (((x6 + x7) + x1.2.1) % 65536)] 3 (0, 0))]) (fun zx => vals zx = rvals (sv x1.2.2) (ss 3 x1.2.2) ++ [.int .i64 (((x6 + x7) + x1.2.1) % 65536)])) ∧ (∃ zx : Row, (fun zx => vals zx = rvals (sv x1.2.2) (ss 3 x1.2.2) ++ [.int .i64 (((x6 + x7) + x1.2.1) % 65536)]) zx) ∧ ∀ x9 : Row, (vals x9 = rvals (sv x1.2.2) (ss 3 x1.2.2) ++ [.int .i64 (((x6 + x7) + x1.2.1) % 65536)]) → (∃ _ : Unit, True ∧ Value.int .i64 (IntKind.i64.wrap (Int.tdiv ((x6 + x7) + x1.2.1) 65536)) = .int .i64 (((x6 + x7) + x1.2.1) / 65536)) ∧ ∀ _ : Unit, (True) → (∃ _ : Unit, True ∧ Value.int .i64 (IntKind.i64.wrap (((x1.1 : Nat) : Int) + 1)) = .int .i64 (((x1.1 : Nat) : Int) + 1)) ∧ ∀ _ : Unit, (True) → ∃ zy : Nat × Int × Row, (AddI (dg a) (dg a) zy.1 zy.2.1 (dg zy.2.2) ∧ RowOK zy.2.2) ∧ 2 * ((max (dg a).length (dg a).length) + 1 - zy.1) + zy.2.1.toNat < 2 * ((max (dg a).length (dg a).length) + 1 - x1.1) + x1.2.1.toNat ∧ sv a = sv a ∧ sv a = sv a ∧ sv x9 = sv zy.2.2 ∧ Value.int .i64 (((x6 + x7) + x1.2.1) / 65536) = .int .i64 zy.2.1 ∧ Value.int .i64 (((x1.1 : Nat) : Int) + 1) = .int .i64 ((zy.1 : Nat) : Int) ∧ (ss 3 a) = (ss 3 a) ∧ (ss 3 x9) = (ss 3 zy.2.2) ∧ True) ∧ ((decide (x1.2.1 > (0 : Int))) = false → (CallT Try.prog 31 #[sv x1.2.2] [(ss 3 x1.2.2)] Row (fun zx => sv zx) (fun zx => [(ss 3 zx)]) (fun zx => RowOK zx ∧ ss 3 zx = (ss 3 x1.2.2) ∧ TrimR (rdv (sv x1.2.2) (ss 3 x1.2.2)) (dg zx))) ∧ (∃ zx : Row, (fun zx => RowOK zx ∧ ss 3 zx = (ss 3 x1.2.2) ∧ TrimR (rdv (sv x1.2.2) (ss 3 x1.2.2)) (dg zx)) zx) ∧ ∀ x10 : Row, (RowOK x10 ∧ ss 3 x10 = (ss 3 x1.2.2) ∧ TrimR (rdv (sv x1.2.2) (ss 3 x1.2.2)) (dg x10)) → ∃ zx : Row, (RowOK zx ∧ nv (dg zx) = nv (rdv (sv a) (ss 3 a)) + nv (rdv (sv a) (ss 3 a)) ∧ Canon (dg zx)) ∧ sv x10 = sv zx ∧ (ss 3 a) = (ss 3 a) ∧ (ss 3 x10) = (ss 3 zx) ∧ True))) := by kernel_rfl
set_option maxRecDepth 100000 in
set_option maxHeartbeats 1000000 in
theorem ref1_Add2 (a : Row) (r_a : RowOK a) (la : (dg a).length ≤ 65536) : CallT Try.prog 33 #[sv a, sv a] [(ss 3 a)] Row (fun zx => sv zx) (fun zx => [(ss 3 a), (ss 3 zx)]) (fun zx => (RowOK zx ∧ nv (dg zx) = nv (rdv (sv a) (ss 3 a)) + nv (rdv (sv a) (ss 3 a)) ∧ Canon (dg zx))) := by
  refine call_of (c := bodyOf Try.f33) (n := 40) (fn := Try.f33) Try.mixed Try.func33 (by kernel_rfl) (by kernel_rfl) (by kernel_rfl) 2000 _ [] [0, 20] rfl rfl (Eq.mpr (ref1_Add2_vc a) ?_)
  have d_a := rdv_eq a 3
  have e_a := vlen_dg a
  have hm : (if (((vlen (sv a) : Nat) : Int)) > (((vlen (sv a) : Nat) : Int)) then (((vlen (sv a) : Nat) : Int)) else (((vlen (sv a) : Nat) : Int))) = (((max (dg a).length (dg a).length) : Nat) : Int) := by rw [e_a]; split <;> omega
  refine ⟨?_, fun x1 jx1 h1 => ?_⟩
  · exact ⟨(0, 0, Row.nil), ⟨add_start _ _, RowOK.nil⟩, rfl, rfl, rfl, rfl, rfl, rfl, rfl, trivial⟩
  · obtain ⟨L, ok⟩ := h1
    have l1 := L.le; have l2 := L.len; have l3 := L.c0; have l4 := L.c1; have l5 := L.ends
    have da := r_a.dig.dgt (Int.toNat ((x1.1 : Nat) : Int))
    have db := r_a.dig.dgt (Int.toNat ((x1.1 : Nat) : Int))
    refine ⟨fun h2 => ?_, fun h2 => ?_⟩
    · refine ⟨xlen Try.sl42 3 a, xlen Try.sl42 3 a, ⟨(), trivial, congrArg Value.bool h2⟩, ?_⟩
      intro _
      intro _
      refine ⟨rfl, rfl, ?_⟩
      refine ⟨rfl, ?_⟩
      try rw [hm] at *
      refine ⟨ref1_at a ((x1.1 : Nat) : Int) (by first | assumption | exact rowOK_lit _ _ (by decide)) (by omega), ⟨_, rfl⟩, ?_⟩
      intro x2
      intro h3
      simp only [rdv_eq] at h3
      refine ⟨ref1_at a ((x1.1 : Nat) : Int) (by first | assumption | exact rowOK_lit _ _ (by decide)) (by omega), ⟨_, rfl⟩, ?_⟩
      intro x3
      intro h4
      simp only [rdv_eq] at h4
      refine ⟨⟨(), trivial, congrArg (Value.int .i64) (wrap_i64 _ (by omega) (by omega))⟩, ?_⟩
      intro _
      intro _
      refine ⟨⟨(), trivial, congrArg (Value.int .i64) (wrap_i64 _ (by omega) (by omega))⟩, ?_⟩
      intro _
      intro _
      refine ⟨⟨(), trivial, congrArg (Value.int .i64) (tmod_nat (by omega))⟩, ?_⟩
      intro _
      intro _
      intro b4
      refine ⟨xappendR Try.sl42 42 x1.2.2 (by omega) b4 1 (.int .i64 (((x2 + x3) + x1.2.1) % 65536)) rfl, wit_app _, ?_⟩
      intro x5
      intro h5
      rw [rvals_eq] at h5
      refine ⟨⟨(), trivial, congrArg (Value.int .i64) (quo_i64 (by omega) (by omega))⟩, ?_⟩
      intro _
      intro _
      refine ⟨⟨(), trivial, congrArg (Value.int .i64) (wrap_i64 _ (by omega) (by omega))⟩, ?_⟩
      intro _
      intro _
      have hx : ((x2 + x3) + x1.2.1) = dgt (dg a) x1.1 + dgt (dg a) x1.1 + x1.2.1 := by
        simp only [Int.toNat_natCast] at *
        omega
      have hlt : (x1.1 < (max (dg a).length (dg a).length)) ∨ 0 < x1.2.1 := by
        simp only [decide_eq_true_eq, decide_eq_false_iff_not, gt_iff_lt, ge_iff_le, beq_iff_eq, beq_eq_false_iff_ne] at *
        omega
      obtain ⟨q1, q2, q3⟩ := add_step r_a.dig r_a.dig L hx hlt
      have q := RowOK.snoc ok q2 q3 (by assumption)
      have hmu := q1.c1
      exact ⟨(x1.1 + 1, ((x2 + x3) + x1.2.1) / 65536, x5), ⟨q.2 ▸ q1, q.1⟩, by dsimp only; omega, rfl, rfl, rfl, rfl, congrArg (Value.int .i64) (by dsimp only; omega), rfl, rfl, trivial⟩
    · refine ⟨xlen Try.sl42 3 a, xlen Try.sl42 3 a, ⟨(), trivial, congrArg Value.bool h2⟩, ?_⟩
      intro _
      intro _
      refine ⟨rfl, rfl, ?_⟩
      refine ⟨fun h6 => ?_, fun h6 => ?_⟩
      · try rw [hm] at *
        refine ⟨ref1_at a ((x1.1 : Nat) : Int) (by first | assumption | exact rowOK_lit _ _ (by decide)) (by omega), ⟨_, rfl⟩, ?_⟩
        intro x6
        intro h7
        simp only [rdv_eq] at h7
        refine ⟨ref1_at a ((x1.1 : Nat) : Int) (by first | assumption | exact rowOK_lit _ _ (by decide)) (by omega), ⟨_, rfl⟩, ?_⟩
        intro x7
        intro h8
        simp only [rdv_eq] at h8
        refine ⟨⟨(), trivial, congrArg (Value.int .i64) (wrap_i64 _ (by omega) (by omega))⟩, ?_⟩
        intro _
        intro _
        refine ⟨⟨(), trivial, congrArg (Value.int .i64) (wrap_i64 _ (by omega) (by omega))⟩, ?_⟩
        intro _
        intro _
        refine ⟨⟨(), trivial, congrArg (Value.int .i64) (tmod_nat (by omega))⟩, ?_⟩
        intro _
        intro _
        intro b8
        refine ⟨xappendR Try.sl42 42 x1.2.2 (by omega) b8 1 (.int .i64 (((x6 + x7) + x1.2.1) % 65536)) rfl, wit_app _, ?_⟩
        intro x9
        intro h9
        rw [rvals_eq] at h9
        refine ⟨⟨(), trivial, congrArg (Value.int .i64) (quo_i64 (by omega) (by omega))⟩, ?_⟩
        intro _
        intro _
        refine ⟨⟨(), trivial, congrArg (Value.int .i64) (wrap_i64 _ (by omega) (by omega))⟩, ?_⟩
        intro _
        intro _
        have hx : ((x6 + x7) + x1.2.1) = dgt (dg a) x1.1 + dgt (dg a) x1.1 + x1.2.1 := by
          simp only [Int.toNat_natCast] at *
          omega
        have hlt : (x1.1 < (max (dg a).length (dg a).length)) ∨ 0 < x1.2.1 := by
          simp only [decide_eq_true_eq, decide_eq_false_iff_not, gt_iff_lt, ge_iff_le, beq_iff_eq, beq_eq_false_iff_ne] at *
          omega
        obtain ⟨q1, q2, q3⟩ := add_step r_a.dig r_a.dig L hx hlt
        have q := RowOK.snoc ok q2 q3 (by assumption)
        have hmu := q1.c1
        exact ⟨(x1.1 + 1, ((x6 + x7) + x1.2.1) / 65536, x9), ⟨q.2 ▸ q1, q.1⟩, by dsimp only; omega, rfl, rfl, rfl, rfl, congrArg (Value.int .i64) (by dsimp only; omega), rfl, rfl, trivial⟩
      · refine ⟨ref1_Trim x1.2.2 (by first | assumption | exact rowOK_lit _ _ (by decide)) (by omega), wit_trim x1.2.2 (by first | assumption | exact rowOK_lit _ _ (by decide)), ?_⟩
        intro x10
        intro h10
        simp only [rdv_eq] at h10
        obtain ⟨rh10_, h10⟩ := h10
        have T : TrimR (dg x1.2.2) (dg x10) := by first | exact And.right (by assumption) | assumption
        have hi : (max (dg a).length (dg a).length) ≤ x1.1 := by
          simp only [decide_eq_true_eq, decide_eq_false_iff_not, gt_iff_lt, ge_iff_le, beq_iff_eq, beq_eq_false_iff_ne] at *
          omega
        have hc : x1.2.1 ≤ 0 := by
          simp only [decide_eq_true_eq, decide_eq_false_iff_not, gt_iff_lt, ge_iff_le, beq_iff_eq, beq_eq_false_iff_ne] at *
          omega
        exact ⟨_, ⟨by assumption, by rw [d_a]; exact T.eq.trans (add_end L hi hc), T.canon⟩, rfl, rfl, rfl, trivial⟩

def ref1_Sub_C : List Value → List Slot → Ctr := fun vs hs => ⟨Row, fun zx => sv zx, fun zx => [(sarg hs 0), (sarg hs 1), (ss 3 zx)], fun zx => RowOK zx ∧ nv (dg zx) = nv (rdv (varg vs 1) (sarg hs 0)) - nv (rdv (varg vs 2) (sarg hs 1)) ∧ Canon (dg zx)⟩
set_option maxRecDepth 100000 in
set_option maxHeartbeats 1000000 in
theorem ref1_Sub_vc (a : Row) (b : Row) : codeW Try.prog 35 none 2000 none (bodyOf Try.f34) (.reg [.sem []] (.reg [.sem []] (.reg [.sem []] (.reg [.sem []] (.inv (Nat × Int × Row) (fun zx => [(0, sv a), (1, sv b), (5, sv zx.2.2), (6, .int .i64 zx.2.1), (7, .int .i64 ((zx.1 : Nat) : Int))]) (fun zx => [(0, (ss 3 a)), (1, (ss 3 b)), (20, (ss 3 zx.2.2))]) (fun zx => SubI (dg a) (dg b) zx.1 zx.2.1 (dg zx.2.2) ∧ RowOK zx.2.2) (fun zx => (dg a).length - zx.1) (fun x1 => .reg [.sem [], .sem [], .eq (f_len), .sem []] (.cond (.reg [.sem [], .sem [], .eq (f_idx), .specr [0] F_get, .sem [], .sem [], .callr [1] ref1_at_C, .gen [] (fun vs => one (.int .i64 (ci (varg vs 0) - ci (varg vs 1))) vs), .sem [], .gen [] (fun vs => one (.int .i64 (ci (varg vs 0) - ci (varg vs 1))) vs), .sem []] (.reg [.sem []] (.reg [.sem [], .sem []] (.cond (.reg [.sem [], .gen [] (fun vs => one (.int .i64 (ci (varg vs 0) + ci (varg vs 1))) vs), .sem []] (.reg [.sem []] (.reg [.sem [], .sem [], .sem [.nw 2], .specw [20, 2] [20, 2] (F_app 3), .sem []] (.reg [.sem [], .gen [] (fun vs => one (.int .i64 (ci (varg vs 0) + ci (varg vs 1))) vs), .sem []] (.done))))) (.reg [.sem [], .sem [], .sem [.nw 2], .specw [20, 2] [20, 2] (F_app 3), .sem []] (.reg [.sem [], .gen [] (fun vs => one (.int .i64 (ci (varg vs 0) + ci (varg vs 1))) vs), .sem []] (.done))))))) (.reg [.sem [], .callw [20] [20] ref1_Trim_C, .sem []] (.done)))))))))
    (init #[sv a, sv b] [(ss 3 a), (ss 3 b)]) (finW Try.prog Try.f34 [] [0, 1, 20] (X := Row) (fun zx => sv zx) (fun zx => [(ss 3 a), (ss 3 b), (ss 3 zx)]) (fun zx => (RowOK zx ∧ nv (dg zx) = nv (rdv (sv a) (ss 3 a)) - nv (rdv (sv b) (ss 3 b)) ∧ Canon (dg zx)))) =
    ((∃ zx : Nat × Int × Row, (SubI (dg a) (dg b) zx.1 zx.2.1 (dg zx.2.2) ∧ RowOK zx.2.2) ∧ sv a = sv a ∧ sv b = sv b ∧ Value.slice none 0 0 = sv zx.2.2 ∧ Value.int .i64 0 = .int .i64 zx.2.1 ∧ Value.int .i64 0 = .int .i64 ((zx.1 : Nat) : Int) ∧ (ss 3 a) = (ss 3 a) ∧ (ss 3 b) = (ss 3 b) ∧ Slot.free = (ss 3 zx.2.2) ∧ True) ∧ ∀ x1 : Nat × Int × Row, ∀ jx1 : Nat → Value, (SubI (dg a) (dg b) x1.1 x1.2.1 (dg x1.2.2) ∧ RowOK x1.2.2) → (PureRun Try.prog (do pure (.value (← Builtin.len_ #[42] 3 #[sv a]))) (.int .i64 ((vlen (sv a) : Nat) : Int))) ∧ ((decide (((x1.1 : Nat) : Int) < ((vlen (sv a) : Nat) : Int))) = true → (PureRun Try.prog (do pure (.value (← Instr.indexAt 42 (sv a) (.int .i64 ((x1.1 : Nat) : Int))))) (.pointer (some ⟨(vblk (sv a)), (Int.toNat ((x1.1 : Nat) : Int)), none⟩))) ∧ (OpT Try.prog (do pure (.value (← Instr.loadAt 3 (.pointer (some ⟨(vblk (sv a)), (Int.toNat ((x1.1 : Nat) : Int)), none⟩))))) [(ss 3 a)] Int (fun zx => .int .i64 zx) (fun _ => [(ss 3 a)]) (fun zx => (scells (ss 3 a))[(Int.toNat ((x1.1 : Nat) : Int))]? = some (.int .i64 zx))) ∧ (∃ zx : Int, (fun zx => (scells (ss 3 a))[(Int.toNat ((x1.1 : Nat) : Int))]? = some (.int .i64 zx)) zx) ∧ ∀ x2 : Int, ((scells (ss 3 a))[(Int.toNat ((x1.1 : Nat) : Int))]? = some (.int .i64 x2)) → (CallT Try.prog 32 #[sv b, .int .i64 ((x1.1 : Nat) : Int)] [(ss 3 b)] Int (fun zx => .int .i64 zx) (fun _ => [(ss 3 b)]) (fun zx => zx = dgt (rdv (sv b) (ss 3 b)) ((x1.1 : Nat) : Int).toNat)) ∧ (∃ zx : Int, (fun zx => zx = dgt (rdv (sv b) (ss 3 b)) ((x1.1 : Nat) : Int).toNat) zx) ∧ ∀ x3 : Int, (x3 = dgt (rdv (sv b) (ss 3 b)) ((x1.1 : Nat) : Int).toNat) → (∃ _ : Unit, True ∧ Value.int .i64 (IntKind.i64.wrap (x2 - x3)) = .int .i64 (x2 - x3)) ∧ ∀ _ : Unit, (True) → (∃ _ : Unit, True ∧ Value.int .i64 (IntKind.i64.wrap ((x2 - x3) - x1.2.1)) = .int .i64 ((x2 - x3) - x1.2.1)) ∧ ∀ _ : Unit, (True) → ((decide (((x2 - x3) - x1.2.1) < (0 : Int))) = true → (∃ _ : Unit, True ∧ Value.int .i64 (IntKind.i64.wrap (((x2 - x3) - x1.2.1) + 65536)) = .int .i64 (((x2 - x3) - x1.2.1) + 65536)) ∧ ∀ _ : Unit, (True) → ∀ b4 : Nat, (OpT Try.prog (do pure (.value (← Builtin.append_ #[42, 42] 42 #[sv x1.2.2, .slice (some ⟨b4, 0, none⟩) 1 1]))) [(ss 3 x1.2.2), .blk b4 (.cells #[.int .i64 (((x2 - x3) - x1.2.1) + 65536)] 3 (0, 0))] Row (fun zx => sv zx) (fun zx => [(ss 3 zx), .blk b4 (.cells #[.int .i64 (((x2 - x3) - x1.2.1) + 65536)] 3 (0, 0))]) (fun zx => vals zx = rvals (sv x1.2.2) (ss 3 x1.2.2) ++ [.int .i64 (((x2 - x3) - x1.2.1) + 65536)])) ∧ (∃ zx : Row, (fun zx => vals zx = rvals (sv x1.2.2) (ss 3 x1.2.2) ++ [.int .i64 (((x2 - x3) - x1.2.1) + 65536)]) zx) ∧ ∀ x5 : Row, (vals x5 = rvals (sv x1.2.2) (ss 3 x1.2.2) ++ [.int .i64 (((x2 - x3) - x1.2.1) + 65536)]) → (∃ _ : Unit, True ∧ Value.int .i64 (IntKind.i64.wrap (((x1.1 : Nat) : Int) + 1)) = .int .i64 (((x1.1 : Nat) : Int) + 1)) ∧ ∀ _ : Unit, (True) → ∃ zy : Nat × Int × Row, (SubI (dg a) (dg b) zy.1 zy.2.1 (dg zy.2.2) ∧ RowOK zy.2.2) ∧ (dg a).length - zy.1 < (dg a).length - x1.1 ∧ sv a = sv a ∧ sv b = sv b ∧ sv x5 = sv zy.2.2 ∧ Value.int .i64 1 = .int .i64 zy.2.1 ∧ Value.int .i64 (((x1.1 : Nat) : Int) + 1) = .int .i64 ((zy.1 : Nat) : Int) ∧ (ss 3 a) = (ss 3 a) ∧ (ss 3 b) = (ss 3 b) ∧ (ss 3 x5) = (ss 3 zy.2.2) ∧ True) ∧ ((decide (((x2 - x3) - x1.2.1) < (0 : Int))) = false → ∀ b6 : Nat, (OpT Try.prog (do pure (.value (← Builtin.append_ #[42, 42] 42 #[sv x1.2.2, .slice (some ⟨b6, 0, none⟩) 1 1]))) [(ss 3 x1.2.2), .blk b6 (.cells #[.int .i64 ((x2 - x3) - x1.2.1)] 3 (0, 0))] Row (fun zx => sv zx) (fun zx => [(ss 3 zx), .blk b6 (.cells #[.int .i64 ((x2 - x3) - x1.2.1)] 3 (0, 0))]) (fun zx => vals zx = rvals (sv x1.2.2) (ss 3 x1.2.2) ++ [.int .i64 ((x2 - x3) - x1.2.1)])) ∧ (∃ zx : Row, (fun zx => vals zx = rvals (sv x1.2.2) (ss 3 x1.2.2) ++ [.int .i64 ((x2 - x3) - x1.2.1)]) zx) ∧ ∀ x7 : Row, (vals x7 = rvals (sv x1.2.2) (ss 3 x1.2.2) ++ [.int .i64 ((x2 - x3) - x1.2.1)]) → (∃ _ : Unit, True ∧ Value.int .i64 (IntKind.i64.wrap (((x1.1 : Nat) : Int) + 1)) = .int .i64 (((x1.1 : Nat) : Int) + 1)) ∧ ∀ _ : Unit, (True) → ∃ zy : Nat × Int × Row, (SubI (dg a) (dg b) zy.1 zy.2.1 (dg zy.2.2) ∧ RowOK zy.2.2) ∧ (dg a).length - zy.1 < (dg a).length - x1.1 ∧ sv a = sv a ∧ sv b = sv b ∧ sv x7 = sv zy.2.2 ∧ Value.int .i64 0 = .int .i64 zy.2.1 ∧ Value.int .i64 (((x1.1 : Nat) : Int) + 1) = .int .i64 ((zy.1 : Nat) : Int) ∧ (ss 3 a) = (ss 3 a) ∧ (ss 3 b) = (ss 3 b) ∧ (ss 3 x7) = (ss 3 zy.2.2) ∧ True)) ∧ ((decide (((x1.1 : Nat) : Int) < ((vlen (sv a) : Nat) : Int))) = false → (CallT Try.prog 31 #[sv x1.2.2] [(ss 3 x1.2.2)] Row (fun zx => sv zx) (fun zx => [(ss 3 zx)]) (fun zx => RowOK zx ∧ ss 3 zx = (ss 3 x1.2.2) ∧ TrimR (rdv (sv x1.2.2) (ss 3 x1.2.2)) (dg zx))) ∧ (∃ zx : Row, (fun zx => RowOK zx ∧ ss 3 zx = (ss 3 x1.2.2) ∧ TrimR (rdv (sv x1.2.2) (ss 3 x1.2.2)) (dg zx)) zx) ∧ ∀ x8 : Row, (RowOK x8 ∧ ss 3 x8 = (ss 3 x1.2.2) ∧ TrimR (rdv (sv x1.2.2) (ss 3 x1.2.2)) (dg x8)) → ∃ zx : Row, (RowOK zx ∧ nv (dg zx) = nv (rdv (sv a) (ss 3 a)) - nv (rdv (sv b) (ss 3 b)) ∧ Canon (dg zx)) ∧ sv x8 = sv zx ∧ (ss 3 a) = (ss 3 a) ∧ (ss 3 b) = (ss 3 b) ∧ (ss 3 x8) = (ss 3 zx) ∧ True)) := by kernel_rfl
set_option maxRecDepth 100000 in
set_option maxHeartbeats 1000000 in
theorem ref1_Sub (a : Row) (b : Row) (r_a : RowOK a) (r_b : RowOK b) (la : (dg a).length ≤ 65536) (lb : (dg b).length ≤ 65536) (hle : nv (dg b) ≤ nv (dg a)) : CallT Try.prog 34 #[sv a, sv b] [(ss 3 a), (ss 3 b)] Row (fun zx => sv zx) (fun zx => [(ss 3 a), (ss 3 b), (ss 3 zx)]) (fun zx => (RowOK zx ∧ nv (dg zx) = nv (rdv (sv a) (ss 3 a)) - nv (rdv (sv b) (ss 3 b)) ∧ Canon (dg zx))) := by
  refine call_of (c := bodyOf Try.f34) (n := 35) (fn := Try.f34) Try.mixed Try.func34 (by kernel_rfl) (by kernel_rfl) (by kernel_rfl) 2000 _ [] [0, 1, 20] rfl rfl (Eq.mpr (ref1_Sub_vc a b) ?_)
  have d_a := rdv_eq a 3
  have d_b := rdv_eq b 3
  have e_a := vlen_dg a
  have e_b := vlen_dg b
  refine ⟨?_, fun x1 jx1 h1 => ?_⟩
  · exact ⟨(0, 0, Row.nil), ⟨sub_start _ _, RowOK.nil⟩, rfl, rfl, rfl, rfl, rfl, rfl, rfl, rfl, trivial⟩
  · obtain ⟨L, ok⟩ := h1
    have l1 := L.le; have l2 := L.len; have l3 := L.c0; have l4 := L.c1
    have da := r_a.dig.dgt (Int.toNat ((x1.1 : Nat) : Int))
    have db := r_b.dig.dgt (Int.toNat ((x1.1 : Nat) : Int))
    refine ⟨xlen Try.sl42 3 a, ?_⟩
    refine ⟨fun h2 => ?_, fun h2 => ?_⟩
    · refine ⟨xidx Try.sl42 a .i64 ((x1.1 : Nat) : Int) (by omega) (by rw [← dg_len]; simp only [decide_eq_true_eq, decide_eq_false_iff_not, gt_iff_lt, ge_iff_le, beq_iff_eq, beq_eq_false_iff_ne] at *; omega), xgetR (e := 3) a 3 Try.agg3 (Int.toNat ((x1.1 : Nat) : Int)) r_a (by simp only [decide_eq_true_eq, decide_eq_false_iff_not, gt_iff_lt, ge_iff_le, beq_iff_eq, beq_eq_false_iff_ne] at *; omega), wit_get (e := 3) a (Int.toNat ((x1.1 : Nat) : Int)) r_a (by simp only [decide_eq_true_eq, decide_eq_false_iff_not, gt_iff_lt, ge_iff_le, beq_iff_eq, beq_eq_false_iff_ne] at *; omega), ?_⟩
      intro x2
      intro h3
      replace h3 := getR (e := 3) a (Int.toNat ((x1.1 : Nat) : Int)) r_a (by simp only [decide_eq_true_eq, decide_eq_false_iff_not, gt_iff_lt, ge_iff_le, beq_iff_eq, beq_eq_false_iff_ne] at *; omega) h3
      refine ⟨ref1_at b ((x1.1 : Nat) : Int) (by first | assumption | exact rowOK_lit _ _ (by decide)) (by omega), ⟨_, rfl⟩, ?_⟩
      intro x3
      intro h4
      simp only [rdv_eq] at h4
      refine ⟨⟨(), trivial, congrArg (Value.int .i64) (wrap_i64 _ (by omega) (by omega))⟩, ?_⟩
      intro _
      intro _
      refine ⟨⟨(), trivial, congrArg (Value.int .i64) (wrap_i64 _ (by omega) (by omega))⟩, ?_⟩
      intro _
      intro _
      refine ⟨fun h5 => ?_, fun h5 => ?_⟩
      · refine ⟨⟨(), trivial, congrArg (Value.int .i64) (wrap_i64 _ (by omega) (by omega))⟩, ?_⟩
        intro _
        intro _
        intro b4
        refine ⟨xappendR Try.sl42 42 x1.2.2 (by omega) b4 1 (.int .i64 (((x2 - x3) - x1.2.1) + 65536)) rfl, wit_app _, ?_⟩
        intro x5
        intro h6
        rw [rvals_eq] at h6
        refine ⟨⟨(), trivial, congrArg (Value.int .i64) (wrap_i64 _ (by omega) (by omega))⟩, ?_⟩
        intro _
        intro _
        have q1 := sub_go (x := (((x2 - x3) - x1.2.1) + 65536)) (c' := 1) r_a.dig r_b.dig L (by simp only [decide_eq_true_eq, decide_eq_false_iff_not, gt_iff_lt, ge_iff_le, beq_iff_eq, beq_eq_false_iff_ne] at *; omega) (by simp only [Int.toNat_natCast] at *; simp only [decide_eq_true_eq, decide_eq_false_iff_not, gt_iff_lt, ge_iff_le, beq_iff_eq, beq_eq_false_iff_ne] at *; omega) (by simp only [decide_eq_true_eq, decide_eq_false_iff_not, gt_iff_lt, ge_iff_le, beq_iff_eq, beq_eq_false_iff_ne] at *; omega) (by simp only [decide_eq_true_eq, decide_eq_false_iff_not, gt_iff_lt, ge_iff_le, beq_iff_eq, beq_eq_false_iff_ne] at *; omega) (by decide) (by decide)
        have q := RowOK.snoc ok (x := (((x2 - x3) - x1.2.1) + 65536)) (by simp only [decide_eq_true_eq, decide_eq_false_iff_not, gt_iff_lt, ge_iff_le, beq_iff_eq, beq_eq_false_iff_ne] at *; omega) (by simp only [decide_eq_true_eq, decide_eq_false_iff_not, gt_iff_lt, ge_iff_le, beq_iff_eq, beq_eq_false_iff_ne] at *; omega) (by assumption)
        exact ⟨(x1.1 + 1, 1, x5), ⟨q.2 ▸ q1, q.1⟩, by dsimp only; simp only [decide_eq_true_eq, decide_eq_false_iff_not, gt_iff_lt, ge_iff_le, beq_iff_eq, beq_eq_false_iff_ne] at *; omega, rfl, rfl, rfl, rfl, congrArg (Value.int .i64) (by dsimp only; omega), rfl, rfl, rfl, trivial⟩
      · intro b6
        refine ⟨xappendR Try.sl42 42 x1.2.2 (by omega) b6 1 (.int .i64 ((x2 - x3) - x1.2.1)) rfl, wit_app _, ?_⟩
        intro x7
        intro h7
        rw [rvals_eq] at h7
        refine ⟨⟨(), trivial, congrArg (Value.int .i64) (wrap_i64 _ (by omega) (by omega))⟩, ?_⟩
        intro _
        intro _
        have q1 := sub_go (x := ((x2 - x3) - x1.2.1)) (c' := 0) r_a.dig r_b.dig L (by simp only [decide_eq_true_eq, decide_eq_false_iff_not, gt_iff_lt, ge_iff_le, beq_iff_eq, beq_eq_false_iff_ne] at *; omega) (by simp only [Int.toNat_natCast] at *; simp only [decide_eq_true_eq, decide_eq_false_iff_not, gt_iff_lt, ge_iff_le, beq_iff_eq, beq_eq_false_iff_ne] at *; omega) (by simp only [decide_eq_true_eq, decide_eq_false_iff_not, gt_iff_lt, ge_iff_le, beq_iff_eq, beq_eq_false_iff_ne] at *; omega) (by simp only [decide_eq_true_eq, decide_eq_false_iff_not, gt_iff_lt, ge_iff_le, beq_iff_eq, beq_eq_false_iff_ne] at *; omega) (by decide) (by decide)
        have q := RowOK.snoc ok (x := ((x2 - x3) - x1.2.1)) (by simp only [decide_eq_true_eq, decide_eq_false_iff_not, gt_iff_lt, ge_iff_le, beq_iff_eq, beq_eq_false_iff_ne] at *; omega) (by simp only [decide_eq_true_eq, decide_eq_false_iff_not, gt_iff_lt, ge_iff_le, beq_iff_eq, beq_eq_false_iff_ne] at *; omega) (by assumption)
        exact ⟨(x1.1 + 1, 0, x7), ⟨q.2 ▸ q1, q.1⟩, by dsimp only; simp only [decide_eq_true_eq, decide_eq_false_iff_not, gt_iff_lt, ge_iff_le, beq_iff_eq, beq_eq_false_iff_ne] at *; omega, rfl, rfl, rfl, rfl, congrArg (Value.int .i64) (by dsimp only; omega), rfl, rfl, rfl, trivial⟩
    · refine ⟨ref1_Trim x1.2.2 (by first | assumption | exact rowOK_lit _ _ (by decide)) (by omega), wit_trim x1.2.2 (by first | assumption | exact rowOK_lit _ _ (by decide)), ?_⟩
      intro x8
      intro h8
      simp only [rdv_eq] at h8
      obtain ⟨rh8_, h8⟩ := h8
      have T : TrimR (dg x1.2.2) (dg x8) := by first | exact And.right (by assumption) | assumption
      have hi : x1.1 = (dg a).length := by
        simp only [decide_eq_true_eq, decide_eq_false_iff_not, gt_iff_lt, ge_iff_le, beq_iff_eq, beq_eq_false_iff_ne] at *
        omega
      rw [hi] at L
      exact ⟨_, ⟨by assumption, by rw [d_a, d_b]; exact T.eq.trans (sub_end r_a.dig r_b.dig ok.dig L hle), T.canon⟩, rfl, rfl, rfl, rfl, trivial⟩

def ref1_Mul_C : List Value → List Slot → Ctr := fun vs hs => ⟨Row, fun zx => sv zx, fun zx => [(sarg hs 0), (sarg hs 1), (ss 3 zx)], fun zx => RowOK zx ∧ nv (dg zx) = nv (rdv (varg vs 1) (sarg hs 0)) * nv (rdv (varg vs 2) (sarg hs 1)) ∧ Canon (dg zx)⟩
set_option maxRecDepth 100000 in
set_option maxHeartbeats 2000000 in
theorem ref1_Mul_vc (a : Row) (b : Row) : codeW Try.prog 72 none 2000 none (bodyOf Try.f22) (.reg [.sem []] (.reg [.sem [], .eq (f_len), .sem [], .eq (f_len), .gen [] (fun vs => one (.int .i64 (ci (varg vs 0) + ci (varg vs 1))) vs), .specw [] [20] (F_make 3 (.int .i64 0)), .sem []] (.reg [.sem [], .eq (f_len), .sem []] (.inv (Nat × Row) (fun zx => [(0, sv a), (1, sv b), (5, sv zx.2), (17, .int .i64 ((vlen (sv a) : Nat) : Int)), (18, .int .i64 ((zx.1 : Nat) : Int))]) (fun zx => [(0, (ss 3 a)), (1, (ss 3 b)), (20, (ss 3 zx.2))]) (fun zx => MulO (dg a) (dg b) zx.1 (dg zx.2) ∧ RowOK zx.2) (fun zx => (dg a).length - zx.1) (fun x2 => .reg [.sem []] (.cond (.reg [.sem [], .sem []] (.reg [.sem []] (.reg [.sem [], .eq (f_len), .sem []] (.inv (Nat × Int × Row) (fun zx => [(0, sv a), (1, sv b), (5, sv zx.2.2), (6, .int .i64 ((x2.1 : Nat) : Int)), (7, .int .i64 zx.2.1), (22, .int .i64 ((vlen (sv b) : Nat) : Int)), (23, .int .i64 ((zx.1 : Nat) : Int)), (17, .int .i64 ((vlen (sv a) : Nat) : Int)), (18, .int .i64 ((x2.1 : Nat) : Int))]) (fun zx => [(0, (ss 3 a)), (1, (ss 3 b)), (20, (ss 3 zx.2.2))]) (fun zx => MulN (dg a) (dg b) x2.1 zx.1 zx.2.1 (dg zx.2.2) ∧ RowOK zx.2.2) (fun zx => (dg b).length - zx.1) (fun x3 => .reg [.sem []] (.cond (.reg [.sem [], .sem []] (.reg [.sem [], .sem [], .sem [], .gen [] (fun vs => one (.int .i64 (ci (varg vs 0) + ci (varg vs 1))) vs), .eq (f_idx), .specr [20] F_get, .sem [], .sem [], .eq (f_idx), .specr [0] F_get, .sem [], .sem [], .eq (f_idx), .specr [1] F_get, .gen [] (fun vs => one (.int .i64 (ci (varg vs 0) * ci (varg vs 1))) vs), .gen [] (fun vs => one (.int .i64 (ci (varg vs 0) + ci (varg vs 1))) vs), .sem [], .gen [] (fun vs => one (.int .i64 (ci (varg vs 0) + ci (varg vs 1))) vs), .sem []] (.reg [.sem [], .sem [], .sem [], .gen [] (fun vs => one (.int .i64 (ci (varg vs 0) + ci (varg vs 1))) vs), .sem [], .gen [] (fun vs => one (.int .i64 (ci (varg vs 0) % 65536)) vs), .eq (f_idx), .specw [20] [20] F_put] (.reg [.sem [], .gen [] (fun vs => one (.int .i64 (ci (varg vs 0) / 65536)) vs), .sem []] (.reg [.gen [] (fun vs => one (.int .i64 (ci (varg vs 0) + ci (varg vs 1))) vs), .sem []] (.done)))))) (.reg [.sem [], .sem [], .sem [], .eq (f_len), .gen [] (fun vs => one (.int .i64 (ci (varg vs 0) + ci (varg vs 1))) vs), .sem [], .sem [], .sem [], .eq (f_len), .gen [] (fun vs => one (.int .i64 (ci (varg vs 0) + ci (varg vs 1))) vs), .eq (f_idx), .specr [20] F_get, .sem [], .gen [] (fun vs => one (.int .i64 (ci (varg vs 0) + ci (varg vs 1))) vs), .eq (f_idx), .specw [20] [20] F_put] (.reg [.gen [] (fun vs => one (.int .i64 (ci (varg vs 0) + ci (varg vs 1))) vs), .sem []] (.done))))))))) (.reg [.sem [], .callw [20] [20] ref1_Trim_C, .sem []] (.done))))))))
    (init #[sv a, sv b] [(ss 3 a), (ss 3 b)]) (finW Try.prog Try.f22 [] [0, 1, 20] (X := Row) (fun zx => sv zx) (fun zx => [(ss 3 a), (ss 3 b), (ss 3 zx)]) (fun zx => (RowOK zx ∧ nv (dg zx) = nv (rdv (sv a) (ss 3 a)) * nv (rdv (sv b) (ss 3 b)) ∧ Canon (dg zx)))) =
    ((PureRun Try.prog (do pure (.value (← Builtin.len_ #[42] 3 #[sv a]))) (.int .i64 ((vlen (sv a) : Nat) : Int))) ∧ (PureRun Try.prog (do pure (.value (← Builtin.len_ #[42] 3 #[sv b]))) (.int .i64 ((vlen (sv b) : Nat) : Int))) ∧ (∃ _ : Unit, True ∧ Value.int .i64 (IntKind.i64.wrap (((vlen (sv a) : Nat) : Int) + ((vlen (sv b) : Nat) : Int))) = .int .i64 (((vlen (sv a) : Nat) : Int) + ((vlen (sv b) : Nat) : Int))) ∧ ∀ _ : Unit, (True) → (OpT Try.prog (do pure (.value (← Instr.makeSlice 42 (.int .i64 (((vlen (sv a) : Nat) : Int) + ((vlen (sv b) : Nat) : Int))) (.int .i64 (((vlen (sv a) : Nat) : Int) + ((vlen (sv b) : Nat) : Int)))))) [] Row (fun zx => sv zx) (fun zx => [(ss 3 zx)]) (fun zx => vals zx = List.replicate (Int.toNat (((vlen (sv a) : Nat) : Int) + ((vlen (sv b) : Nat) : Int))) (.int .i64 0))) ∧ (∃ zx : Row, (fun zx => vals zx = List.replicate (Int.toNat (((vlen (sv a) : Nat) : Int) + ((vlen (sv b) : Nat) : Int))) (.int .i64 0)) zx) ∧ ∀ x1 : Row, (vals x1 = List.replicate (Int.toNat (((vlen (sv a) : Nat) : Int) + ((vlen (sv b) : Nat) : Int))) (.int .i64 0)) → (PureRun Try.prog (do pure (.value (← Builtin.len_ #[42] 3 #[sv a]))) (.int .i64 ((vlen (sv a) : Nat) : Int))) ∧ (∃ zx : Nat × Row, (MulO (dg a) (dg b) zx.1 (dg zx.2) ∧ RowOK zx.2) ∧ sv a = sv a ∧ sv b = sv b ∧ sv x1 = sv zx.2 ∧ Value.int .i64 ((vlen (sv a) : Nat) : Int) = .int .i64 ((vlen (sv a) : Nat) : Int) ∧ Value.int .i64 0 = .int .i64 ((zx.1 : Nat) : Int) ∧ (ss 3 a) = (ss 3 a) ∧ (ss 3 b) = (ss 3 b) ∧ (ss 3 x1) = (ss 3 zx.2) ∧ True) ∧ ∀ x2 : Nat × Row, ∀ jx2 : Nat → Value, (MulO (dg a) (dg b) x2.1 (dg x2.2) ∧ RowOK x2.2) → ((decide (((x2.1 : Nat) : Int) < ((vlen (sv a) : Nat) : Int))) = true → (PureRun Try.prog (do pure (.value (← Builtin.len_ #[42] 3 #[sv b]))) (.int .i64 ((vlen (sv b) : Nat) : Int))) ∧ (∃ zx : Nat × Int × Row, (MulN (dg a) (dg b) x2.1 zx.1 zx.2.1 (dg zx.2.2) ∧ RowOK zx.2.2) ∧ sv a = sv a ∧ sv b = sv b ∧ sv x2.2 = sv zx.2.2 ∧ Value.int .i64 ((x2.1 : Nat) : Int) = .int .i64 ((x2.1 : Nat) : Int) ∧ Value.int .i64 0 = .int .i64 zx.2.1 ∧ Value.int .i64 ((vlen (sv b) : Nat) : Int) = .int .i64 ((vlen (sv b) : Nat) : Int) ∧ Value.int .i64 0 = .int .i64 ((zx.1 : Nat) : Int) ∧ Value.int .i64 ((vlen (sv a) : Nat) : Int) = .int .i64 ((vlen (sv a) : Nat) : Int) ∧ Value.int .i64 ((x2.1 : Nat) : Int) = .int .i64 ((x2.1 : Nat) : Int) ∧ (ss 3 a) = (ss 3 a) ∧ (ss 3 b) = (ss 3 b) ∧ (ss 3 x2.2) = (ss 3 zx.2.2) ∧ True) ∧ ∀ x3 : Nat × Int × Row, ∀ jx3 : Nat → Value, (MulN (dg a) (dg b) x2.1 x3.1 x3.2.1 (dg x3.2.2) ∧ RowOK x3.2.2) → ((decide (((x3.1 : Nat) : Int) < ((vlen (sv b) : Nat) : Int))) = true → (∃ _ : Unit, True ∧ Value.int .i64 (IntKind.i64.wrap (((x2.1 : Nat) : Int) + ((x3.1 : Nat) : Int))) = .int .i64 (((x2.1 : Nat) : Int) + ((x3.1 : Nat) : Int))) ∧ ∀ _ : Unit, (True) → (PureRun Try.prog (do pure (.value (← Instr.indexAt 42 (sv x3.2.2) (.int .i64 (((x2.1 : Nat) : Int) + ((x3.1 : Nat) : Int)))))) (.pointer (some ⟨(vblk (sv x3.2.2)), (Int.toNat (((x2.1 : Nat) : Int) + ((x3.1 : Nat) : Int))), none⟩))) ∧ (OpT Try.prog (do pure (.value (← Instr.loadAt 3 (.pointer (some ⟨(vblk (sv x3.2.2)), (Int.toNat (((x2.1 : Nat) : Int) + ((x3.1 : Nat) : Int))), none⟩))))) [(ss 3 x3.2.2)] Int (fun zx => .int .i64 zx) (fun _ => [(ss 3 x3.2.2)]) (fun zx => (scells (ss 3 x3.2.2))[(Int.toNat (((x2.1 : Nat) : Int) + ((x3.1 : Nat) : Int)))]? = some (.int .i64 zx))) ∧ (∃ zx : Int, (fun zx => (scells (ss 3 x3.2.2))[(Int.toNat (((x2.1 : Nat) : Int) + ((x3.1 : Nat) : Int)))]? = some (.int .i64 zx)) zx) ∧ ∀ x4 : Int, ((scells (ss 3 x3.2.2))[(Int.toNat (((x2.1 : Nat) : Int) + ((x3.1 : Nat) : Int)))]? = some (.int .i64 x4)) → (PureRun Try.prog (do pure (.value (← Instr.indexAt 42 (sv a) (.int .i64 ((x2.1 : Nat) : Int))))) (.pointer (some ⟨(vblk (sv a)), (Int.toNat ((x2.1 : Nat) : Int)), none⟩))) ∧ (OpT Try.prog (do pure (.value (← Instr.loadAt 3 (.pointer (some ⟨(vblk (sv a)), (Int.toNat ((x2.1 : Nat) : Int)), none⟩))))) [(ss 3 a)] Int (fun zx => .int .i64 zx) (fun _ => [(ss 3 a)]) (fun zx => (scells (ss 3 a))[(Int.toNat ((x2.1 : Nat) : Int))]? = some (.int .i64 zx))) ∧ (∃ zx : Int, (fun zx => (scells (ss 3 a))[(Int.toNat ((x2.1 : Nat) : Int))]? = some (.int .i64 zx)) zx) ∧ ∀ x5 : Int, ((scells (ss 3 a))[(Int.toNat ((x2.1 : Nat) : Int))]? = some (.int .i64 x5)) → (PureRun Try.prog (do pure (.value (← Instr.indexAt 42 (sv b) (.int .i64 ((x3.1 : Nat) : Int))))) (.pointer (some ⟨(vblk (sv b)), (Int.toNat ((x3.1 : Nat) : Int)), none⟩))) ∧ (OpT Try.prog (do pure (.value (← Instr.loadAt 3 (.pointer (some ⟨(vblk (sv b)), (Int.toNat ((x3.1 : Nat) : Int)), none⟩))))) [(ss 3 b)] Int (fun zx => .int .i64 zx) (fun _ => [(ss 3 b)]) (fun zx => (scells (ss 3 b))[(Int.toNat ((x3.1 : Nat) : Int))]? = some (.int .i64 zx))) ∧ (∃ zx : Int, (fun zx => (scells (ss 3 b))[(Int.toNat ((x3.1 : Nat) : Int))]? = some (.int .i64 zx)) zx) ∧ ∀ x6 : Int, ((scells (ss 3 b))[(Int.toNat ((x3.1 : Nat) : Int))]? = some (.int .i64 x6)) → (∃ _ : Unit, True ∧ Value.int .i64 (IntKind.i64.wrap (x5 * x6)) = .int .i64 (x5 * x6)) ∧ ∀ _ : Unit, (True) → (∃ _ : Unit, True ∧ Value.int .i64 (IntKind.i64.wrap (x4 + (x5 * x6))) = .int .i64 (x4 + (x5 * x6))) ∧ ∀ _ : Unit, (True) → (∃ _ : Unit, True ∧ Value.int .i64 (IntKind.i64.wrap ((x4 + (x5 * x6)) + x3.2.1)) = .int .i64 ((x4 + (x5 * x6)) + x3.2.1)) ∧ ∀ _ : Unit, (True) → (∃ _ : Unit, True ∧ Value.int .i64 (IntKind.i64.wrap (((x2.1 : Nat) : Int) + ((x3.1 : Nat) : Int))) = .int .i64 (((x2.1 : Nat) : Int) + ((x3.1 : Nat) : Int))) ∧ ∀ _ : Unit, (True) → (∃ _ : Unit, True ∧ Value.int .i64 (Int.tmod ((x4 + (x5 * x6)) + x3.2.1) 65536) = .int .i64 (((x4 + (x5 * x6)) + x3.2.1) % 65536)) ∧ ∀ _ : Unit, (True) → (PureRun Try.prog (do pure (.value (← Instr.indexAt 42 (sv x3.2.2) (.int .i64 (((x2.1 : Nat) : Int) + ((x3.1 : Nat) : Int)))))) (.pointer (some ⟨(vblk (sv x3.2.2)), (Int.toNat (((x2.1 : Nat) : Int) + ((x3.1 : Nat) : Int))), none⟩))) ∧ (OpT Try.prog (do Instr.storeAt 3 (.pointer (some ⟨(vblk (sv x3.2.2)), (Int.toNat (((x2.1 : Nat) : Int) + ((x3.1 : Nat) : Int))), none⟩)) (.int .i64 (((x4 + (x5 * x6)) + x3.2.1) % 65536)); pure .skip) [(ss 3 x3.2.2)] Unit (fun _ => .tuple #[]) (fun _ => [(sset (ss 3 x3.2.2) (Int.toNat (((x2.1 : Nat) : Int) + ((x3.1 : Nat) : Int))) (.int .i64 (((x4 + (x5 * x6)) + x3.2.1) % 65536)))]) (fun _ => True)) ∧ (∃ zx : Unit, (fun _ => True) zx) ∧ ∀ _ : Unit, (True) → (∃ _ : Unit, True ∧ Value.int .i64 (IntKind.i64.wrap (Int.tdiv ((x4 + (x5 * x6)) + x3.2.1) 65536)) = .int .i64 (((x4 + (x5 * x6)) + x3.2.1) / 65536)) ∧ ∀ _ : Unit, (True) → (∃ _ : Unit, True ∧ Value.int .i64 (IntKind.i64.wrap (((x3.1 : Nat) : Int) + 1)) = .int .i64 (((x3.1 : Nat) : Int) + 1)) ∧ ∀ _ : Unit, (True) → ∃ zy : Nat × Int × Row, (MulN (dg a) (dg b) x2.1 zy.1 zy.2.1 (dg zy.2.2) ∧ RowOK zy.2.2) ∧ (dg b).length - zy.1 < (dg b).length - x3.1 ∧ sv a = sv a ∧ sv b = sv b ∧ sv x3.2.2 = sv zy.2.2 ∧ Value.int .i64 ((x2.1 : Nat) : Int) = .int .i64 ((x2.1 : Nat) : Int) ∧ Value.int .i64 (((x4 + (x5 * x6)) + x3.2.1) / 65536) = .int .i64 zy.2.1 ∧ Value.int .i64 ((vlen (sv b) : Nat) : Int) = .int .i64 ((vlen (sv b) : Nat) : Int) ∧ Value.int .i64 (((x3.1 : Nat) : Int) + 1) = .int .i64 ((zy.1 : Nat) : Int) ∧ Value.int .i64 ((vlen (sv a) : Nat) : Int) = .int .i64 ((vlen (sv a) : Nat) : Int) ∧ Value.int .i64 ((x2.1 : Nat) : Int) = .int .i64 ((x2.1 : Nat) : Int) ∧ (ss 3 a) = (ss 3 a) ∧ (ss 3 b) = (ss 3 b) ∧ (sset (ss 3 x3.2.2) (Int.toNat (((x2.1 : Nat) : Int) + ((x3.1 : Nat) : Int))) (.int .i64 (((x4 + (x5 * x6)) + x3.2.1) % 65536))) = (ss 3 zy.2.2) ∧ True) ∧ ((decide (((x3.1 : Nat) : Int) < ((vlen (sv b) : Nat) : Int))) = false → (PureRun Try.prog (do pure (.value (← Builtin.len_ #[42] 3 #[sv b]))) (.int .i64 ((vlen (sv b) : Nat) : Int))) ∧ (∃ _ : Unit, True ∧ Value.int .i64 (IntKind.i64.wrap (((x2.1 : Nat) : Int) + ((vlen (sv b) : Nat) : Int))) = .int .i64 (((x2.1 : Nat) : Int) + ((vlen (sv b) : Nat) : Int))) ∧ ∀ _ : Unit, (True) → (PureRun Try.prog (do pure (.value (← Builtin.len_ #[42] 3 #[sv b]))) (.int .i64 ((vlen (sv b) : Nat) : Int))) ∧ (∃ _ : Unit, True ∧ Value.int .i64 (IntKind.i64.wrap (((x2.1 : Nat) : Int) + ((vlen (sv b) : Nat) : Int))) = .int .i64 (((x2.1 : Nat) : Int) + ((vlen (sv b) : Nat) : Int))) ∧ ∀ _ : Unit, (True) → (PureRun Try.prog (do pure (.value (← Instr.indexAt 42 (sv x3.2.2) (.int .i64 (((x2.1 : Nat) : Int) + ((vlen (sv b) : Nat) : Int)))))) (.pointer (some ⟨(vblk (sv x3.2.2)), (Int.toNat (((x2.1 : Nat) : Int) + ((vlen (sv b) : Nat) : Int))), none⟩))) ∧ (OpT Try.prog (do pure (.value (← Instr.loadAt 3 (.pointer (some ⟨(vblk (sv x3.2.2)), (Int.toNat (((x2.1 : Nat) : Int) + ((vlen (sv b) : Nat) : Int))), none⟩))))) [(ss 3 x3.2.2)] Int (fun zx => .int .i64 zx) (fun _ => [(ss 3 x3.2.2)]) (fun zx => (scells (ss 3 x3.2.2))[(Int.toNat (((x2.1 : Nat) : Int) + ((vlen (sv b) : Nat) : Int)))]? = some (.int .i64 zx))) ∧ (∃ zx : Int, (fun zx => (scells (ss 3 x3.2.2))[(Int.toNat (((x2.1 : Nat) : Int) + ((vlen (sv b) : Nat) : Int)))]? = some (.int .i64 zx)) zx) ∧ ∀ x7 : Int, ((scells (ss 3 x3.2.2))[(Int.toNat (((x2.1 : Nat) : Int) + ((vlen (sv b) : Nat) : Int)))]? = some (.int .i64 x7)) → (∃ _ : Unit, True ∧ Value.int .i64 (IntKind.i64.wrap (x7 + x3.2.1)) = .int .i64 (x7 + x3.2.1)) ∧ ∀ _ : Unit, (True) → (PureRun Try.prog (do pure (.value (← Instr.indexAt 42 (sv x3.2.2) (.int .i64 (((x2.1 : Nat) : Int) + ((vlen (sv b) : Nat) : Int)))))) (.pointer (some ⟨(vblk (sv x3.2.2)), (Int.toNat (((x2.1 : Nat) : Int) + ((vlen (sv b) : Nat) : Int))), none⟩))) ∧ (OpT Try.prog (do Instr.storeAt 3 (.pointer (some ⟨(vblk (sv x3.2.2)), (Int.toNat (((x2.1 : Nat) : Int) + ((vlen (sv b) : Nat) : Int))), none⟩)) (.int .i64 (x7 + x3.2.1)); pure .skip) [(ss 3 x3.2.2)] Unit (fun _ => .tuple #[]) (fun _ => [(sset (ss 3 x3.2.2) (Int.toNat (((x2.1 : Nat) : Int) + ((vlen (sv b) : Nat) : Int))) (.int .i64 (x7 + x3.2.1)))]) (fun _ => True)) ∧ (∃ zx : Unit, (fun _ => True) zx) ∧ ∀ _ : Unit, (True) → (∃ _ : Unit, True ∧ Value.int .i64 (IntKind.i64.wrap (((x2.1 : Nat) : Int) + 1)) = .int .i64 (((x2.1 : Nat) : Int) + 1)) ∧ ∀ _ : Unit, (True) → ∃ zy : Nat × Row, (MulO (dg a) (dg b) zy.1 (dg zy.2) ∧ RowOK zy.2) ∧ (dg a).length - zy.1 < (dg a).length - x2.1 ∧ sv a = sv a ∧ sv b = sv b ∧ sv x3.2.2 = sv zy.2 ∧ Value.int .i64 ((vlen (sv a) : Nat) : Int) = .int .i64 ((vlen (sv a) : Nat) : Int) ∧ Value.int .i64 (((x2.1 : Nat) : Int) + 1) = .int .i64 ((zy.1 : Nat) : Int) ∧ (ss 3 a) = (ss 3 a) ∧ (ss 3 b) = (ss 3 b) ∧ (sset (ss 3 x3.2.2) (Int.toNat (((x2.1 : Nat) : Int) + ((vlen (sv b) : Nat) : Int))) (.int .i64 (x7 + x3.2.1))) = (ss 3 zy.2) ∧ True)) ∧ ((decide (((x2.1 : Nat) : Int) < ((vlen (sv a) : Nat) : Int))) = false → (CallT Try.prog 31 #[sv x2.2] [(ss 3 x2.2)] Row (fun zx => sv zx) (fun zx => [(ss 3 zx)]) (fun zx => RowOK zx ∧ ss 3 zx = (ss 3 x2.2) ∧ TrimR (rdv (sv x2.2) (ss 3 x2.2)) (dg zx))) ∧ (∃ zx : Row, (fun zx => RowOK zx ∧ ss 3 zx = (ss 3 x2.2) ∧ TrimR (rdv (sv x2.2) (ss 3 x2.2)) (dg zx)) zx) ∧ ∀ x8 : Row, (RowOK x8 ∧ ss 3 x8 = (ss 3 x2.2) ∧ TrimR (rdv (sv x2.2) (ss 3 x2.2)) (dg x8)) → ∃ zx : Row, (RowOK zx ∧ nv (dg zx) = nv (rdv (sv a) (ss 3 a)) * nv (rdv (sv b) (ss 3 b)) ∧ Canon (dg zx)) ∧ sv x8 = sv zx ∧ (ss 3 a) = (ss 3 a) ∧ (ss 3 b) = (ss 3 b) ∧ (ss 3 x8) = (ss 3 zx) ∧ True)) := by kernel_rfl
set_option maxRecDepth 100000 in
set_option maxHeartbeats 2000000 in
theorem ref1_Mul (a : Row) (b : Row) (r_a : RowOK a) (r_b : RowOK b) (la : (dg a).length ≤ 65536) (lb : (dg b).length ≤ 65536) : CallT Try.prog 22 #[sv a, sv b] [(ss 3 a), (ss 3 b)] Row (fun zx => sv zx) (fun zx => [(ss 3 a), (ss 3 b), (ss 3 zx)]) (fun zx => (RowOK zx ∧ nv (dg zx) = nv (rdv (sv a) (ss 3 a)) * nv (rdv (sv b) (ss 3 b)) ∧ Canon (dg zx))) := by
  refine call_of (c := bodyOf Try.f22) (n := 72) (fn := Try.f22) Try.mixed Try.func22 (by kernel_rfl) (by kernel_rfl) (by kernel_rfl) 2000 _ [] [0, 1, 20] rfl rfl (Eq.mpr (ref1_Mul_vc a b) ?_)
  have d_a := rdv_eq a 3
  have d_b := rdv_eq b 3
  have e_a := vlen_dg a
  have e_b := vlen_dg b
  refine ⟨xlen Try.sl42 3 a, xlen Try.sl42 3 b, ⟨(), trivial, congrArg (Value.int .i64) (wrap_i64 _ (by omega) (by omega))⟩, ?_⟩
  intro _
  intro _
  refine ⟨xmake Try.sl42 .i64 (((vlen (sv a) : Nat) : Int) + ((vlen (sv b) : Nat) : Int)) (by omega) (by omega), wit_make (e := 3) _ _, ?_⟩
  intro x1
  intro h1
  refine ⟨xlen Try.sl42 3 a, ?_⟩
  refine ⟨?_, fun x2 jx2 h2 => ?_⟩
  · have q := RowOK.zeros (y := x1) (by assumption)
    exact ⟨(0, x1), ⟨by rw [q.2]; exact mul_start _ _ _ (by omega), q.1⟩, rfl, rfl, rfl, rfl, rfl, rfl, rfl, rfl, trivial⟩
  · obtain ⟨L, ok⟩ := h2
    have l1 := L.le; have l2 := L.len
    have da := r_a.dig.dgt (Int.toNat ((x2.1 : Nat) : Int))
    refine ⟨fun h3 => ?_, fun h3 => ?_⟩
    · have hi : x2.1 < (dg a).length := by
        simp only [decide_eq_true_eq, decide_eq_false_iff_not, gt_iff_lt, ge_iff_le, beq_iff_eq, beq_eq_false_iff_ne] at *
        omega
      refine ⟨xlen Try.sl42 3 b, ?_⟩
      refine ⟨?_, fun x3 jx3 h4 => ?_⟩
      · exact ⟨(0, 0, x2.2), ⟨muln_start L, ok⟩, rfl, rfl, rfl, rfl, rfl, rfl, rfl, rfl, rfl, rfl, rfl, rfl, trivial⟩
      · obtain ⟨M, okn⟩ := h4
        have m1 := M.le; have m2 := M.len; have m3 := M.c0; have m4 := M.c1
        have db := r_b.dig.dgt (Int.toNat ((x3.1 : Nat) : Int))
        have dn := okn.dig.dgt (Int.toNat (((x2.1 : Nat) : Int) + ((x3.1 : Nat) : Int)))
        refine ⟨fun h5 => ?_, fun h5 => ?_⟩
        · have hk : x3.1 < (dg b).length := by
            simp only [decide_eq_true_eq, decide_eq_false_iff_not, gt_iff_lt, ge_iff_le, beq_iff_eq, beq_eq_false_iff_ne] at *
            omega
          refine ⟨⟨(), trivial, congrArg (Value.int .i64) (wrap_i64 _ (by omega) (by omega))⟩, ?_⟩
          intro _
          intro _
          refine ⟨xidx Try.sl42 x3.2.2 .i64 (((x2.1 : Nat) : Int) + ((x3.1 : Nat) : Int)) (by omega) (by rw [← dg_len]; omega), xgetR (e := 3) x3.2.2 3 Try.agg3 (Int.toNat (((x2.1 : Nat) : Int) + ((x3.1 : Nat) : Int))) okn (by omega), wit_get (e := 3) x3.2.2 (Int.toNat (((x2.1 : Nat) : Int) + ((x3.1 : Nat) : Int))) okn (by omega), ?_⟩
          intro x4
          intro h6
          replace h6 := getR (e := 3) x3.2.2 (Int.toNat (((x2.1 : Nat) : Int) + ((x3.1 : Nat) : Int))) okn (by omega) h6
          refine ⟨xidx Try.sl42 a .i64 ((x2.1 : Nat) : Int) (by omega) (by rw [← dg_len]; omega), xgetR (e := 3) a 3 Try.agg3 (Int.toNat ((x2.1 : Nat) : Int)) r_a (by omega), wit_get (e := 3) a (Int.toNat ((x2.1 : Nat) : Int)) r_a (by omega), ?_⟩
          intro x5
          intro h7
          replace h7 := getR (e := 3) a (Int.toNat ((x2.1 : Nat) : Int)) r_a (by omega) h7
          refine ⟨xidx Try.sl42 b .i64 ((x3.1 : Nat) : Int) (by omega) (by rw [← dg_len]; omega), xgetR (e := 3) b 3 Try.agg3 (Int.toNat ((x3.1 : Nat) : Int)) r_b (by omega), wit_get (e := 3) b (Int.toNat ((x3.1 : Nat) : Int)) r_b (by omega), ?_⟩
          intro x6
          intro h8
          replace h8 := getR (e := 3) b (Int.toNat ((x3.1 : Nat) : Int)) r_b (by omega) h8
          refine ⟨⟨(), trivial, congrArg (Value.int .i64) (wrap_i64 _ (by have hab := dmul (a := x5) (b := x6) (by omega) (by omega) (by omega) (by omega); omega) (by have hab := dmul (a := x5) (b := x6) (by omega) (by omega) (by omega) (by omega); omega))⟩, ?_⟩
          intro _
          intro _
          refine ⟨⟨(), trivial, congrArg (Value.int .i64) (wrap_i64 _ (by have hab := dmul (a := x5) (b := x6) (by omega) (by omega) (by omega) (by omega); omega) (by have hab := dmul (a := x5) (b := x6) (by omega) (by omega) (by omega) (by omega); omega))⟩, ?_⟩
          intro _
          intro _
          refine ⟨⟨(), trivial, congrArg (Value.int .i64) (wrap_i64 _ (by have hab := dmul (a := x5) (b := x6) (by omega) (by omega) (by omega) (by omega); omega) (by have hab := dmul (a := x5) (b := x6) (by omega) (by omega) (by omega) (by omega); omega))⟩, ?_⟩
          intro _
          intro _
          have hab := dmul (a := x5) (b := x6) (by omega) (by omega) (by omega) (by omega)
          refine ⟨⟨(), trivial, congrArg (Value.int .i64) (wrap_i64 _ (by omega) (by omega))⟩, ?_⟩
          intro _
          intro _
          refine ⟨⟨(), trivial, congrArg (Value.int .i64) (tmod_nat (by omega))⟩, ?_⟩
          intro _
          intro _
          refine ⟨xidx Try.sl42 x3.2.2 .i64 (((x2.1 : Nat) : Int) + ((x3.1 : Nat) : Int)) (by omega) (by rw [← dg_len]; omega), xput (e := 3) x3.2.2 3 Try.size3 (Int.toNat (((x2.1 : Nat) : Int) + ((x3.1 : Nat) : Int))) (.int .i64 (((x4 + (x5 * x6)) + x3.2.1) % 65536)) rfl rfl (by rw [← dg_len]; omega), ⟨(), trivial⟩, ?_⟩
          intro _
          intro _
          refine ⟨⟨(), trivial, congrArg (Value.int .i64) (quo_i64 (by omega) (by omega))⟩, ?_⟩
          intro _
          intro _
          refine ⟨⟨(), trivial, congrArg (Value.int .i64) (wrap_i64 _ (by omega) (by omega))⟩, ?_⟩
          intro _
          intro _
          have et : Int.toNat (((x2.1 : Nat) : Int) + ((x3.1 : Nat) : Int)) = x2.1 + x3.1 := by omega
          have q := muln_step (x := ((x4 + (x5 * x6)) + x3.2.1)) r_a.dig r_b.dig okn.dig M hi hk (by simp only [et, Int.toNat_natCast] at *; simp only [*])
          have p := okn.set (x2.1 + x3.1) q.2.1 q.2.2
          exact ⟨(x3.1 + 1, _, x3.2.2.set (x2.1 + x3.1) (.int .i64 (((x4 + (x5 * x6)) + x3.2.1) % 65536))), ⟨p.2.symm ▸ q.1, p.1⟩, by dsimp only; omega, rfl, rfl, (sv_set _ _ _).symm, rfl, rfl, rfl, congrArg (Value.int .i64) (by dsimp only; omega), rfl, rfl, rfl, rfl, by rw [et]; exact ss_set _ _ _ _ (by rw [← dg_len]; omega), trivial⟩
        · have hz := (dgt_zero_of okn.dig M.z).1
          have hk : x3.1 = (dg b).length := by
            simp only [decide_eq_true_eq, decide_eq_false_iff_not, gt_iff_lt, ge_iff_le, beq_iff_eq, beq_eq_false_iff_ne] at *
            omega
          have et' : Int.toNat (((x2.1 : Nat) : Int) + ((vlen (sv b) : Nat) : Int)) = x2.1 + (dg b).length := by omega
          have hz' : dgt (dg x3.2.2) (Int.toNat (((x2.1 : Nat) : Int) + ((vlen (sv b) : Nat) : Int))) = 0 := by rw [et']; exact hz
          refine ⟨xlen Try.sl42 3 b, ⟨(), trivial, congrArg (Value.int .i64) (wrap_i64 _ (by omega) (by omega))⟩, ?_⟩
          intro _
          intro _
          refine ⟨xlen Try.sl42 3 b, ⟨(), trivial, congrArg (Value.int .i64) (wrap_i64 _ (by omega) (by omega))⟩, ?_⟩
          intro _
          intro _
          refine ⟨xidx Try.sl42 x3.2.2 .i64 (((x2.1 : Nat) : Int) + ((vlen (sv b) : Nat) : Int)) (by omega) (by rw [← dg_len]; omega), xgetR (e := 3) x3.2.2 3 Try.agg3 (Int.toNat (((x2.1 : Nat) : Int) + ((vlen (sv b) : Nat) : Int))) okn (by omega), wit_get (e := 3) x3.2.2 (Int.toNat (((x2.1 : Nat) : Int) + ((vlen (sv b) : Nat) : Int))) okn (by omega), ?_⟩
          intro x7
          intro h9
          replace h9 := getR (e := 3) x3.2.2 (Int.toNat (((x2.1 : Nat) : Int) + ((vlen (sv b) : Nat) : Int))) okn (by omega) h9
          refine ⟨⟨(), trivial, congrArg (Value.int .i64) (wrap_i64 _ (by omega) (by omega))⟩, ?_⟩
          intro _
          intro _
          refine ⟨xidx Try.sl42 x3.2.2 .i64 (((x2.1 : Nat) : Int) + ((vlen (sv b) : Nat) : Int)) (by omega) (by rw [← dg_len]; omega), xput (e := 3) x3.2.2 3 Try.size3 (Int.toNat (((x2.1 : Nat) : Int) + ((vlen (sv b) : Nat) : Int))) (.int .i64 (x7 + x3.2.1)) rfl rfl (by rw [← dg_len]; omega), ⟨(), trivial⟩, ?_⟩
          intro _
          intro _
          refine ⟨⟨(), trivial, congrArg (Value.int .i64) (wrap_i64 _ (by omega) (by omega))⟩, ?_⟩
          intro _
          intro _
          have et : Int.toNat (((x2.1 : Nat) : Int) + ((vlen (sv b) : Nat) : Int)) = x2.1 + (dg b).length := by omega
          have hk : x3.1 = (dg b).length := by
            simp only [decide_eq_true_eq, decide_eq_false_iff_not, gt_iff_lt, ge_iff_le, beq_iff_eq, beq_eq_false_iff_ne] at *
            omega
          rw [hk] at M
          have q := muln_end okn.dig M hi
          have hv : x7 + x3.2.1 = dgt (dg x3.2.2) (x2.1 + (dg b).length) + x3.2.1 := by simp only [et] at *; simp only [*]
          have p := okn.set (x2.1 + (dg b).length) q.2.1 q.2.2
          exact ⟨(x2.1 + 1, x3.2.2.set (x2.1 + (dg b).length) (.int .i64 (dgt (dg x3.2.2) (x2.1 + (dg b).length) + x3.2.1))), ⟨p.2.symm ▸ q.1, p.1⟩, by dsimp only; omega, rfl, rfl, (sv_set _ _ _).symm, rfl, congrArg (Value.int .i64) (by dsimp only; omega), rfl, rfl, by rw [et, hv]; exact ss_set _ _ _ _ (by rw [← dg_len]; omega), trivial⟩
    · refine ⟨ref1_Trim x2.2 (by first | assumption | exact rowOK_lit _ _ (by decide)) (by omega), wit_trim x2.2 (by first | assumption | exact rowOK_lit _ _ (by decide)), ?_⟩
      intro x8
      intro h10
      simp only [rdv_eq] at h10
      obtain ⟨rh10_, h10⟩ := h10
      have T : TrimR (dg x2.2) (dg x8) := by first | exact And.right (by assumption) | assumption
      have hi : x2.1 = (dg a).length := by
        simp only [decide_eq_true_eq, decide_eq_false_iff_not, gt_iff_lt, ge_iff_le, beq_iff_eq, beq_eq_false_iff_ne] at *
        omega
      rw [hi] at L
      exact ⟨_, ⟨by assumption, by rw [d_a, d_b]; exact T.eq.trans (mul_end L), T.canon⟩, rfl, rfl, rfl, rfl, trivial⟩

def ref2_Row_C : List Value → List Slot → Ctr := fun vs hs => ⟨Row, fun zx => sv zx, fun zx => [(ss 3 zx)], fun zx => RowOK zx ∧ nv (dg zx) = (num (varg vs 1)) ∧ Canon (dg zx) ∧ (dg zx).length ≤ 16⟩
set_option maxRecDepth 100000 in
set_option maxHeartbeats 2000000 in
theorem ref2_Row_vc (a : Int) : codeW Try.prog 24 none 2000 none (bodyOf Try.f19) (.reg [.sem [.nw 0], .sem []] (.reg [.sem []] (.reg [.sem [.rd 0, .rd 0, .rd 0, .rd 0], .sem []] (.reg [.sem []] (.condT (.reg [.sem [], .sem []] (.reg [.sem []] (.reg [.sem []] (.condT (.reg [.sem [], .sem [], .gen [] (fun vs => one (.int .u64 (ci (varg vs 0) % 65536)) vs), .gen [] (fun vs => one (.int .i64 (ci (varg vs 0))) vs), .sem [.nw 1], .specw [2, 1] [20, 1] (F_app 3), .sem []] (.reg [.sem [], .gen [] (fun vs => one (.int .u64 (ci (varg vs 0) / 65536)) vs), .sem []] (.reg [.sem [], .sem []] (.reg [.sem []] (.condT (.reg [.sem [], .sem [], .gen [] (fun vs => one (.int .u64 (ci (varg vs 0) % 65536)) vs), .gen [] (fun vs => one (.int .i64 (ci (varg vs 0))) vs), .sem [.nw 1], .specw [20, 1] [20, 1] (F_app 3), .sem []] (.reg [.sem [], .gen [] (fun vs => one (.int .u64 (ci (varg vs 0) / 65536)) vs), .sem []] (.reg [.sem [], .sem []] (.reg [.sem []] (.condT (.reg [.sem [], .sem [], .gen [] (fun vs => one (.int .u64 (ci (varg vs 0) % 65536)) vs), .gen [] (fun vs => one (.int .i64 (ci (varg vs 0))) vs), .sem [.nw 1], .specw [20, 1] [20, 1] (F_app 3), .sem []] (.reg [.sem [], .gen [] (fun vs => one (.int .u64 (ci (varg vs 0) / 65536)) vs), .sem []] (.reg [.sem [], .sem []] (.reg [.sem []] (.condT (.reg [.sem [], .sem [], .gen [] (fun vs => one (.int .u64 (ci (varg vs 0) % 65536)) vs), .gen [] (fun vs => one (.int .i64 (ci (varg vs 0))) vs), .sem [.nw 1], .specw [20, 1] [20, 1] (F_app 3), .sem []] (.reg [.sem [], .gen [] (fun vs => one (.int .u64 (ci (varg vs 0) / 65536)) vs), .sem []] (.reg [.sem [], .sem []] (.reg [.sem []] (.condF (.reg [.sem [], .sem []] (.reg [.sem []] (.condT (.reg [.sem [], .sem []] (.reg [.sem []] (.reg [.sem []] (.condT (.reg [.sem [], .sem [], .gen [] (fun vs => one (.int .u64 (ci (varg vs 0) % 65536)) vs), .gen [] (fun vs => one (.int .i64 (ci (varg vs 0))) vs), .sem [.nw 1], .specw [20, 1] [20, 1] (F_app 3), .sem []] (.reg [.sem [], .gen [] (fun vs => one (.int .u64 (ci (varg vs 0) / 65536)) vs), .sem []] (.reg [.sem [], .sem []] (.reg [.sem []] (.condT (.reg [.sem [], .sem [], .gen [] (fun vs => one (.int .u64 (ci (varg vs 0) % 65536)) vs), .gen [] (fun vs => one (.int .i64 (ci (varg vs 0))) vs), .sem [.nw 1], .specw [20, 1] [20, 1] (F_app 3), .sem []] (.reg [.sem [], .gen [] (fun vs => one (.int .u64 (ci (varg vs 0) / 65536)) vs), .sem []] (.reg [.sem [], .sem []] (.reg [.sem []] (.condT (.reg [.sem [], .sem [], .gen [] (fun vs => one (.int .u64 (ci (varg vs 0) % 65536)) vs), .gen [] (fun vs => one (.int .i64 (ci (varg vs 0))) vs), .sem [.nw 1], .specw [20, 1] [20, 1] (F_app 3), .sem []] (.reg [.sem [], .gen [] (fun vs => one (.int .u64 (ci (varg vs 0) / 65536)) vs), .sem []] (.reg [.sem [], .sem []] (.reg [.sem []] (.condT (.reg [.sem [], .sem [], .gen [] (fun vs => one (.int .u64 (ci (varg vs 0) % 65536)) vs), .gen [] (fun vs => one (.int .i64 (ci (varg vs 0))) vs), .sem [.nw 1], .specw [20, 1] [20, 1] (F_app 3), .sem []] (.reg [.sem [], .gen [] (fun vs => one (.int .u64 (ci (varg vs 0) / 65536)) vs), .sem []] (.reg [.sem [], .sem []] (.reg [.sem []] (.condF (.reg [.sem [], .sem []] (.reg [.sem []] (.condT (.reg [.sem [], .sem []] (.reg [.sem []] (.reg [.sem []] (.condT (.reg [.sem [], .sem [], .gen [] (fun vs => one (.int .u64 (ci (varg vs 0) % 65536)) vs), .gen [] (fun vs => one (.int .i64 (ci (varg vs 0))) vs), .sem [.nw 1], .specw [20, 1] [20, 1] (F_app 3), .sem []] (.reg [.sem [], .gen [] (fun vs => one (.int .u64 (ci (varg vs 0) / 65536)) vs), .sem []] (.reg [.sem [], .sem []] (.reg [.sem []] (.condT (.reg [.sem [], .sem [], .gen [] (fun vs => one (.int .u64 (ci (varg vs 0) % 65536)) vs), .gen [] (fun vs => one (.int .i64 (ci (varg vs 0))) vs), .sem [.nw 1], .specw [20, 1] [20, 1] (F_app 3), .sem []] (.reg [.sem [], .gen [] (fun vs => one (.int .u64 (ci (varg vs 0) / 65536)) vs), .sem []] (.reg [.sem [], .sem []] (.reg [.sem []] (.condT (.reg [.sem [], .sem [], .gen [] (fun vs => one (.int .u64 (ci (varg vs 0) % 65536)) vs), .gen [] (fun vs => one (.int .i64 (ci (varg vs 0))) vs), .sem [.nw 1], .specw [20, 1] [20, 1] (F_app 3), .sem []] (.reg [.sem [], .gen [] (fun vs => one (.int .u64 (ci (varg vs 0) / 65536)) vs), .sem []] (.reg [.sem [], .sem []] (.reg [.sem []] (.condT (.reg [.sem [], .sem [], .gen [] (fun vs => one (.int .u64 (ci (varg vs 0) % 65536)) vs), .gen [] (fun vs => one (.int .i64 (ci (varg vs 0))) vs), .sem [.nw 1], .specw [20, 1] [20, 1] (F_app 3), .sem []] (.reg [.sem [], .gen [] (fun vs => one (.int .u64 (ci (varg vs 0) / 65536)) vs), .sem []] (.reg [.sem [], .sem []] (.reg [.sem []] (.condF (.reg [.sem [], .sem []] (.reg [.sem []] (.condT (.reg [.sem [], .sem []] (.reg [.sem []] (.reg [.sem []] (.condT (.reg [.sem [], .sem [], .gen [] (fun vs => one (.int .u64 (ci (varg vs 0) % 65536)) vs), .gen [] (fun vs => one (.int .i64 (ci (varg vs 0))) vs), .sem [.nw 1], .specw [20, 1] [20, 1] (F_app 3), .sem []] (.reg [.sem [], .gen [] (fun vs => one (.int .u64 (ci (varg vs 0) / 65536)) vs), .sem []] (.reg [.sem [], .sem []] (.reg [.sem []] (.condT (.reg [.sem [], .sem [], .gen [] (fun vs => one (.int .u64 (ci (varg vs 0) % 65536)) vs), .gen [] (fun vs => one (.int .i64 (ci (varg vs 0))) vs), .sem [.nw 1], .specw [20, 1] [20, 1] (F_app 3), .sem []] (.reg [.sem [], .gen [] (fun vs => one (.int .u64 (ci (varg vs 0) / 65536)) vs), .sem []] (.reg [.sem [], .sem []] (.reg [.sem []] (.condT (.reg [.sem [], .sem [], .gen [] (fun vs => one (.int .u64 (ci (varg vs 0) % 65536)) vs), .gen [] (fun vs => one (.int .i64 (ci (varg vs 0))) vs), .sem [.nw 1], .specw [20, 1] [20, 1] (F_app 3), .sem []] (.reg [.sem [], .gen [] (fun vs => one (.int .u64 (ci (varg vs 0) / 65536)) vs), .sem []] (.reg [.sem [], .sem []] (.reg [.sem []] (.condT (.reg [.sem [], .sem [], .gen [] (fun vs => one (.int .u64 (ci (varg vs 0) % 65536)) vs), .gen [] (fun vs => one (.int .i64 (ci (varg vs 0))) vs), .sem [.nw 1], .specw [20, 1] [20, 1] (F_app 3), .sem []] (.reg [.sem [], .gen [] (fun vs => one (.int .u64 (ci (varg vs 0) / 65536)) vs), .sem []] (.reg [.sem [], .sem []] (.reg [.sem []] (.condF (.reg [.sem [], .sem []] (.reg [.sem []] (.condF (.reg [.sem [], .callw [20] [20] ref1_Trim_C, .sem []] (.done)))))))))))))))))))))))))))))))))))))))))))))))))))))))))))))))))))))))))))))))))))))))))))))))))))))))))))))))))))
    (init #[vI a] []) (finW Try.prog Try.f19 [] [20] (X := Row) (fun zx => sv zx) (fun zx => [(ss 3 zx)]) (fun zx => (RowOK zx ∧ nv (dg zx) = (num (vI a)) ∧ Canon (dg zx) ∧ (dg zx).length ≤ 16))) =
    (∀ b1 : Nat, b1 = b1 ∧ (none : Option Nat) = none ∧ b1 = b1 ∧ (none : Option Nat) = none ∧ b1 = b1 ∧ (none : Option Nat) = none ∧ b1 = b1 ∧ (none : Option Nat) = none ∧ (true = true) ∧ (true = true) ∧ (∃ _ : Unit, True ∧ Value.int .u64 (Int.tmod (lim a 0) 65536) = .int .u64 ((lim a 0) % 65536)) ∧ ∀ _ : Unit, (True) → (∃ _ : Unit, True ∧ Value.int .i64 (IntKind.i64.wrap ((lim a 0) % 65536)) = .int .i64 ((lim a 0) % 65536)) ∧ ∀ _ : Unit, (True) → ∀ b2 : Nat, (OpT Try.prog (do pure (.value (← Builtin.append_ #[42, 42] 42 #[sv Row.nil, .slice (some ⟨b2, 0, none⟩) 1 1]))) [.free, .blk b2 (.cells #[.int .i64 ((lim a 0) % 65536)] 3 (0, 0))] Row (fun zx => sv zx) (fun zx => [(ss 3 zx), .blk b2 (.cells #[.int .i64 ((lim a 0) % 65536)] 3 (0, 0))]) (fun zx => vals zx = rvals (sv Row.nil) (ss 3 Row.nil) ++ [.int .i64 ((lim a 0) % 65536)])) ∧ (∃ zx : Row, (fun zx => vals zx = rvals (sv Row.nil) (ss 3 Row.nil) ++ [.int .i64 ((lim a 0) % 65536)]) zx) ∧ ∀ x3 : Row, (vals x3 = rvals (sv Row.nil) (ss 3 Row.nil) ++ [.int .i64 ((lim a 0) % 65536)]) → (∃ _ : Unit, True ∧ Value.int .u64 (IntKind.u64.wrap (Int.tdiv (lim a 0) 65536)) = .int .u64 ((lim a 0) / 65536)) ∧ ∀ _ : Unit, (True) → (true = true) ∧ (∃ _ : Unit, True ∧ Value.int .u64 (Int.tmod ((lim a 0) / 65536) 65536) = .int .u64 (((lim a 0) / 65536) % 65536)) ∧ ∀ _ : Unit, (True) → (∃ _ : Unit, True ∧ Value.int .i64 (IntKind.i64.wrap (((lim a 0) / 65536) % 65536)) = .int .i64 (((lim a 0) / 65536) % 65536)) ∧ ∀ _ : Unit, (True) → ∀ b4 : Nat, (OpT Try.prog (do pure (.value (← Builtin.append_ #[42, 42] 42 #[sv x3, .slice (some ⟨b4, 0, none⟩) 1 1]))) [(ss 3 x3), .blk b4 (.cells #[.int .i64 (((lim a 0) / 65536) % 65536)] 3 (0, 0))] Row (fun zx => sv zx) (fun zx => [(ss 3 zx), .blk b4 (.cells #[.int .i64 (((lim a 0) / 65536) % 65536)] 3 (0, 0))]) (fun zx => vals zx = rvals (sv x3) (ss 3 x3) ++ [.int .i64 (((lim a 0) / 65536) % 65536)])) ∧ (∃ zx : Row, (fun zx => vals zx = rvals (sv x3) (ss 3 x3) ++ [.int .i64 (((lim a 0) / 65536) % 65536)]) zx) ∧ ∀ x5 : Row, (vals x5 = rvals (sv x3) (ss 3 x3) ++ [.int .i64 (((lim a 0) / 65536) % 65536)]) → (∃ _ : Unit, True ∧ Value.int .u64 (IntKind.u64.wrap (Int.tdiv ((lim a 0) / 65536) 65536)) = .int .u64 (((lim a 0) / 65536) / 65536)) ∧ ∀ _ : Unit, (True) → (true = true) ∧ (∃ _ : Unit, True ∧ Value.int .u64 (Int.tmod (((lim a 0) / 65536) / 65536) 65536) = .int .u64 ((((lim a 0) / 65536) / 65536) % 65536)) ∧ ∀ _ : Unit, (True) → (∃ _ : Unit, True ∧ Value.int .i64 (IntKind.i64.wrap ((((lim a 0) / 65536) / 65536) % 65536)) = .int .i64 ((((lim a 0) / 65536) / 65536) % 65536)) ∧ ∀ _ : Unit, (True) → ∀ b6 : Nat, (OpT Try.prog (do pure (.value (← Builtin.append_ #[42, 42] 42 #[sv x5, .slice (some ⟨b6, 0, none⟩) 1 1]))) [(ss 3 x5), .blk b6 (.cells #[.int .i64 ((((lim a 0) / 65536) / 65536) % 65536)] 3 (0, 0))] Row (fun zx => sv zx) (fun zx => [(ss 3 zx), .blk b6 (.cells #[.int .i64 ((((lim a 0) / 65536) / 65536) % 65536)] 3 (0, 0))]) (fun zx => vals zx = rvals (sv x5) (ss 3 x5) ++ [.int .i64 ((((lim a 0) / 65536) / 65536) % 65536)])) ∧ (∃ zx : Row, (fun zx => vals zx = rvals (sv x5) (ss 3 x5) ++ [.int .i64 ((((lim a 0) / 65536) / 65536) % 65536)]) zx) ∧ ∀ x7 : Row, (vals x7 = rvals (sv x5) (ss 3 x5) ++ [.int .i64 ((((lim a 0) / 65536) / 65536) % 65536)]) → (∃ _ : Unit, True ∧ Value.int .u64 (IntKind.u64.wrap (Int.tdiv (((lim a 0) / 65536) / 65536) 65536)) = .int .u64 ((((lim a 0) / 65536) / 65536) / 65536)) ∧ ∀ _ : Unit, (True) → (true = true) ∧ (∃ _ : Unit, True ∧ Value.int .u64 (Int.tmod ((((lim a 0) / 65536) / 65536) / 65536) 65536) = .int .u64 (((((lim a 0) / 65536) / 65536) / 65536) % 65536)) ∧ ∀ _ : Unit, (True) → (∃ _ : Unit, True ∧ Value.int .i64 (IntKind.i64.wrap (((((lim a 0) / 65536) / 65536) / 65536) % 65536)) = .int .i64 (((((lim a 0) / 65536) / 65536) / 65536) % 65536)) ∧ ∀ _ : Unit, (True) → ∀ b8 : Nat, (OpT Try.prog (do pure (.value (← Builtin.append_ #[42, 42] 42 #[sv x7, .slice (some ⟨b8, 0, none⟩) 1 1]))) [(ss 3 x7), .blk b8 (.cells #[.int .i64 (((((lim a 0) / 65536) / 65536) / 65536) % 65536)] 3 (0, 0))] Row (fun zx => sv zx) (fun zx => [(ss 3 zx), .blk b8 (.cells #[.int .i64 (((((lim a 0) / 65536) / 65536) / 65536) % 65536)] 3 (0, 0))]) (fun zx => vals zx = rvals (sv x7) (ss 3 x7) ++ [.int .i64 (((((lim a 0) / 65536) / 65536) / 65536) % 65536)])) ∧ (∃ zx : Row, (fun zx => vals zx = rvals (sv x7) (ss 3 x7) ++ [.int .i64 (((((lim a 0) / 65536) / 65536) / 65536) % 65536)]) zx) ∧ ∀ x9 : Row, (vals x9 = rvals (sv x7) (ss 3 x7) ++ [.int .i64 (((((lim a 0) / 65536) / 65536) / 65536) % 65536)]) → (∃ _ : Unit, True ∧ Value.int .u64 (IntKind.u64.wrap (Int.tdiv ((((lim a 0) / 65536) / 65536) / 65536) 65536)) = .int .u64 (((((lim a 0) / 65536) / 65536) / 65536) / 65536)) ∧ ∀ _ : Unit, (True) → (false = false) ∧ (true = true) ∧ (true = true) ∧ (∃ _ : Unit, True ∧ Value.int .u64 (Int.tmod (lim a 1) 65536) = .int .u64 ((lim a 1) % 65536)) ∧ ∀ _ : Unit, (True) → (∃ _ : Unit, True ∧ Value.int .i64 (IntKind.i64.wrap ((lim a 1) % 65536)) = .int .i64 ((lim a 1) % 65536)) ∧ ∀ _ : Unit, (True) → ∀ b10 : Nat, (OpT Try.prog (do pure (.value (← Builtin.append_ #[42, 42] 42 #[sv x9, .slice (some ⟨b10, 0, none⟩) 1 1]))) [(ss 3 x9), .blk b10 (.cells #[.int .i64 ((lim a 1) % 65536)] 3 (0, 0))] Row (fun zx => sv zx) (fun zx => [(ss 3 zx), .blk b10 (.cells #[.int .i64 ((lim a 1) % 65536)] 3 (0, 0))]) (fun zx => vals zx = rvals (sv x9) (ss 3 x9) ++ [.int .i64 ((lim a 1) % 65536)])) ∧ (∃ zx : Row, (fun zx => vals zx = rvals (sv x9) (ss 3 x9) ++ [.int .i64 ((lim a 1) % 65536)]) zx) ∧ ∀ x11 : Row, (vals x11 = rvals (sv x9) (ss 3 x9) ++ [.int .i64 ((lim a 1) % 65536)]) → (∃ _ : Unit, True ∧ Value.int .u64 (IntKind.u64.wrap (Int.tdiv (lim a 1) 65536)) = .int .u64 ((lim a 1) / 65536)) ∧ ∀ _ : Unit, (True) → (true = true) ∧ (∃ _ : Unit, True ∧ Value.int .u64 (Int.tmod ((lim a 1) / 65536) 65536) = .int .u64 (((lim a 1) / 65536) % 65536)) ∧ ∀ _ : Unit, (True) → (∃ _ : Unit, True ∧ Value.int .i64 (IntKind.i64.wrap (((lim a 1) / 65536) % 65536)) = .int .i64 (((lim a 1) / 65536) % 65536)) ∧ ∀ _ : Unit, (True) → ∀ b12 : Nat, (OpT Try.prog (do pure (.value (← Builtin.append_ #[42, 42] 42 #[sv x11, .slice (some ⟨b12, 0, none⟩) 1 1]))) [(ss 3 x11), .blk b12 (.cells #[.int .i64 (((lim a 1) / 65536) % 65536)] 3 (0, 0))] Row (fun zx => sv zx) (fun zx => [(ss 3 zx), .blk b12 (.cells #[.int .i64 (((lim a 1) / 65536) % 65536)] 3 (0, 0))]) (fun zx => vals zx = rvals (sv x11) (ss 3 x11) ++ [.int .i64 (((lim a 1) / 65536) % 65536)])) ∧ (∃ zx : Row, (fun zx => vals zx = rvals (sv x11) (ss 3 x11) ++ [.int .i64 (((lim a 1) / 65536) % 65536)]) zx) ∧ ∀ x13 : Row, (vals x13 = rvals (sv x11) (ss 3 x11) ++ [.int .i64 (((lim a 1) / 65536) % 65536)]) → (∃ _ : Unit, True ∧ Value.int .u64 (IntKind.u64.wrap (Int.tdiv ((lim a 1) / 65536) 65536)) = .int .u64 (((lim a 1) / 65536) / 65536)) ∧ ∀ _ : Unit, (True) → (true = true) ∧ (∃ _ : Unit, True ∧ Value.int .u64 (Int.tmod (((lim a 1) / 65536) / 65536) 65536) = .int .u64 ((((lim a 1) / 65536) / 65536) % 65536)) ∧ ∀ _ : Unit, (True) → (∃ _ : Unit, True ∧ Value.int .i64 (IntKind.i64.wrap ((((lim a 1) / 65536) / 65536) % 65536)) = .int .i64 ((((lim a 1) / 65536) / 65536) % 65536)) ∧ ∀ _ : Unit, (True) → ∀ b14 : Nat, (OpT Try.prog (do pure (.value (← Builtin.append_ #[42, 42] 42 #[sv x13, .slice (some ⟨b14, 0, none⟩) 1 1]))) [(ss 3 x13), .blk b14 (.cells #[.int .i64 ((((lim a 1) / 65536) / 65536) % 65536)] 3 (0, 0))] Row (fun zx => sv zx) (fun zx => [(ss 3 zx), .blk b14 (.cells #[.int .i64 ((((lim a 1) / 65536) / 65536) % 65536)] 3 (0, 0))]) (fun zx => vals zx = rvals (sv x13) (ss 3 x13) ++ [.int .i64 ((((lim a 1) / 65536) / 65536) % 65536)])) ∧ (∃ zx : Row, (fun zx => vals zx = rvals (sv x13) (ss 3 x13) ++ [.int .i64 ((((lim a 1) / 65536) / 65536) % 65536)]) zx) ∧ ∀ x15 : Row, (vals x15 = rvals (sv x13) (ss 3 x13) ++ [.int .i64 ((((lim a 1) / 65536) / 65536) % 65536)]) → (∃ _ : Unit, True ∧ Value.int .u64 (IntKind.u64.wrap (Int.tdiv (((lim a 1) / 65536) / 65536) 65536)) = .int .u64 ((((lim a 1) / 65536) / 65536) / 65536)) ∧ ∀ _ : Unit, (True) → (true = true) ∧ (∃ _ : Unit, True ∧ Value.int .u64 (Int.tmod ((((lim a 1) / 65536) / 65536) / 65536) 65536) = .int .u64 (((((lim a 1) / 65536) / 65536) / 65536) % 65536)) ∧ ∀ _ : Unit, (True) → (∃ _ : Unit, True ∧ Value.int .i64 (IntKind.i64.wrap (((((lim a 1) / 65536) / 65536) / 65536) % 65536)) = .int .i64 (((((lim a 1) / 65536) / 65536) / 65536) % 65536)) ∧ ∀ _ : Unit, (True) → ∀ b16 : Nat, (OpT Try.prog (do pure (.value (← Builtin.append_ #[42, 42] 42 #[sv x15, .slice (some ⟨b16, 0, none⟩) 1 1]))) [(ss 3 x15), .blk b16 (.cells #[.int .i64 (((((lim a 1) / 65536) / 65536) / 65536) % 65536)] 3 (0, 0))] Row (fun zx => sv zx) (fun zx => [(ss 3 zx), .blk b16 (.cells #[.int .i64 (((((lim a 1) / 65536) / 65536) / 65536) % 65536)] 3 (0, 0))]) (fun zx => vals zx = rvals (sv x15) (ss 3 x15) ++ [.int .i64 (((((lim a 1) / 65536) / 65536) / 65536) % 65536)])) ∧ (∃ zx : Row, (fun zx => vals zx = rvals (sv x15) (ss 3 x15) ++ [.int .i64 (((((lim a 1) / 65536) / 65536) / 65536) % 65536)]) zx) ∧ ∀ x17 : Row, (vals x17 = rvals (sv x15) (ss 3 x15) ++ [.int .i64 (((((lim a 1) / 65536) / 65536) / 65536) % 65536)]) → (∃ _ : Unit, True ∧ Value.int .u64 (IntKind.u64.wrap (Int.tdiv ((((lim a 1) / 65536) / 65536) / 65536) 65536)) = .int .u64 (((((lim a 1) / 65536) / 65536) / 65536) / 65536)) ∧ ∀ _ : Unit, (True) → (false = false) ∧ (true = true) ∧ (true = true) ∧ (∃ _ : Unit, True ∧ Value.int .u64 (Int.tmod (lim a 2) 65536) = .int .u64 ((lim a 2) % 65536)) ∧ ∀ _ : Unit, (True) → (∃ _ : Unit, True ∧ Value.int .i64 (IntKind.i64.wrap ((lim a 2) % 65536)) = .int .i64 ((lim a 2) % 65536)) ∧ ∀ _ : Unit, (True) → ∀ b18 : Nat, (OpT Try.prog (do pure (.value (← Builtin.append_ #[42, 42] 42 #[sv x17, .slice (some ⟨b18, 0, none⟩) 1 1]))) [(ss 3 x17), .blk b18 (.cells #[.int .i64 ((lim a 2) % 65536)] 3 (0, 0))] Row (fun zx => sv zx) (fun zx => [(ss 3 zx), .blk b18 (.cells #[.int .i64 ((lim a 2) % 65536)] 3 (0, 0))]) (fun zx => vals zx = rvals (sv x17) (ss 3 x17) ++ [.int .i64 ((lim a 2) % 65536)])) ∧ (∃ zx : Row, (fun zx => vals zx = rvals (sv x17) (ss 3 x17) ++ [.int .i64 ((lim a 2) % 65536)]) zx) ∧ ∀ x19 : Row, (vals x19 = rvals (sv x17) (ss 3 x17) ++ [.int .i64 ((lim a 2) % 65536)]) → (∃ _ : Unit, True ∧ Value.int .u64 (IntKind.u64.wrap (Int.tdiv (lim a 2) 65536)) = .int .u64 ((lim a 2) / 65536)) ∧ ∀ _ : Unit, (True) → (true = true) ∧ (∃ _ : Unit, True ∧ Value.int .u64 (Int.tmod ((lim a 2) / 65536) 65536) = .int .u64 (((lim a 2) / 65536) % 65536)) ∧ ∀ _ : Unit, (True) → (∃ _ : Unit, True ∧ Value.int .i64 (IntKind.i64.wrap (((lim a 2) / 65536) % 65536)) = .int .i64 (((lim a 2) / 65536) % 65536)) ∧ ∀ _ : Unit, (True) → ∀ b20 : Nat, (OpT Try.prog (do pure (.value (← Builtin.append_ #[42, 42] 42 #[sv x19, .slice (some ⟨b20, 0, none⟩) 1 1]))) [(ss 3 x19), .blk b20 (.cells #[.int .i64 (((lim a 2) / 65536) % 65536)] 3 (0, 0))] Row (fun zx => sv zx) (fun zx => [(ss 3 zx), .blk b20 (.cells #[.int .i64 (((lim a 2) / 65536) % 65536)] 3 (0, 0))]) (fun zx => vals zx = rvals (sv x19) (ss 3 x19) ++ [.int .i64 (((lim a 2) / 65536) % 65536)])) ∧ (∃ zx : Row, (fun zx => vals zx = rvals (sv x19) (ss 3 x19) ++ [.int .i64 (((lim a 2) / 65536) % 65536)]) zx) ∧ ∀ x21 : Row, (vals x21 = rvals (sv x19) (ss 3 x19) ++ [.int .i64 (((lim a 2) / 65536) % 65536)]) → (∃ _ : Unit, True ∧ Value.int .u64 (IntKind.u64.wrap (Int.tdiv ((lim a 2) / 65536) 65536)) = .int .u64 (((lim a 2) / 65536) / 65536)) ∧ ∀ _ : Unit, (True) → (true = true) ∧ (∃ _ : Unit, True ∧ Value.int .u64 (Int.tmod (((lim a 2) / 65536) / 65536) 65536) = .int .u64 ((((lim a 2) / 65536) / 65536) % 65536)) ∧ ∀ _ : Unit, (True) → (∃ _ : Unit, True ∧ Value.int .i64 (IntKind.i64.wrap ((((lim a 2) / 65536) / 65536) % 65536)) = .int .i64 ((((lim a 2) / 65536) / 65536) % 65536)) ∧ ∀ _ : Unit, (True) → ∀ b22 : Nat, (OpT Try.prog (do pure (.value (← Builtin.append_ #[42, 42] 42 #[sv x21, .slice (some ⟨b22, 0, none⟩) 1 1]))) [(ss 3 x21), .blk b22 (.cells #[.int .i64 ((((lim a 2) / 65536) / 65536) % 65536)] 3 (0, 0))] Row (fun zx => sv zx) (fun zx => [(ss 3 zx), .blk b22 (.cells #[.int .i64 ((((lim a 2) / 65536) / 65536) % 65536)] 3 (0, 0))]) (fun zx => vals zx = rvals (sv x21) (ss 3 x21) ++ [.int .i64 ((((lim a 2) / 65536) / 65536) % 65536)])) ∧ (∃ zx : Row, (fun zx => vals zx = rvals (sv x21) (ss 3 x21) ++ [.int .i64 ((((lim a 2) / 65536) / 65536) % 65536)]) zx) ∧ ∀ x23 : Row, (vals x23 = rvals (sv x21) (ss 3 x21) ++ [.int .i64 ((((lim a 2) / 65536) / 65536) % 65536)]) → (∃ _ : Unit, True ∧ Value.int .u64 (IntKind.u64.wrap (Int.tdiv (((lim a 2) / 65536) / 65536) 65536)) = .int .u64 ((((lim a 2) / 65536) / 65536) / 65536)) ∧ ∀ _ : Unit, (True) → (true = true) ∧ (∃ _ : Unit, True ∧ Value.int .u64 (Int.tmod ((((lim a 2) / 65536) / 65536) / 65536) 65536) = .int .u64 (((((lim a 2) / 65536) / 65536) / 65536) % 65536)) ∧ ∀ _ : Unit, (True) → (∃ _ : Unit, True ∧ Value.int .i64 (IntKind.i64.wrap (((((lim a 2) / 65536) / 65536) / 65536) % 65536)) = .int .i64 (((((lim a 2) / 65536) / 65536) / 65536) % 65536)) ∧ ∀ _ : Unit, (True) → ∀ b24 : Nat, (OpT Try.prog (do pure (.value (← Builtin.append_ #[42, 42] 42 #[sv x23, .slice (some ⟨b24, 0, none⟩) 1 1]))) [(ss 3 x23), .blk b24 (.cells #[.int .i64 (((((lim a 2) / 65536) / 65536) / 65536) % 65536)] 3 (0, 0))] Row (fun zx => sv zx) (fun zx => [(ss 3 zx), .blk b24 (.cells #[.int .i64 (((((lim a 2) / 65536) / 65536) / 65536) % 65536)] 3 (0, 0))]) (fun zx => vals zx = rvals (sv x23) (ss 3 x23) ++ [.int .i64 (((((lim a 2) / 65536) / 65536) / 65536) % 65536)])) ∧ (∃ zx : Row, (fun zx => vals zx = rvals (sv x23) (ss 3 x23) ++ [.int .i64 (((((lim a 2) / 65536) / 65536) / 65536) % 65536)]) zx) ∧ ∀ x25 : Row, (vals x25 = rvals (sv x23) (ss 3 x23) ++ [.int .i64 (((((lim a 2) / 65536) / 65536) / 65536) % 65536)]) → (∃ _ : Unit, True ∧ Value.int .u64 (IntKind.u64.wrap (Int.tdiv ((((lim a 2) / 65536) / 65536) / 65536) 65536)) = .int .u64 (((((lim a 2) / 65536) / 65536) / 65536) / 65536)) ∧ ∀ _ : Unit, (True) → (false = false) ∧ (true = true) ∧ (true = true) ∧ (∃ _ : Unit, True ∧ Value.int .u64 (Int.tmod (lim a 3) 65536) = .int .u64 ((lim a 3) % 65536)) ∧ ∀ _ : Unit, (True) → (∃ _ : Unit, True ∧ Value.int .i64 (IntKind.i64.wrap ((lim a 3) % 65536)) = .int .i64 ((lim a 3) % 65536)) ∧ ∀ _ : Unit, (True) → ∀ b26 : Nat, (OpT Try.prog (do pure (.value (← Builtin.append_ #[42, 42] 42 #[sv x25, .slice (some ⟨b26, 0, none⟩) 1 1]))) [(ss 3 x25), .blk b26 (.cells #[.int .i64 ((lim a 3) % 65536)] 3 (0, 0))] Row (fun zx => sv zx) (fun zx => [(ss 3 zx), .blk b26 (.cells #[.int .i64 ((lim a 3) % 65536)] 3 (0, 0))]) (fun zx => vals zx = rvals (sv x25) (ss 3 x25) ++ [.int .i64 ((lim a 3) % 65536)])) ∧ (∃ zx : Row, (fun zx => vals zx = rvals (sv x25) (ss 3 x25) ++ [.int .i64 ((lim a 3) % 65536)]) zx) ∧ ∀ x27 : Row, (vals x27 = rvals (sv x25) (ss 3 x25) ++ [.int .i64 ((lim a 3) % 65536)]) → (∃ _ : Unit, True ∧ Value.int .u64 (IntKind.u64.wrap (Int.tdiv (lim a 3) 65536)) = .int .u64 ((lim a 3) / 65536)) ∧ ∀ _ : Unit, (True) → (true = true) ∧ (∃ _ : Unit, True ∧ Value.int .u64 (Int.tmod ((lim a 3) / 65536) 65536) = .int .u64 (((lim a 3) / 65536) % 65536)) ∧ ∀ _ : Unit, (True) → (∃ _ : Unit, True ∧ Value.int .i64 (IntKind.i64.wrap (((lim a 3) / 65536) % 65536)) = .int .i64 (((lim a 3) / 65536) % 65536)) ∧ ∀ _ : Unit, (True) → ∀ b28 : Nat, (OpT Try.prog (do pure (.value (← Builtin.append_ #[42, 42] 42 #[sv x27, .slice (some ⟨b28, 0, none⟩) 1 1]))) [(ss 3 x27), .blk b28 (.cells #[.int .i64 (((lim a 3) / 65536) % 65536)] 3 (0, 0))] Row (fun zx => sv zx) (fun zx => [(ss 3 zx), .blk b28 (.cells #[.int .i64 (((lim a 3) / 65536) % 65536)] 3 (0, 0))]) (fun zx => vals zx = rvals (sv x27) (ss 3 x27) ++ [.int .i64 (((lim a 3) / 65536) % 65536)])) ∧ (∃ zx : Row, (fun zx => vals zx = rvals (sv x27) (ss 3 x27) ++ [.int .i64 (((lim a 3) / 65536) % 65536)]) zx) ∧ ∀ x29 : Row, (vals x29 = rvals (sv x27) (ss 3 x27) ++ [.int .i64 (((lim a 3) / 65536) % 65536)]) → (∃ _ : Unit, True ∧ Value.int .u64 (IntKind.u64.wrap (Int.tdiv ((lim a 3) / 65536) 65536)) = .int .u64 (((lim a 3) / 65536) / 65536)) ∧ ∀ _ : Unit, (True) → (true = true) ∧ (∃ _ : Unit, True ∧ Value.int .u64 (Int.tmod (((lim a 3) / 65536) / 65536) 65536) = .int .u64 ((((lim a 3) / 65536) / 65536) % 65536)) ∧ ∀ _ : Unit, (True) → (∃ _ : Unit, True ∧ Value.int .i64 (IntKind.i64.wrap ((((lim a 3) / 65536) / 65536) % 65536)) = .int .i64 ((((lim a 3) / 65536) / 65536) % 65536)) ∧ ∀ _ : Unit, (True) → ∀ b30 : Nat, (OpT Try.prog (do pure (.value (← Builtin.append_ #[42, 42] 42 #[sv x29, .slice (some ⟨b30, 0, none⟩) 1 1]))) [(ss 3 x29), .blk b30 (.cells #[.int .i64 ((((lim a 3) / 65536) / 65536) % 65536)] 3 (0, 0))] Row (fun zx => sv zx) (fun zx => [(ss 3 zx), .blk b30 (.cells #[.int .i64 ((((lim a 3) / 65536) / 65536) % 65536)] 3 (0, 0))]) (fun zx => vals zx = rvals (sv x29) (ss 3 x29) ++ [.int .i64 ((((lim a 3) / 65536) / 65536) % 65536)])) ∧ (∃ zx : Row, (fun zx => vals zx = rvals (sv x29) (ss 3 x29) ++ [.int .i64 ((((lim a 3) / 65536) / 65536) % 65536)]) zx) ∧ ∀ x31 : Row, (vals x31 = rvals (sv x29) (ss 3 x29) ++ [.int .i64 ((((lim a 3) / 65536) / 65536) % 65536)]) → (∃ _ : Unit, True ∧ Value.int .u64 (IntKind.u64.wrap (Int.tdiv (((lim a 3) / 65536) / 65536) 65536)) = .int .u64 ((((lim a 3) / 65536) / 65536) / 65536)) ∧ ∀ _ : Unit, (True) → (true = true) ∧ (∃ _ : Unit, True ∧ Value.int .u64 (Int.tmod ((((lim a 3) / 65536) / 65536) / 65536) 65536) = .int .u64 (((((lim a 3) / 65536) / 65536) / 65536) % 65536)) ∧ ∀ _ : Unit, (True) → (∃ _ : Unit, True ∧ Value.int .i64 (IntKind.i64.wrap (((((lim a 3) / 65536) / 65536) / 65536) % 65536)) = .int .i64 (((((lim a 3) / 65536) / 65536) / 65536) % 65536)) ∧ ∀ _ : Unit, (True) → ∀ b32 : Nat, (OpT Try.prog (do pure (.value (← Builtin.append_ #[42, 42] 42 #[sv x31, .slice (some ⟨b32, 0, none⟩) 1 1]))) [(ss 3 x31), .blk b32 (.cells #[.int .i64 (((((lim a 3) / 65536) / 65536) / 65536) % 65536)] 3 (0, 0))] Row (fun zx => sv zx) (fun zx => [(ss 3 zx), .blk b32 (.cells #[.int .i64 (((((lim a 3) / 65536) / 65536) / 65536) % 65536)] 3 (0, 0))]) (fun zx => vals zx = rvals (sv x31) (ss 3 x31) ++ [.int .i64 (((((lim a 3) / 65536) / 65536) / 65536) % 65536)])) ∧ (∃ zx : Row, (fun zx => vals zx = rvals (sv x31) (ss 3 x31) ++ [.int .i64 (((((lim a 3) / 65536) / 65536) / 65536) % 65536)]) zx) ∧ ∀ x33 : Row, (vals x33 = rvals (sv x31) (ss 3 x31) ++ [.int .i64 (((((lim a 3) / 65536) / 65536) / 65536) % 65536)]) → (∃ _ : Unit, True ∧ Value.int .u64 (IntKind.u64.wrap (Int.tdiv ((((lim a 3) / 65536) / 65536) / 65536) 65536)) = .int .u64 (((((lim a 3) / 65536) / 65536) / 65536) / 65536)) ∧ ∀ _ : Unit, (True) → (false = false) ∧ (false = false) ∧ (CallT Try.prog 31 #[sv x33] [(ss 3 x33)] Row (fun zx => sv zx) (fun zx => [(ss 3 zx)]) (fun zx => RowOK zx ∧ ss 3 zx = (ss 3 x33) ∧ TrimR (rdv (sv x33) (ss 3 x33)) (dg zx))) ∧ (∃ zx : Row, (fun zx => RowOK zx ∧ ss 3 zx = (ss 3 x33) ∧ TrimR (rdv (sv x33) (ss 3 x33)) (dg zx)) zx) ∧ ∀ x34 : Row, (RowOK x34 ∧ ss 3 x34 = (ss 3 x33) ∧ TrimR (rdv (sv x33) (ss 3 x33)) (dg x34)) → ∃ zx : Row, (RowOK zx ∧ nv (dg zx) = (num (vI a)) ∧ Canon (dg zx) ∧ (dg zx).length ≤ 16) ∧ sv x34 = sv zx ∧ (ss 3 x34) = (ss 3 zx) ∧ True) := by kernel_rfl
set_option maxRecDepth 100000 in
set_option maxHeartbeats 2000000 in
theorem ref2_Row (a : Int) (r_a : R4 a) : CallT Try.prog 19 #[vI a] [] Row (fun zx => sv zx) (fun zx => [(ss 3 zx)]) (fun zx => (RowOK zx ∧ nv (dg zx) = (num (vI a)) ∧ Canon (dg zx) ∧ (dg zx).length ≤ 16)) := by
  refine call_of (c := bodyOf Try.f19) (n := 24) (fn := Try.f19) Try.mixed Try.func19 (by kernel_rfl) (by kernel_rfl) (by kernel_rfl) 2000 _ [] [20] rfl rfl (Eq.mpr (ref2_Row_vc a) ?_)
  have q0 := nil3
  intro b1
  refine ⟨rfl, rfl, rfl, rfl, rfl, rfl, rfl, rfl, ?_⟩
  refine ⟨rfl, ?_⟩
  have ww := W_lim a 0
  refine ⟨rfl, ?_⟩
  refine ⟨⟨(), trivial, congrArg (Value.int .u64) (tmod_nat ww.1)⟩, ?_⟩
  intro _
  intro _
  refine ⟨⟨(), trivial, congrArg (Value.int .i64) (conv16 _)⟩, ?_⟩
  intro _
  intro _
  intro b2
  refine ⟨xappendR Try.sl42 42 Row.nil (Nat.le_trans (Nat.le_of_eq q0.2.1) (by decide)) b2 1 (.int .i64 ((lim a 0) % 65536)) rfl, wit_app _, ?_⟩
  intro x3
  intro h1
  rw [rvals_eq] at h1
  have q1 := snoc3 (x := ((lim a 0) % 65536)) q0 (show P16 0 = 1 from rfl) (by assumption) (m16_0 _) (m16_1 _)
  refine ⟨⟨(), trivial, congrArg (Value.int .u64) (quo_u16 ww)⟩, ?_⟩
  intro _
  intro _
  refine ⟨rfl, ?_⟩
  refine ⟨⟨(), trivial, congrArg (Value.int .u64) (tmod_nat (W_div ww).1)⟩, ?_⟩
  intro _
  intro _
  refine ⟨⟨(), trivial, congrArg (Value.int .i64) (conv16 _)⟩, ?_⟩
  intro _
  intro _
  intro b4
  refine ⟨xappendR Try.sl42 42 x3 (Nat.le_trans (Nat.le_of_eq q1.2.1) (by decide)) b4 1 (.int .i64 (((lim a 0) / 65536) % 65536)) rfl, wit_app _, ?_⟩
  intro x5
  intro h2
  rw [rvals_eq] at h2
  have q2 := snoc3 (x := (((lim a 0) / 65536) % 65536)) q1 (show P16 1 = 65536 from rfl) (by assumption) (m16_0 _) (m16_1 _)
  refine ⟨⟨(), trivial, congrArg (Value.int .u64) (quo_u16 (W_div ww))⟩, ?_⟩
  intro _
  intro _
  refine ⟨rfl, ?_⟩
  refine ⟨⟨(), trivial, congrArg (Value.int .u64) (tmod_nat (W_div (W_div ww)).1)⟩, ?_⟩
  intro _
  intro _
  refine ⟨⟨(), trivial, congrArg (Value.int .i64) (conv16 _)⟩, ?_⟩
  intro _
  intro _
  intro b6
  refine ⟨xappendR Try.sl42 42 x5 (Nat.le_trans (Nat.le_of_eq q2.2.1) (by decide)) b6 1 (.int .i64 ((((lim a 0) / 65536) / 65536) % 65536)) rfl, wit_app _, ?_⟩
  intro x7
  intro h3
  rw [rvals_eq] at h3
  have q3 := snoc3 (x := ((((lim a 0) / 65536) / 65536) % 65536)) q2 (show P16 2 = 4294967296 from rfl) (by assumption) (m16_0 _) (m16_1 _)
  refine ⟨⟨(), trivial, congrArg (Value.int .u64) (quo_u16 (W_div (W_div ww)))⟩, ?_⟩
  intro _
  intro _
  refine ⟨rfl, ?_⟩
  refine ⟨⟨(), trivial, congrArg (Value.int .u64) (tmod_nat (W_div (W_div (W_div ww))).1)⟩, ?_⟩
  intro _
  intro _
  refine ⟨⟨(), trivial, congrArg (Value.int .i64) (conv16 _)⟩, ?_⟩
  intro _
  intro _
  intro b8
  refine ⟨xappendR Try.sl42 42 x7 (Nat.le_trans (Nat.le_of_eq q3.2.1) (by decide)) b8 1 (.int .i64 (((((lim a 0) / 65536) / 65536) / 65536) % 65536)) rfl, wit_app _, ?_⟩
  intro x9
  intro h4
  rw [rvals_eq] at h4
  have q4 := snoc3 (x := (((((lim a 0) / 65536) / 65536) / 65536) % 65536)) q3 (show P16 3 = 281474976710656 from rfl) (by assumption) (m16_0 _) (m16_1 _)
  refine ⟨⟨(), trivial, congrArg (Value.int .u64) (quo_u16 (W_div (W_div (W_div ww))))⟩, ?_⟩
  intro _
  intro _
  refine ⟨rfl, ?_⟩
  refine ⟨rfl, ?_⟩
  have ww := W_lim a 1
  refine ⟨rfl, ?_⟩
  refine ⟨⟨(), trivial, congrArg (Value.int .u64) (tmod_nat ww.1)⟩, ?_⟩
  intro _
  intro _
  refine ⟨⟨(), trivial, congrArg (Value.int .i64) (conv16 _)⟩, ?_⟩
  intro _
  intro _
  intro b10
  refine ⟨xappendR Try.sl42 42 x9 (Nat.le_trans (Nat.le_of_eq q4.2.1) (by decide)) b10 1 (.int .i64 ((lim a 1) % 65536)) rfl, wit_app _, ?_⟩
  intro x11
  intro h5
  rw [rvals_eq] at h5
  have q5 := snoc3 (x := ((lim a 1) % 65536)) q4 (show P16 4 = 18446744073709551616 from rfl) (by assumption) (m16_0 _) (m16_1 _)
  refine ⟨⟨(), trivial, congrArg (Value.int .u64) (quo_u16 ww)⟩, ?_⟩
  intro _
  intro _
  refine ⟨rfl, ?_⟩
  refine ⟨⟨(), trivial, congrArg (Value.int .u64) (tmod_nat (W_div ww).1)⟩, ?_⟩
  intro _
  intro _
  refine ⟨⟨(), trivial, congrArg (Value.int .i64) (conv16 _)⟩, ?_⟩
  intro _
  intro _
  intro b12
  refine ⟨xappendR Try.sl42 42 x11 (Nat.le_trans (Nat.le_of_eq q5.2.1) (by decide)) b12 1 (.int .i64 (((lim a 1) / 65536) % 65536)) rfl, wit_app _, ?_⟩
  intro x13
  intro h6
  rw [rvals_eq] at h6
  have q6 := snoc3 (x := (((lim a 1) / 65536) % 65536)) q5 (show P16 5 = 1208925819614629174706176 from rfl) (by assumption) (m16_0 _) (m16_1 _)
  refine ⟨⟨(), trivial, congrArg (Value.int .u64) (quo_u16 (W_div ww))⟩, ?_⟩
  intro _
  intro _
  refine ⟨rfl, ?_⟩
  refine ⟨⟨(), trivial, congrArg (Value.int .u64) (tmod_nat (W_div (W_div ww)).1)⟩, ?_⟩
  intro _
  intro _
  refine ⟨⟨(), trivial, congrArg (Value.int .i64) (conv16 _)⟩, ?_⟩
  intro _
  intro _
  intro b14
  refine ⟨xappendR Try.sl42 42 x13 (Nat.le_trans (Nat.le_of_eq q6.2.1) (by decide)) b14 1 (.int .i64 ((((lim a 1) / 65536) / 65536) % 65536)) rfl, wit_app _, ?_⟩
  intro x15
  intro h7
  rw [rvals_eq] at h7
  have q7 := snoc3 (x := ((((lim a 1) / 65536) / 65536) % 65536)) q6 (show P16 6 = 79228162514264337593543950336 from rfl) (by assumption) (m16_0 _) (m16_1 _)
  refine ⟨⟨(), trivial, congrArg (Value.int .u64) (quo_u16 (W_div (W_div ww)))⟩, ?_⟩
  intro _
  intro _
  refine ⟨rfl, ?_⟩
  refine ⟨⟨(), trivial, congrArg (Value.int .u64) (tmod_nat (W_div (W_div (W_div ww))).1)⟩, ?_⟩
  intro _
  intro _
  refine ⟨⟨(), trivial, congrArg (Value.int .i64) (conv16 _)⟩, ?_⟩
  intro _
  intro _
  intro b16
  refine ⟨xappendR Try.sl42 42 x15 (Nat.le_trans (Nat.le_of_eq q7.2.1) (by decide)) b16 1 (.int .i64 (((((lim a 1) / 65536) / 65536) / 65536) % 65536)) rfl, wit_app _, ?_⟩
  intro x17
  intro h8
  rw [rvals_eq] at h8
  have q8 := snoc3 (x := (((((lim a 1) / 65536) / 65536) / 65536) % 65536)) q7 (show P16 7 = 5192296858534827628530496329220096 from rfl) (by assumption) (m16_0 _) (m16_1 _)
  refine ⟨⟨(), trivial, congrArg (Value.int .u64) (quo_u16 (W_div (W_div (W_div ww))))⟩, ?_⟩
  intro _
  intro _
  refine ⟨rfl, ?_⟩
  refine ⟨rfl, ?_⟩
  have ww := W_lim a 2
  refine ⟨rfl, ?_⟩
  refine ⟨⟨(), trivial, congrArg (Value.int .u64) (tmod_nat ww.1)⟩, ?_⟩
  intro _
  intro _
  refine ⟨⟨(), trivial, congrArg (Value.int .i64) (conv16 _)⟩, ?_⟩
  intro _
  intro _
  intro b18
  refine ⟨xappendR Try.sl42 42 x17 (Nat.le_trans (Nat.le_of_eq q8.2.1) (by decide)) b18 1 (.int .i64 ((lim a 2) % 65536)) rfl, wit_app _, ?_⟩
  intro x19
  intro h9
  rw [rvals_eq] at h9
  have q9 := snoc3 (x := ((lim a 2) % 65536)) q8 (show P16 8 = 340282366920938463463374607431768211456 from rfl) (by assumption) (m16_0 _) (m16_1 _)
  refine ⟨⟨(), trivial, congrArg (Value.int .u64) (quo_u16 ww)⟩, ?_⟩
  intro _
  intro _
  refine ⟨rfl, ?_⟩
  refine ⟨⟨(), trivial, congrArg (Value.int .u64) (tmod_nat (W_div ww).1)⟩, ?_⟩
  intro _
  intro _
  refine ⟨⟨(), trivial, congrArg (Value.int .i64) (conv16 _)⟩, ?_⟩
  intro _
  intro _
  intro b20
  refine ⟨xappendR Try.sl42 42 x19 (Nat.le_trans (Nat.le_of_eq q9.2.1) (by decide)) b20 1 (.int .i64 (((lim a 2) / 65536) % 65536)) rfl, wit_app _, ?_⟩
  intro x21
  intro h10
  rw [rvals_eq] at h10
  have q10 := snoc3 (x := (((lim a 2) / 65536) % 65536)) q9 (show P16 9 = 22300745198530623141535718272648361505980416 from rfl) (by assumption) (m16_0 _) (m16_1 _)
  refine ⟨⟨(), trivial, congrArg (Value.int .u64) (quo_u16 (W_div ww))⟩, ?_⟩
  intro _
  intro _
  refine ⟨rfl, ?_⟩
  refine ⟨⟨(), trivial, congrArg (Value.int .u64) (tmod_nat (W_div (W_div ww)).1)⟩, ?_⟩
  intro _
  intro _
  refine ⟨⟨(), trivial, congrArg (Value.int .i64) (conv16 _)⟩, ?_⟩
  intro _
  intro _
  intro b22
  refine ⟨xappendR Try.sl42 42 x21 (Nat.le_trans (Nat.le_of_eq q10.2.1) (by decide)) b22 1 (.int .i64 ((((lim a 2) / 65536) / 65536) % 65536)) rfl, wit_app _, ?_⟩
  intro x23
  intro h11
  rw [rvals_eq] at h11
  have q11 := snoc3 (x := ((((lim a 2) / 65536) / 65536) % 65536)) q10 (show P16 10 = 1461501637330902918203684832716283019655932542976 from rfl) (by assumption) (m16_0 _) (m16_1 _)
  refine ⟨⟨(), trivial, congrArg (Value.int .u64) (quo_u16 (W_div (W_div ww)))⟩, ?_⟩
  intro _
  intro _
  refine ⟨rfl, ?_⟩
  refine ⟨⟨(), trivial, congrArg (Value.int .u64) (tmod_nat (W_div (W_div (W_div ww))).1)⟩, ?_⟩
  intro _
  intro _
  refine ⟨⟨(), trivial, congrArg (Value.int .i64) (conv16 _)⟩, ?_⟩
  intro _
  intro _
  intro b24
  refine ⟨xappendR Try.sl42 42 x23 (Nat.le_trans (Nat.le_of_eq q11.2.1) (by decide)) b24 1 (.int .i64 (((((lim a 2) / 65536) / 65536) / 65536) % 65536)) rfl, wit_app _, ?_⟩
  intro x25
  intro h12
  rw [rvals_eq] at h12
  have q12 := snoc3 (x := (((((lim a 2) / 65536) / 65536) / 65536) % 65536)) q11 (show P16 11 = 95780971304118053647396689196894323976171195136475136 from rfl) (by assumption) (m16_0 _) (m16_1 _)
  refine ⟨⟨(), trivial, congrArg (Value.int .u64) (quo_u16 (W_div (W_div (W_div ww))))⟩, ?_⟩
  intro _
  intro _
  refine ⟨rfl, ?_⟩
  refine ⟨rfl, ?_⟩
  have ww := W_lim a 3
  refine ⟨rfl, ?_⟩
  refine ⟨⟨(), trivial, congrArg (Value.int .u64) (tmod_nat ww.1)⟩, ?_⟩
  intro _
  intro _
  refine ⟨⟨(), trivial, congrArg (Value.int .i64) (conv16 _)⟩, ?_⟩
  intro _
  intro _
  intro b26
  refine ⟨xappendR Try.sl42 42 x25 (Nat.le_trans (Nat.le_of_eq q12.2.1) (by decide)) b26 1 (.int .i64 ((lim a 3) % 65536)) rfl, wit_app _, ?_⟩
  intro x27
  intro h13
  rw [rvals_eq] at h13
  have q13 := snoc3 (x := ((lim a 3) % 65536)) q12 (show P16 12 = 6277101735386680763835789423207666416102355444464034512896 from rfl) (by assumption) (m16_0 _) (m16_1 _)
  refine ⟨⟨(), trivial, congrArg (Value.int .u64) (quo_u16 ww)⟩, ?_⟩
  intro _
  intro _
  refine ⟨rfl, ?_⟩
  refine ⟨⟨(), trivial, congrArg (Value.int .u64) (tmod_nat (W_div ww).1)⟩, ?_⟩
  intro _
  intro _
  refine ⟨⟨(), trivial, congrArg (Value.int .i64) (conv16 _)⟩, ?_⟩
  intro _
  intro _
  intro b28
  refine ⟨xappendR Try.sl42 42 x27 (Nat.le_trans (Nat.le_of_eq q13.2.1) (by decide)) b28 1 (.int .i64 (((lim a 3) / 65536) % 65536)) rfl, wit_app _, ?_⟩
  intro x29
  intro h14
  rw [rvals_eq] at h14
  have q14 := snoc3 (x := (((lim a 3) / 65536) % 65536)) q13 (show P16 13 = 411376139330301510538742295639337626245683966408394965837152256 from rfl) (by assumption) (m16_0 _) (m16_1 _)
  refine ⟨⟨(), trivial, congrArg (Value.int .u64) (quo_u16 (W_div ww))⟩, ?_⟩
  intro _
  intro _
  refine ⟨rfl, ?_⟩
  refine ⟨⟨(), trivial, congrArg (Value.int .u64) (tmod_nat (W_div (W_div ww)).1)⟩, ?_⟩
  intro _
  intro _
  refine ⟨⟨(), trivial, congrArg (Value.int .i64) (conv16 _)⟩, ?_⟩
  intro _
  intro _
  intro b30
  refine ⟨xappendR Try.sl42 42 x29 (Nat.le_trans (Nat.le_of_eq q14.2.1) (by decide)) b30 1 (.int .i64 ((((lim a 3) / 65536) / 65536) % 65536)) rfl, wit_app _, ?_⟩
  intro x31
  intro h15
  rw [rvals_eq] at h15
  have q15 := snoc3 (x := ((((lim a 3) / 65536) / 65536) % 65536)) q14 (show P16 14 = 26959946667150639794667015087019630673637144422540572481103610249216 from rfl) (by assumption) (m16_0 _) (m16_1 _)
  refine ⟨⟨(), trivial, congrArg (Value.int .u64) (quo_u16 (W_div (W_div ww)))⟩, ?_⟩
  intro _
  intro _
  refine ⟨rfl, ?_⟩
  refine ⟨⟨(), trivial, congrArg (Value.int .u64) (tmod_nat (W_div (W_div (W_div ww))).1)⟩, ?_⟩
  intro _
  intro _
  refine ⟨⟨(), trivial, congrArg (Value.int .i64) (conv16 _)⟩, ?_⟩
  intro _
  intro _
  intro b32
  refine ⟨xappendR Try.sl42 42 x31 (Nat.le_trans (Nat.le_of_eq q15.2.1) (by decide)) b32 1 (.int .i64 (((((lim a 3) / 65536) / 65536) / 65536) % 65536)) rfl, wit_app _, ?_⟩
  intro x33
  intro h16
  rw [rvals_eq] at h16
  have q16 := snoc3 (x := (((((lim a 3) / 65536) / 65536) / 65536) % 65536)) q15 (show P16 15 = 1766847064778384329583297500742918515827483896875618958121606201292619776 from rfl) (by assumption) (m16_0 _) (m16_1 _)
  refine ⟨⟨(), trivial, congrArg (Value.int .u64) (quo_u16 (W_div (W_div (W_div ww))))⟩, ?_⟩
  intro _
  intro _
  refine ⟨rfl, ?_⟩
  refine ⟨rfl, ?_⟩
  obtain ⟨ok16, ql, hq⟩ := q16
  clear q0 q1 q2 q3 q4 q5 q6 q7 q8 q9 q10 q11 q12 q13 q14 q15
  refine ⟨ref1_Trim x33 (by first | assumption | exact rowOK_lit _ _ (by decide)) (by omega), wit_trim x33 (by first | assumption | exact rowOK_lit _ _ (by decide)), ?_⟩
  intro x34
  intro h17
  simp only [rdv_eq] at h17
  obtain ⟨rh17_, h17⟩ := h17
  have T : TrimR (dg x33) (dg x34) := by first | exact And.right (by assumption) | assumption
  have w0 := limb_digits (W_lim a 0)
  have w1 := limb_digits (W_lim a 1)
  have w2 := limb_digits (W_lim a 2)
  have w3 := limb_digits (W_lim a 3)
  have ea := lims a
  rw [num_vI r_a] at ea
  have hn : nv (dg x34) = a := by
    rw [T.eq, hq]
    refine Eq.trans ?_ ea.symm
    clear hq ea
    omega
  exact ⟨_, ⟨by assumption, by rw [num_vI r_a]; exact hn, T.canon, num_len (RowOK.dig (by assumption)) T.canon hn r_a⟩, rfl, rfl, trivial⟩

def ref1_Div_C : List Value → List Slot → Ctr := fun vs hs => ⟨Row × Row, fun zx => .tuple #[sv zx.1, sv zx.2], fun zx => [(sarg hs 0), (sarg hs 1), (ss 3 zx.1), (ss 3 zx.2)], fun zx => RowOK zx.1 ∧ RowOK zx.2 ∧ nv (dg zx.1) = nv (rdv (varg vs 1) (sarg hs 0)) / nv (rdv (varg vs 2) (sarg hs 1)) ∧ nv (dg zx.2) = nv (rdv (varg vs 1) (sarg hs 0)) % nv (rdv (varg vs 2) (sarg hs 1)) ∧ Canon (dg zx.1) ∧ Canon (dg zx.2)⟩
set_option maxRecDepth 100000 in
set_option maxHeartbeats 2000000 in
theorem ref1_Div_vc (a : Row) (b : Row) : codeW Try.prog 57 none 2000 none (bodyOf Try.f21) (.reg [.sem [], .sem []] (.reg [.sem [], .eq (f_len), .specw [] [20] (F_make 3 (.int .i64 0)), .sem []] (.reg [.sem []] (.reg [.sem [], .eq (f_len), .gen [] (fun vs => one (.int .i64 (ci (varg vs 0) - ci (varg vs 1))) vs), .sem []] (.inv (Nat × Row × Row) (fun zx => [(0, sv a), (1, sv b), (6, sv zx.2.1), (7, sv zx.2.2), (8, .int .i64 (((zx.1 : Nat) : Int) - 1))]) (fun zx => [(0, (ss 3 a)), (1, (ss 3 b)), (20, (ss 3 zx.2.1)), (22, (ss 3 zx.2.2))]) (fun zx => DivO (dg a) (dg b) zx.1 (dg zx.2.1) (dg zx.2.2) ∧ RowOK zx.2.1 ∧ RowOK zx.2.2) (fun zx => zx.1) (fun x2 => .reg [.sem [], .sem []] (.cond (.reg [.sem []] (.inv (Nat × Row × Row) (fun zx => [(0, sv a), (1, sv b), (6, sv zx.2.1), (7, sv zx.2.2), (8, .int .i64 (((x2.1 : Nat) : Int) - 1)), (9, .int .i64 (un zx.1))]) (fun zx => [(0, (ss 3 a)), (1, (ss 3 b)), (20, (ss 3 zx.2.1)), (22, (ss 3 zx.2.2))]) (fun zx => DivN (dg a) (dg b) (x2.1 - 1) zx.1 (dg zx.2.1) (dg zx.2.2) ∧ RowOK zx.2.1 ∧ RowOK zx.2.2) (fun zx => zx.1) (fun x3 => .reg [.sem [], .sem []] (.cond (.reg [.sem [], .sem [], .callw [22] [21, 22] ref1_Add2_C, .sem []] (.reg [.sem [], .sem [], .eq (f_idx), .specr [0] F_get, .sem [], .eq (fun vs => .int .i64 (ci (varg vs 0) / ci (varg vs 1))), .gen [] (fun vs => one (.int .i64 (ci (varg vs 0) % 2)) vs), .sem []] (.cond (.reg [.sem [], .sem [.nw 3], .callw [22, 3] [21, 3, 22] ref1_Add_C, .sem []] (.reg [.sem [], .sem [], .callr [22, 1] ref1_Cmp_C, .sem []] (.cond (.reg [.sem [], .sem [], .callw [22, 1] [21, 1, 22] ref1_Sub_C, .sem []] (.reg [.sem [], .sem [], .sem [], .sem [], .eq (f_idx), .specr [20] F_get, .sem [], .gen [] (fun vs => one (.int .i64 (ci (varg vs 0) + ci (varg vs 1))) vs), .eq (f_idx), .specw [20] [20] F_put] (.reg [.sem [], .gen [] (fun vs => one (.int .i64 (ci (varg vs 0) / 2)) vs), .sem []] (.done)))) (.reg [.sem [], .gen [] (fun vs => one (.int .i64 (ci (varg vs 0) / 2)) vs), .sem []] (.done))))) (.reg [.sem [], .sem [], .callr [22, 1] ref1_Cmp_C, .sem []] (.cond (.reg [.sem [], .sem [], .callw [22, 1] [21, 1, 22] ref1_Sub_C, .sem []] (.reg [.sem [], .sem [], .sem [], .sem [], .eq (f_idx), .specr [20] F_get, .sem [], .gen [] (fun vs => one (.int .i64 (ci (varg vs 0) + ci (varg vs 1))) vs), .eq (f_idx), .specw [20] [20] F_put] (.reg [.sem [], .gen [] (fun vs => one (.int .i64 (ci (varg vs 0) / 2)) vs), .sem []] (.done)))) (.reg [.sem [], .gen [] (fun vs => one (.int .i64 (ci (varg vs 0) / 2)) vs), .sem []] (.done))))))) (.reg [.sem [], .gen [] (fun vs => one (.int .i64 (ci (varg vs 0) - ci (varg vs 1))) vs), .sem []] (.done)))))) (.reg [.sem [], .callw [20] [20] ref1_Trim_C, .sem [], .sem [], .sem []] (.done)))))))))
    (init #[sv a, sv b] [(ss 3 a), (ss 3 b)]) (finW Try.prog Try.f21 [] [0, 1, 20, 22] (X := Row × Row) (fun zx => .tuple #[sv zx.1, sv zx.2]) (fun zx => [(ss 3 a), (ss 3 b), (ss 3 zx.1), (ss 3 zx.2)]) (fun zx => (RowOK zx.1 ∧ RowOK zx.2 ∧ nv (dg zx.1) = nv (rdv (sv a) (ss 3 a)) / nv (rdv (sv b) (ss 3 b)) ∧ nv (dg zx.2) = nv (rdv (sv a) (ss 3 a)) % nv (rdv (sv b) (ss 3 b)) ∧ Canon (dg zx.1) ∧ Canon (dg zx.2)))) =
    ((PureRun Try.prog (do pure (.value (← Builtin.len_ #[42] 3 #[sv a]))) (.int .i64 ((vlen (sv a) : Nat) : Int))) ∧ (OpT Try.prog (do pure (.value (← Instr.makeSlice 42 (.int .i64 ((vlen (sv a) : Nat) : Int)) (.int .i64 ((vlen (sv a) : Nat) : Int))))) [] Row (fun zx => sv zx) (fun zx => [(ss 3 zx)]) (fun zx => vals zx = List.replicate (Int.toNat ((vlen (sv a) : Nat) : Int)) (.int .i64 0))) ∧ (∃ zx : Row, (fun zx => vals zx = List.replicate (Int.toNat ((vlen (sv a) : Nat) : Int)) (.int .i64 0)) zx) ∧ ∀ x1 : Row, (vals x1 = List.replicate (Int.toNat ((vlen (sv a) : Nat) : Int)) (.int .i64 0)) → (PureRun Try.prog (do pure (.value (← Builtin.len_ #[42] 3 #[sv a]))) (.int .i64 ((vlen (sv a) : Nat) : Int))) ∧ (∃ _ : Unit, True ∧ Value.int .i64 (IntKind.i64.wrap (((vlen (sv a) : Nat) : Int) - 1)) = .int .i64 (((vlen (sv a) : Nat) : Int) - 1)) ∧ ∀ _ : Unit, (True) → (∃ zx : Nat × Row × Row, (DivO (dg a) (dg b) zx.1 (dg zx.2.1) (dg zx.2.2) ∧ RowOK zx.2.1 ∧ RowOK zx.2.2) ∧ sv a = sv a ∧ sv b = sv b ∧ sv x1 = sv zx.2.1 ∧ Value.slice none 0 0 = sv zx.2.2 ∧ Value.int .i64 (((vlen (sv a) : Nat) : Int) - 1) = .int .i64 (((zx.1 : Nat) : Int) - 1) ∧ (ss 3 a) = (ss 3 a) ∧ (ss 3 b) = (ss 3 b) ∧ (ss 3 x1) = (ss 3 zx.2.1) ∧ Slot.free = (ss 3 zx.2.2) ∧ True) ∧ ∀ x2 : Nat × Row × Row, ∀ jx2 : Nat → Value, (DivO (dg a) (dg b) x2.1 (dg x2.2.1) (dg x2.2.2) ∧ RowOK x2.2.1 ∧ RowOK x2.2.2) → ((decide ((((x2.1 : Nat) : Int) - 1) ≥ (0 : Int))) = true → (∃ zx : Nat × Row × Row, (DivN (dg a) (dg b) (x2.1 - 1) zx.1 (dg zx.2.1) (dg zx.2.2) ∧ RowOK zx.2.1 ∧ RowOK zx.2.2) ∧ sv a = sv a ∧ sv b = sv b ∧ sv x2.2.1 = sv zx.2.1 ∧ sv x2.2.2 = sv zx.2.2 ∧ Value.int .i64 (((x2.1 : Nat) : Int) - 1) = .int .i64 (((x2.1 : Nat) : Int) - 1) ∧ Value.int .i64 32768 = .int .i64 (un zx.1) ∧ (ss 3 a) = (ss 3 a) ∧ (ss 3 b) = (ss 3 b) ∧ (ss 3 x2.2.1) = (ss 3 zx.2.1) ∧ (ss 3 x2.2.2) = (ss 3 zx.2.2) ∧ True) ∧ ∀ x3 : Nat × Row × Row, ∀ jx3 : Nat → Value, (DivN (dg a) (dg b) (x2.1 - 1) x3.1 (dg x3.2.1) (dg x3.2.2) ∧ RowOK x3.2.1 ∧ RowOK x3.2.2) → ((decide ((un x3.1) > (0 : Int))) = true → (CallT Try.prog 33 #[sv x3.2.2, sv x3.2.2] [(ss 3 x3.2.2)] Row (fun zx => sv zx) (fun zx => [(ss 3 x3.2.2), (ss 3 zx)]) (fun zx => RowOK zx ∧ nv (dg zx) = nv (rdv (sv x3.2.2) (ss 3 x3.2.2)) + nv (rdv (sv x3.2.2) (ss 3 x3.2.2)) ∧ Canon (dg zx))) ∧ (∃ zx : Row, (fun zx => RowOK zx ∧ nv (dg zx) = nv (rdv (sv x3.2.2) (ss 3 x3.2.2)) + nv (rdv (sv x3.2.2) (ss 3 x3.2.2)) ∧ Canon (dg zx)) zx) ∧ ∀ x4 : Row, (RowOK x4 ∧ nv (dg x4) = nv (rdv (sv x3.2.2) (ss 3 x3.2.2)) + nv (rdv (sv x3.2.2) (ss 3 x3.2.2)) ∧ Canon (dg x4)) → (PureRun Try.prog (do pure (.value (← Instr.indexAt 42 (sv a) (.int .i64 (((x2.1 : Nat) : Int) - 1))))) (.pointer (some ⟨(vblk (sv a)), (Int.toNat (((x2.1 : Nat) : Int) - 1)), none⟩))) ∧ (OpT Try.prog (do pure (.value (← Instr.loadAt 3 (.pointer (some ⟨(vblk (sv a)), (Int.toNat (((x2.1 : Nat) : Int) - 1)), none⟩))))) [(ss 3 a)] Int (fun zx => .int .i64 zx) (fun _ => [(ss 3 a)]) (fun zx => (scells (ss 3 a))[(Int.toNat (((x2.1 : Nat) : Int) - 1))]? = some (.int .i64 zx))) ∧ (∃ zx : Int, (fun zx => (scells (ss 3 a))[(Int.toNat (((x2.1 : Nat) : Int) - 1))]? = some (.int .i64 zx)) zx) ∧ ∀ x5 : Int, ((scells (ss 3 a))[(Int.toNat (((x2.1 : Nat) : Int) - 1))]? = some (.int .i64 x5)) → (PureRun Try.prog (xBin .quo 3 (.int .i64 x5) (.int .i64 (un x3.1))) (.int .i64 (x5 / (un x3.1)))) ∧ (∃ _ : Unit, True ∧ Value.int .i64 (Int.tmod (x5 / (un x3.1)) 2) = .int .i64 ((x5 / (un x3.1)) % 2)) ∧ ∀ _ : Unit, (True) → ((((x5 / (un x3.1)) % 2) == (1 : Int)) = true → ∀ b6 : Nat, (CallT Try.prog 33 #[sv x4, .slice (some ⟨b6, 0, none⟩) 1 1] [(ss 3 x4), (ss 3 (Row.mk b6 [.int .i64 1] []))] Row (fun zx => sv zx) (fun zx => [(ss 3 x4), (ss 3 (Row.mk b6 [.int .i64 1] [])), (ss 3 zx)]) (fun zx => RowOK zx ∧ nv (dg zx) = nv (rdv (sv x4) (ss 3 x4)) + nv (rdv (sv (Row.mk b6 [.int .i64 1] [])) (ss 3 (Row.mk b6 [.int .i64 1] []))) ∧ Canon (dg zx))) ∧ (∃ zx : Row, (fun zx => RowOK zx ∧ nv (dg zx) = nv (rdv (sv x4) (ss 3 x4)) + nv (rdv (sv (Row.mk b6 [.int .i64 1] [])) (ss 3 (Row.mk b6 [.int .i64 1] []))) ∧ Canon (dg zx)) zx) ∧ ∀ x7 : Row, (RowOK x7 ∧ nv (dg x7) = nv (rdv (sv x4) (ss 3 x4)) + nv (rdv (sv (Row.mk b6 [.int .i64 1] [])) (ss 3 (Row.mk b6 [.int .i64 1] []))) ∧ Canon (dg x7)) → (CallT Try.prog 20 #[sv x7, sv b] [(ss 3 x7), (ss 3 b)] Int (fun zx => .int .i64 zx) (fun _ => [(ss 3 x7), (ss 3 b)]) (fun zx => zx = hCmp (nv (rdv (sv x7) (ss 3 x7))) (nv (rdv (sv b) (ss 3 b))))) ∧ (∃ zx : Int, (fun zx => zx = hCmp (nv (rdv (sv x7) (ss 3 x7))) (nv (rdv (sv b) (ss 3 b)))) zx) ∧ ∀ x8 : Int, (x8 = hCmp (nv (rdv (sv x7) (ss 3 x7))) (nv (rdv (sv b) (ss 3 b)))) → ((decide (x8 ≥ (0 : Int))) = true → (CallT Try.prog 34 #[sv x7, sv b] [(ss 3 x7), (ss 3 b)] Row (fun zx => sv zx) (fun zx => [(ss 3 x7), (ss 3 b), (ss 3 zx)]) (fun zx => RowOK zx ∧ nv (dg zx) = nv (rdv (sv x7) (ss 3 x7)) - nv (rdv (sv b) (ss 3 b)) ∧ Canon (dg zx))) ∧ (∃ zx : Row, (fun zx => RowOK zx ∧ nv (dg zx) = nv (rdv (sv x7) (ss 3 x7)) - nv (rdv (sv b) (ss 3 b)) ∧ Canon (dg zx)) zx) ∧ ∀ x9 : Row, (RowOK x9 ∧ nv (dg x9) = nv (rdv (sv x7) (ss 3 x7)) - nv (rdv (sv b) (ss 3 b)) ∧ Canon (dg x9)) → (PureRun Try.prog (do pure (.value (← Instr.indexAt 42 (sv x3.2.1) (.int .i64 (((x2.1 : Nat) : Int) - 1))))) (.pointer (some ⟨(vblk (sv x3.2.1)), (Int.toNat (((x2.1 : Nat) : Int) - 1)), none⟩))) ∧ (OpT Try.prog (do pure (.value (← Instr.loadAt 3 (.pointer (some ⟨(vblk (sv x3.2.1)), (Int.toNat (((x2.1 : Nat) : Int) - 1)), none⟩))))) [(ss 3 x3.2.1)] Int (fun zx => .int .i64 zx) (fun _ => [(ss 3 x3.2.1)]) (fun zx => (scells (ss 3 x3.2.1))[(Int.toNat (((x2.1 : Nat) : Int) - 1))]? = some (.int .i64 zx))) ∧ (∃ zx : Int, (fun zx => (scells (ss 3 x3.2.1))[(Int.toNat (((x2.1 : Nat) : Int) - 1))]? = some (.int .i64 zx)) zx) ∧ ∀ x10 : Int, ((scells (ss 3 x3.2.1))[(Int.toNat (((x2.1 : Nat) : Int) - 1))]? = some (.int .i64 x10)) → (∃ _ : Unit, True ∧ Value.int .i64 (IntKind.i64.wrap (x10 + (un x3.1))) = .int .i64 (x10 + (un x3.1))) ∧ ∀ _ : Unit, (True) → (PureRun Try.prog (do pure (.value (← Instr.indexAt 42 (sv x3.2.1) (.int .i64 (((x2.1 : Nat) : Int) - 1))))) (.pointer (some ⟨(vblk (sv x3.2.1)), (Int.toNat (((x2.1 : Nat) : Int) - 1)), none⟩))) ∧ (OpT Try.prog (do Instr.storeAt 3 (.pointer (some ⟨(vblk (sv x3.2.1)), (Int.toNat (((x2.1 : Nat) : Int) - 1)), none⟩)) (.int .i64 (x10 + (un x3.1))); pure .skip) [(ss 3 x3.2.1)] Unit (fun _ => .tuple #[]) (fun _ => [(sset (ss 3 x3.2.1) (Int.toNat (((x2.1 : Nat) : Int) - 1)) (.int .i64 (x10 + (un x3.1))))]) (fun _ => True)) ∧ (∃ zx : Unit, (fun _ => True) zx) ∧ ∀ _ : Unit, (True) → (∃ _ : Unit, True ∧ Value.int .i64 (IntKind.i64.wrap (Int.tdiv (un x3.1) 2)) = .int .i64 ((un x3.1) / 2)) ∧ ∀ _ : Unit, (True) → ∃ zy : Nat × Row × Row, (DivN (dg a) (dg b) (x2.1 - 1) zy.1 (dg zy.2.1) (dg zy.2.2) ∧ RowOK zy.2.1 ∧ RowOK zy.2.2) ∧ zy.1 < x3.1 ∧ sv a = sv a ∧ sv b = sv b ∧ sv x3.2.1 = sv zy.2.1 ∧ sv x9 = sv zy.2.2 ∧ Value.int .i64 (((x2.1 : Nat) : Int) - 1) = .int .i64 (((x2.1 : Nat) : Int) - 1) ∧ Value.int .i64 ((un x3.1) / 2) = .int .i64 (un zy.1) ∧ (ss 3 a) = (ss 3 a) ∧ (ss 3 b) = (ss 3 b) ∧ (sset (ss 3 x3.2.1) (Int.toNat (((x2.1 : Nat) : Int) - 1)) (.int .i64 (x10 + (un x3.1)))) = (ss 3 zy.2.1) ∧ (ss 3 x9) = (ss 3 zy.2.2) ∧ True) ∧ ((decide (x8 ≥ (0 : Int))) = false → (∃ _ : Unit, True ∧ Value.int .i64 (IntKind.i64.wrap (Int.tdiv (un x3.1) 2)) = .int .i64 ((un x3.1) / 2)) ∧ ∀ _ : Unit, (True) → ∃ zy : Nat × Row × Row, (DivN (dg a) (dg b) (x2.1 - 1) zy.1 (dg zy.2.1) (dg zy.2.2) ∧ RowOK zy.2.1 ∧ RowOK zy.2.2) ∧ zy.1 < x3.1 ∧ sv a = sv a ∧ sv b = sv b ∧ sv x3.2.1 = sv zy.2.1 ∧ sv x7 = sv zy.2.2 ∧ Value.int .i64 (((x2.1 : Nat) : Int) - 1) = .int .i64 (((x2.1 : Nat) : Int) - 1) ∧ Value.int .i64 ((un x3.1) / 2) = .int .i64 (un zy.1) ∧ (ss 3 a) = (ss 3 a) ∧ (ss 3 b) = (ss 3 b) ∧ (ss 3 x3.2.1) = (ss 3 zy.2.1) ∧ (ss 3 x7) = (ss 3 zy.2.2) ∧ True)) ∧ ((((x5 / (un x3.1)) % 2) == (1 : Int)) = false → (CallT Try.prog 20 #[sv x4, sv b] [(ss 3 x4), (ss 3 b)] Int (fun zx => .int .i64 zx) (fun _ => [(ss 3 x4), (ss 3 b)]) (fun zx => zx = hCmp (nv (rdv (sv x4) (ss 3 x4))) (nv (rdv (sv b) (ss 3 b))))) ∧ (∃ zx : Int, (fun zx => zx = hCmp (nv (rdv (sv x4) (ss 3 x4))) (nv (rdv (sv b) (ss 3 b)))) zx) ∧ ∀ x11 : Int, (x11 = hCmp (nv (rdv (sv x4) (ss 3 x4))) (nv (rdv (sv b) (ss 3 b)))) → ((decide (x11 ≥ (0 : Int))) = true → (CallT Try.prog 34 #[sv x4, sv b] [(ss 3 x4), (ss 3 b)] Row (fun zx => sv zx) (fun zx => [(ss 3 x4), (ss 3 b), (ss 3 zx)]) (fun zx => RowOK zx ∧ nv (dg zx) = nv (rdv (sv x4) (ss 3 x4)) - nv (rdv (sv b) (ss 3 b)) ∧ Canon (dg zx))) ∧ (∃ zx : Row, (fun zx => RowOK zx ∧ nv (dg zx) = nv (rdv (sv x4) (ss 3 x4)) - nv (rdv (sv b) (ss 3 b)) ∧ Canon (dg zx)) zx) ∧ ∀ x12 : Row, (RowOK x12 ∧ nv (dg x12) = nv (rdv (sv x4) (ss 3 x4)) - nv (rdv (sv b) (ss 3 b)) ∧ Canon (dg x12)) → (PureRun Try.prog (do pure (.value (← Instr.indexAt 42 (sv x3.2.1) (.int .i64 (((x2.1 : Nat) : Int) - 1))))) (.pointer (some ⟨(vblk (sv x3.2.1)), (Int.toNat (((x2.1 : Nat) : Int) - 1)), none⟩))) ∧ (OpT Try.prog (do pure (.value (← Instr.loadAt 3 (.pointer (some ⟨(vblk (sv x3.2.1)), (Int.toNat (((x2.1 : Nat) : Int) - 1)), none⟩))))) [(ss 3 x3.2.1)] Int (fun zx => .int .i64 zx) (fun _ => [(ss 3 x3.2.1)]) (fun zx => (scells (ss 3 x3.2.1))[(Int.toNat (((x2.1 : Nat) : Int) - 1))]? = some (.int .i64 zx))) ∧ (∃ zx : Int, (fun zx => (scells (ss 3 x3.2.1))[(Int.toNat (((x2.1 : Nat) : Int) - 1))]? = some (.int .i64 zx)) zx) ∧ ∀ x13 : Int, ((scells (ss 3 x3.2.1))[(Int.toNat (((x2.1 : Nat) : Int) - 1))]? = some (.int .i64 x13)) → (∃ _ : Unit, True ∧ Value.int .i64 (IntKind.i64.wrap (x13 + (un x3.1))) = .int .i64 (x13 + (un x3.1))) ∧ ∀ _ : Unit, (True) → (PureRun Try.prog (do pure (.value (← Instr.indexAt 42 (sv x3.2.1) (.int .i64 (((x2.1 : Nat) : Int) - 1))))) (.pointer (some ⟨(vblk (sv x3.2.1)), (Int.toNat (((x2.1 : Nat) : Int) - 1)), none⟩))) ∧ (OpT Try.prog (do Instr.storeAt 3 (.pointer (some ⟨(vblk (sv x3.2.1)), (Int.toNat (((x2.1 : Nat) : Int) - 1)), none⟩)) (.int .i64 (x13 + (un x3.1))); pure .skip) [(ss 3 x3.2.1)] Unit (fun _ => .tuple #[]) (fun _ => [(sset (ss 3 x3.2.1) (Int.toNat (((x2.1 : Nat) : Int) - 1)) (.int .i64 (x13 + (un x3.1))))]) (fun _ => True)) ∧ (∃ zx : Unit, (fun _ => True) zx) ∧ ∀ _ : Unit, (True) → (∃ _ : Unit, True ∧ Value.int .i64 (IntKind.i64.wrap (Int.tdiv (un x3.1) 2)) = .int .i64 ((un x3.1) / 2)) ∧ ∀ _ : Unit, (True) → ∃ zy : Nat × Row × Row, (DivN (dg a) (dg b) (x2.1 - 1) zy.1 (dg zy.2.1) (dg zy.2.2) ∧ RowOK zy.2.1 ∧ RowOK zy.2.2) ∧ zy.1 < x3.1 ∧ sv a = sv a ∧ sv b = sv b ∧ sv x3.2.1 = sv zy.2.1 ∧ sv x12 = sv zy.2.2 ∧ Value.int .i64 (((x2.1 : Nat) : Int) - 1) = .int .i64 (((x2.1 : Nat) : Int) - 1) ∧ Value.int .i64 ((un x3.1) / 2) = .int .i64 (un zy.1) ∧ (ss 3 a) = (ss 3 a) ∧ (ss 3 b) = (ss 3 b) ∧ (sset (ss 3 x3.2.1) (Int.toNat (((x2.1 : Nat) : Int) - 1)) (.int .i64 (x13 + (un x3.1)))) = (ss 3 zy.2.1) ∧ (ss 3 x12) = (ss 3 zy.2.2) ∧ True) ∧ ((decide (x11 ≥ (0 : Int))) = false → (∃ _ : Unit, True ∧ Value.int .i64 (IntKind.i64.wrap (Int.tdiv (un x3.1) 2)) = .int .i64 ((un x3.1) / 2)) ∧ ∀ _ : Unit, (True) → ∃ zy : Nat × Row × Row, (DivN (dg a) (dg b) (x2.1 - 1) zy.1 (dg zy.2.1) (dg zy.2.2) ∧ RowOK zy.2.1 ∧ RowOK zy.2.2) ∧ zy.1 < x3.1 ∧ sv a = sv a ∧ sv b = sv b ∧ sv x3.2.1 = sv zy.2.1 ∧ sv x4 = sv zy.2.2 ∧ Value.int .i64 (((x2.1 : Nat) : Int) - 1) = .int .i64 (((x2.1 : Nat) : Int) - 1) ∧ Value.int .i64 ((un x3.1) / 2) = .int .i64 (un zy.1) ∧ (ss 3 a) = (ss 3 a) ∧ (ss 3 b) = (ss 3 b) ∧ (ss 3 x3.2.1) = (ss 3 zy.2.1) ∧ (ss 3 x4) = (ss 3 zy.2.2) ∧ True))) ∧ ((decide ((un x3.1) > (0 : Int))) = false → (∃ _ : Unit, True ∧ Value.int .i64 (IntKind.i64.wrap ((((x2.1 : Nat) : Int) - 1) - 1)) = .int .i64 ((((x2.1 : Nat) : Int) - 1) - 1)) ∧ ∀ _ : Unit, (True) → ∃ zy : Nat × Row × Row, (DivO (dg a) (dg b) zy.1 (dg zy.2.1) (dg zy.2.2) ∧ RowOK zy.2.1 ∧ RowOK zy.2.2) ∧ zy.1 < x2.1 ∧ sv a = sv a ∧ sv b = sv b ∧ sv x3.2.1 = sv zy.2.1 ∧ sv x3.2.2 = sv zy.2.2 ∧ Value.int .i64 ((((x2.1 : Nat) : Int) - 1) - 1) = .int .i64 (((zy.1 : Nat) : Int) - 1) ∧ (ss 3 a) = (ss 3 a) ∧ (ss 3 b) = (ss 3 b) ∧ (ss 3 x3.2.1) = (ss 3 zy.2.1) ∧ (ss 3 x3.2.2) = (ss 3 zy.2.2) ∧ True)) ∧ ((decide ((((x2.1 : Nat) : Int) - 1) ≥ (0 : Int))) = false → (CallT Try.prog 31 #[sv x2.2.1] [(ss 3 x2.2.1)] Row (fun zx => sv zx) (fun zx => [(ss 3 zx)]) (fun zx => RowOK zx ∧ ss 3 zx = (ss 3 x2.2.1) ∧ TrimR (rdv (sv x2.2.1) (ss 3 x2.2.1)) (dg zx))) ∧ (∃ zx : Row, (fun zx => RowOK zx ∧ ss 3 zx = (ss 3 x2.2.1) ∧ TrimR (rdv (sv x2.2.1) (ss 3 x2.2.1)) (dg zx)) zx) ∧ ∀ x14 : Row, (RowOK x14 ∧ ss 3 x14 = (ss 3 x2.2.1) ∧ TrimR (rdv (sv x2.2.1) (ss 3 x2.2.1)) (dg x14)) → ∃ zx : Row × Row, (RowOK zx.1 ∧ RowOK zx.2 ∧ nv (dg zx.1) = nv (rdv (sv a) (ss 3 a)) / nv (rdv (sv b) (ss 3 b)) ∧ nv (dg zx.2) = nv (rdv (sv a) (ss 3 a)) % nv (rdv (sv b) (ss 3 b)) ∧ Canon (dg zx.1) ∧ Canon (dg zx.2)) ∧ Value.tuple #[sv x14, sv x2.2.2] = .tuple #[sv zx.1, sv zx.2] ∧ (ss 3 a) = (ss 3 a) ∧ (ss 3 b) = (ss 3 b) ∧ (ss 3 x14) = (ss 3 zx.1) ∧ (ss 3 x2.2.2) = (ss 3 zx.2) ∧ True)) := by kernel_rfl
set_option maxRecDepth 100000 in
set_option maxHeartbeats 2000000 in
theorem ref1_Div (a : Row) (b : Row) (r_a : RowOK a) (r_b : RowOK b) (la : (dg a).length ≤ 65000) (lb : (dg b).length ≤ 65000) (hb : 0 < nv (dg b)) : CallT Try.prog 21 #[sv a, sv b] [(ss 3 a), (ss 3 b)] (Row × Row) (fun zx => .tuple #[sv zx.1, sv zx.2]) (fun zx => [(ss 3 a), (ss 3 b), (ss 3 zx.1), (ss 3 zx.2)]) (fun zx => (RowOK zx.1 ∧ RowOK zx.2 ∧ nv (dg zx.1) = nv (rdv (sv a) (ss 3 a)) / nv (rdv (sv b) (ss 3 b)) ∧ nv (dg zx.2) = nv (rdv (sv a) (ss 3 a)) % nv (rdv (sv b) (ss 3 b)) ∧ Canon (dg zx.1) ∧ Canon (dg zx.2))) := by
  refine call_of (c := bodyOf Try.f21) (n := 57) (fn := Try.f21) Try.mixed Try.func21 (by kernel_rfl) (by kernel_rfl) (by kernel_rfl) 2000 _ [] [0, 1, 20, 22] rfl rfl (Eq.mpr (ref1_Div_vc a b) ?_)
  have d_a := rdv_eq a 3
  have d_b := rdv_eq b 3
  have e_a := vlen_dg a
  have e_b := vlen_dg b
  refine ⟨xlen Try.sl42 3 a, xmake Try.sl42 .i64 ((vlen (sv a) : Nat) : Int) (by omega) (by omega), wit_make (e := 3) _ _, ?_⟩
  intro x1
  intro h1
  refine ⟨xlen Try.sl42 3 a, ⟨(), trivial, congrArg (Value.int .i64) (wrap_i64 _ (by omega) (by omega))⟩, ?_⟩
  intro _
  intro _
  refine ⟨?_, fun x2 jx2 h2 => ?_⟩
  · have q := RowOK.zeros (y := x1) (by assumption)
    have eq : Int.toNat ((vlen (sv a) : Nat) : Int) = (dg a).length := by omega
    rw [eq] at q
    exact ⟨((dg a).length, x1, Row.nil), ⟨by rw [q.2]; exact div_start _ _ hb, q.1, RowOK.nil⟩, rfl, rfl, rfl, rfl, congrArg (Value.int .i64) (by dsimp only; omega), rfl, rfl, rfl, rfl, trivial⟩
  · obtain ⟨D, okq, okl⟩ := h2
    have l1 := D.le; have l2 := D.len
    have da := r_a.dig.dgt (Int.toNat (((x2.1 : Nat) : Int) - 1))
    refine ⟨fun h3 => ?_, fun h3 => ?_⟩
    · refine ⟨?_, fun x3 jx3 h4 => ?_⟩
      · have D' : DivO (dg a) (dg b) (x2.1 - 1 + 1) (dg x2.2.1) (dg x2.2.2) := by
          rw [show x2.1 - 1 + 1 = x2.1 from by simp only [decide_eq_true_eq, decide_eq_false_iff_not, gt_iff_lt, ge_iff_le, beq_iff_eq, beq_eq_false_iff_ne] at *; omega]; exact D
        exact ⟨(16, x2.2), ⟨divn_start r_a.dig okq.dig D', okq, okl⟩, rfl, rfl, rfl, rfl, rfl, rfl, rfl, rfl, rfl, rfl, trivial⟩
      · obtain ⟨N, okq', okl'⟩ := h4
        have k16 := N.k16; have n2 := N.len; have n3 := N.lt; have n4 := N.li
        obtain ⟨u0, u1, u2⟩ := un_range k16
        have et : Int.toNat (((x2.1 : Nat) : Int) - 1) = x2.1 - 1 := by omega
        have ll := canon_lt okl'.dig N.canon r_b.dig n3
        have da := r_a.dig.dgt (x2.1 - 1)
        have dq := okq'.dig.dgt (x2.1 - 1)
        refine ⟨fun h5 => ?_, fun h5 => ?_⟩
        · have hi : 0 < x2.1 := by
            simp only [decide_eq_true_eq, decide_eq_false_iff_not, gt_iff_lt, ge_iff_le, beq_iff_eq, beq_eq_false_iff_ne] at *
            omega
          have hk : 0 < x3.1 := by
            simp only [decide_eq_true_eq, decide_eq_false_iff_not, gt_iff_lt, ge_iff_le, beq_iff_eq, beq_eq_false_iff_ne] at *
            omega
          have hnz : un x3.1 ≠ 0 := by omega
          refine ⟨ref1_Add2 x3.2.2 (by first | assumption | exact rowOK_lit _ _ (by decide)) (by omega), wit_row (by rw [rdv_eq x3.2.2]; exact Int.add_nonneg (nv_nonneg (RowOK.dig (by first | assumption | exact rowOK_lit _ _ (by decide)))) (nv_nonneg (RowOK.dig (by first | assumption | exact rowOK_lit _ _ (by decide))))), ?_⟩
          intro x4
          intro h6
          simp only [rdv_eq] at h6
          obtain ⟨rh6_, h6⟩ := h6
          have A1 := h6
          have lA1 : (dg x4).length ≤ (dg b).length + 3 := canon_len2 (RowOK.dig (by assumption)) A1.2 r_b.dig (by rw [A1.1]; omega)
          have da' := r_a.dig.dgt (Int.toNat (((x2.1 : Nat) : Int) - 1))
          refine ⟨xidx Try.sl42 a .i64 (((x2.1 : Nat) : Int) - 1) (by omega) (by rw [← dg_len]; omega), xgetR (e := 3) a 3 Try.agg3 (Int.toNat (((x2.1 : Nat) : Int) - 1)) r_a (by omega), wit_get (e := 3) a (Int.toNat (((x2.1 : Nat) : Int) - 1)) r_a (by omega), ?_⟩
          intro x5
          intro h7
          replace h7 := getR (e := 3) a (Int.toNat (((x2.1 : Nat) : Int) - 1)) r_a (by omega) h7
          refine ⟨PureRun.to (xquo (hnz)) (congrArg (Value.int .i64) (quo_un k16 hk (by omega) (by omega))), ⟨(), trivial, congrArg (Value.int .i64) (tmod_nat (Int.ediv_nonneg (by omega) u0))⟩, ?_⟩
          intro _
          intro _
          refine ⟨fun h8 => ?_, fun h8 => ?_⟩
          · intro b6
            refine ⟨ref1_Add x4 (Row.mk b6 [.int .i64 1] []) (by first | assumption | exact rowOK_lit _ _ (by decide)) (rowOK_lit b6 [1] (by decide)) (by omega) (Nat.le_of_ble_eq_true rfl), wit_row (by rw [rdv_eq x4, rdv_eq (Row.mk b6 [.int .i64 1] [])]; exact Int.add_nonneg (nv_nonneg (RowOK.dig (by first | assumption | exact rowOK_lit _ _ (by decide)))) (nv_nonneg (RowOK.dig (rowOK_lit b6 [1] (by decide))))), ?_⟩
            intro x7
            intro h9
            simp only [rdv_eq] at h9
            obtain ⟨rh9_, h9⟩ := h9
            have A2 := h9
            have lA2 : (dg x7).length ≤ (dg b).length + 3 := canon_len2 (RowOK.dig (by assumption)) A2.2 r_b.dig (by rw [A2.1, A1.1, show nv (dg (Row.mk _ [Value.int .i64 1] [])) = 1 from rfl]; omega)
            refine ⟨ref1_Cmp x7 b (by first | assumption | exact rowOK_lit _ _ (by decide)) (by first | assumption | exact rowOK_lit _ _ (by decide)) (by omega) (by omega), ⟨_, rfl⟩, ?_⟩
            intro x8
            intro h10
            simp only [rdv_eq] at h10
            have hC := h10
            refine ⟨fun h11 => ?_, fun h11 => ?_⟩
            · have hge := hCmp_ge hC (of_decide_eq_true (by assumption))
              refine ⟨ref1_Sub x7 b (by first | assumption | exact rowOK_lit _ _ (by decide)) (by first | assumption | exact rowOK_lit _ _ (by decide)) (by omega) (by omega) (hCmp_ge hC (of_decide_eq_true (by assumption))), wit_row (by rw [rdv_eq x7, rdv_eq b]; omega), ?_⟩
              intro x9
              intro h12
              simp only [rdv_eq] at h12
              obtain ⟨rh12_, h12⟩ := h12
              have S1 := h12
              have dq' := okq'.dig.dgt (Int.toNat (((x2.1 : Nat) : Int) - 1))
              refine ⟨xidx Try.sl42 x3.2.1 .i64 (((x2.1 : Nat) : Int) - 1) (by omega) (by rw [← dg_len]; omega), xgetR (e := 3) x3.2.1 3 Try.agg3 (Int.toNat (((x2.1 : Nat) : Int) - 1)) okq' (by omega), wit_get (e := 3) x3.2.1 (Int.toNat (((x2.1 : Nat) : Int) - 1)) okq' (by omega), ?_⟩
              intro x10
              intro h13
              replace h13 := getR (e := 3) x3.2.1 (Int.toNat (((x2.1 : Nat) : Int) - 1)) okq' (by omega) h13
              refine ⟨⟨(), trivial, congrArg (Value.int .i64) (wrap_i64 _ (by omega) (by omega))⟩, ?_⟩
              intro _
              intro _
              refine ⟨xidx Try.sl42 x3.2.1 .i64 (((x2.1 : Nat) : Int) - 1) (by omega) (by rw [← dg_len]; omega), xput (e := 3) x3.2.1 3 Try.size3 (Int.toNat (((x2.1 : Nat) : Int) - 1)) (.int .i64 (x10 + (un x3.1))) rfl rfl (by rw [← dg_len]; omega), ⟨(), trivial⟩, ?_⟩
              intro _
              intro _
              refine ⟨⟨(), trivial, congrArg (Value.int .i64) (quo2_i64 u0 (by omega))⟩, ?_⟩
              intro _
              intro _
              have hx0 : 0 < x3.1 := by
                simp only [decide_eq_true_eq, decide_eq_false_iff_not, gt_iff_lt, ge_iff_le, beq_iff_eq, beq_eq_false_iff_ne] at *
                omega
              obtain ⟨m, hm⟩ : ∃ m, x3.1 = m + 1 := ⟨x3.1 - 1, by omega⟩
              have hu : un x3.1 = 2 ^ m := by rw [hm]; exact un_succ (by omega)
              have hh : un x3.1 / 2 = un m := by rw [hm]; exact un_half (by omega)
              have N' : DivN (dg a) (dg b) (x2.1 - 1) (m + 1) (dg x3.2.1) (dg x3.2.2) := hm ▸ N
              have hbit : dgt (dg a) (x2.1 - 1) / 2 ^ m % 2 = 1 := by
                have hb2 := Int.emod_two_eq (dgt (dg a) (x2.1 - 1) / 2 ^ m)
                rw [← hu] at hb2 ⊢
                have hz := eq_of_beq h8
                rw [h7, et] at hz
                omega
              have hM : nv (dg x7) = 2 * nv (dg x3.2.2) + dgt (dg a) (x2.1 - 1) / 2 ^ m % 2 := by
                rw [hbit]
                rw [A2.1, A1.1, show nv (dg (Row.mk _ [Value.int .i64 1] [])) = 1 from rfl]; omega
              have hge : nv (dg b) ≤ nv (dg x7) := hCmp_ge hC (of_decide_eq_true h11)
              have q1 := divn_yes hb N' hM S1.1 S1.2
              have hr := divn_room okq'.dig N'
              have p := okq'.set (x2.1 - 1) hr.1 hr.2
              rw [← p.2] at q1
              exact ⟨(m, x3.2.1.set (x2.1 - 1) (.int .i64 (dgt (dg x3.2.1) (x2.1 - 1) + 2 ^ m)), x9), ⟨q1, p.1, by assumption⟩, by dsimp only; omega, rfl, rfl, (sv_set _ _ _).symm, rfl, rfl, congrArg (Value.int .i64) hh, rfl, rfl, by rw [et, hu, h13, et]; exact ss_set _ _ _ _ (by rw [← dg_len]; omega), rfl, trivial⟩
            · refine ⟨⟨(), trivial, congrArg (Value.int .i64) (quo2_i64 u0 (by omega))⟩, ?_⟩
              intro _
              intro _
              have hx0 : 0 < x3.1 := by
                simp only [decide_eq_true_eq, decide_eq_false_iff_not, gt_iff_lt, ge_iff_le, beq_iff_eq, beq_eq_false_iff_ne] at *
                omega
              obtain ⟨m, hm⟩ : ∃ m, x3.1 = m + 1 := ⟨x3.1 - 1, by omega⟩
              have hu : un x3.1 = 2 ^ m := by rw [hm]; exact un_succ (by omega)
              have hh : un x3.1 / 2 = un m := by rw [hm]; exact un_half (by omega)
              have N' : DivN (dg a) (dg b) (x2.1 - 1) (m + 1) (dg x3.2.1) (dg x3.2.2) := hm ▸ N
              have hbit : dgt (dg a) (x2.1 - 1) / 2 ^ m % 2 = 1 := by
                have hb2 := Int.emod_two_eq (dgt (dg a) (x2.1 - 1) / 2 ^ m)
                rw [← hu] at hb2 ⊢
                have hz := eq_of_beq h8
                rw [h7, et] at hz
                omega
              have hM : nv (dg x7) = 2 * nv (dg x3.2.2) + dgt (dg a) (x2.1 - 1) / 2 ^ m % 2 := by
                rw [hbit]
                rw [A2.1, A1.1, show nv (dg (Row.mk _ [Value.int .i64 1] [])) = 1 from rfl]; omega
              have hlt : nv (dg x7) < nv (dg b) := hCmp_nge hC (of_decide_eq_false h11)
              have q1 := divn_no N' hM A2.2 hlt
              exact ⟨(m, x3.2.1, x7), ⟨q1, by assumption, by assumption⟩, by dsimp only; omega, rfl, rfl, rfl, rfl, rfl, congrArg (Value.int .i64) hh, rfl, rfl, rfl, rfl, trivial⟩
          · refine ⟨ref1_Cmp x4 b (by first | assumption | exact rowOK_lit _ _ (by decide)) (by first | assumption | exact rowOK_lit _ _ (by decide)) (by omega) (by omega), ⟨_, rfl⟩, ?_⟩
            intro x11
            intro h14
            simp only [rdv_eq] at h14
            have hC := h14
            refine ⟨fun h15 => ?_, fun h15 => ?_⟩
            · have hge := hCmp_ge hC (of_decide_eq_true (by assumption))
              refine ⟨ref1_Sub x4 b (by first | assumption | exact rowOK_lit _ _ (by decide)) (by first | assumption | exact rowOK_lit _ _ (by decide)) (by omega) (by omega) (hCmp_ge hC (of_decide_eq_true (by assumption))), wit_row (by rw [rdv_eq x4, rdv_eq b]; omega), ?_⟩
              intro x12
              intro h16
              simp only [rdv_eq] at h16
              obtain ⟨rh16_, h16⟩ := h16
              have S1 := h16
              have dq' := okq'.dig.dgt (Int.toNat (((x2.1 : Nat) : Int) - 1))
              refine ⟨xidx Try.sl42 x3.2.1 .i64 (((x2.1 : Nat) : Int) - 1) (by omega) (by rw [← dg_len]; omega), xgetR (e := 3) x3.2.1 3 Try.agg3 (Int.toNat (((x2.1 : Nat) : Int) - 1)) okq' (by omega), wit_get (e := 3) x3.2.1 (Int.toNat (((x2.1 : Nat) : Int) - 1)) okq' (by omega), ?_⟩
              intro x13
              intro h17
              replace h17 := getR (e := 3) x3.2.1 (Int.toNat (((x2.1 : Nat) : Int) - 1)) okq' (by omega) h17
              refine ⟨⟨(), trivial, congrArg (Value.int .i64) (wrap_i64 _ (by omega) (by omega))⟩, ?_⟩
              intro _
              intro _
              refine ⟨xidx Try.sl42 x3.2.1 .i64 (((x2.1 : Nat) : Int) - 1) (by omega) (by rw [← dg_len]; omega), xput (e := 3) x3.2.1 3 Try.size3 (Int.toNat (((x2.1 : Nat) : Int) - 1)) (.int .i64 (x13 + (un x3.1))) rfl rfl (by rw [← dg_len]; omega), ⟨(), trivial⟩, ?_⟩
              intro _
              intro _
              refine ⟨⟨(), trivial, congrArg (Value.int .i64) (quo2_i64 u0 (by omega))⟩, ?_⟩
              intro _
              intro _
              have hx0 : 0 < x3.1 := by
                simp only [decide_eq_true_eq, decide_eq_false_iff_not, gt_iff_lt, ge_iff_le, beq_iff_eq, beq_eq_false_iff_ne] at *
                omega
              obtain ⟨m, hm⟩ : ∃ m, x3.1 = m + 1 := ⟨x3.1 - 1, by omega⟩
              have hu : un x3.1 = 2 ^ m := by rw [hm]; exact un_succ (by omega)
              have hh : un x3.1 / 2 = un m := by rw [hm]; exact un_half (by omega)
              have N' : DivN (dg a) (dg b) (x2.1 - 1) (m + 1) (dg x3.2.1) (dg x3.2.2) := hm ▸ N
              have hbit : dgt (dg a) (x2.1 - 1) / 2 ^ m % 2 = 0 := by
                have hb2 := Int.emod_two_eq (dgt (dg a) (x2.1 - 1) / 2 ^ m)
                rw [← hu] at hb2 ⊢
                have hz := ne_of_beq_false h8
                rw [h7, et] at hz
                omega
              have hM : nv (dg x4) = 2 * nv (dg x3.2.2) + dgt (dg a) (x2.1 - 1) / 2 ^ m % 2 := by
                rw [hbit]
                rw [A1.1]; omega
              have hge : nv (dg b) ≤ nv (dg x4) := hCmp_ge hC (of_decide_eq_true h15)
              have q1 := divn_yes hb N' hM S1.1 S1.2
              have hr := divn_room okq'.dig N'
              have p := okq'.set (x2.1 - 1) hr.1 hr.2
              rw [← p.2] at q1
              exact ⟨(m, x3.2.1.set (x2.1 - 1) (.int .i64 (dgt (dg x3.2.1) (x2.1 - 1) + 2 ^ m)), x12), ⟨q1, p.1, by assumption⟩, by dsimp only; omega, rfl, rfl, (sv_set _ _ _).symm, rfl, rfl, congrArg (Value.int .i64) hh, rfl, rfl, by rw [et, hu, h17, et]; exact ss_set _ _ _ _ (by rw [← dg_len]; omega), rfl, trivial⟩
            · refine ⟨⟨(), trivial, congrArg (Value.int .i64) (quo2_i64 u0 (by omega))⟩, ?_⟩
              intro _
              intro _
              have hx0 : 0 < x3.1 := by
                simp only [decide_eq_true_eq, decide_eq_false_iff_not, gt_iff_lt, ge_iff_le, beq_iff_eq, beq_eq_false_iff_ne] at *
                omega
              obtain ⟨m, hm⟩ : ∃ m, x3.1 = m + 1 := ⟨x3.1 - 1, by omega⟩
              have hu : un x3.1 = 2 ^ m := by rw [hm]; exact un_succ (by omega)
              have hh : un x3.1 / 2 = un m := by rw [hm]; exact un_half (by omega)
              have N' : DivN (dg a) (dg b) (x2.1 - 1) (m + 1) (dg x3.2.1) (dg x3.2.2) := hm ▸ N
              have hbit : dgt (dg a) (x2.1 - 1) / 2 ^ m % 2 = 0 := by
                have hb2 := Int.emod_two_eq (dgt (dg a) (x2.1 - 1) / 2 ^ m)
                rw [← hu] at hb2 ⊢
                have hz := ne_of_beq_false h8
                rw [h7, et] at hz
                omega
              have hM : nv (dg x4) = 2 * nv (dg x3.2.2) + dgt (dg a) (x2.1 - 1) / 2 ^ m % 2 := by
                rw [hbit]
                rw [A1.1]; omega
              have hlt : nv (dg x4) < nv (dg b) := hCmp_nge hC (of_decide_eq_false h15)
              have q1 := divn_no N' hM A1.2 hlt
              exact ⟨(m, x3.2.1, x4), ⟨q1, by assumption, by assumption⟩, by dsimp only; omega, rfl, rfl, rfl, rfl, rfl, congrArg (Value.int .i64) hh, rfl, rfl, rfl, rfl, trivial⟩
        · refine ⟨⟨(), trivial, congrArg (Value.int .i64) (wrap_i64 _ (by omega) (by omega))⟩, ?_⟩
          intro _
          intro _
          have k0 : x3.1 = 0 := by
            simp only [decide_eq_true_eq, decide_eq_false_iff_not, gt_iff_lt, ge_iff_le, beq_iff_eq, beq_eq_false_iff_ne] at *
            omega
          have hpos : 0 < x2.1 := by
            simp only [decide_eq_true_eq, decide_eq_false_iff_not, gt_iff_lt, ge_iff_le, beq_iff_eq, beq_eq_false_iff_ne] at *
            omega
          rw [k0] at N
          exact ⟨(x2.1 - 1, x3.2), ⟨divn_end N, okq', okl'⟩, by dsimp only; omega, rfl, rfl, rfl, rfl, congrArg (Value.int .i64) (by dsimp only; omega), rfl, rfl, rfl, rfl, trivial⟩
    · refine ⟨ref1_Trim x2.2.1 (by first | assumption | exact rowOK_lit _ _ (by decide)) (by omega), wit_trim x2.2.1 (by first | assumption | exact rowOK_lit _ _ (by decide)), ?_⟩
      intro x14
      intro h18
      simp only [rdv_eq] at h18
      obtain ⟨rh18_, h18⟩ := h18
      have T : TrimR (dg x2.2.1) (dg x14) := by first | exact And.right (by assumption) | assumption
      have hn : x2.1 = 0 := by
        simp only [decide_eq_true_eq, decide_eq_false_iff_not, gt_iff_lt, ge_iff_le, beq_iff_eq, beq_eq_false_iff_ne] at *
        omega
      rw [hn] at D
      have E := divo_end okl.dig D
      exact ⟨(x14, x2.2.2), ⟨by assumption, okl, by rw [d_a, d_b]; exact T.eq.trans E.1, by rw [d_a, d_b]; exact E.2, T.canon, D.canon⟩, rfl, rfl, rfl, rfl, rfl, trivial⟩

def ref2_Int_C : List Value → List Slot → Ctr := fun vs hs => ⟨Int × Bool, fun zx => .tuple #[vI zx.1, .bool zx.2], fun zx => [(sarg hs 0)], fun zx => R4 zx.1 ∧ zx = rInt (nv (rdv (varg vs 1) (sarg hs 0)))⟩
set_option maxRecDepth 100000 in
set_option maxHeartbeats 2000000 in
theorem ref2_Int_vc (a : Row) : codeW Try.prog 34 none 2000 none (bodyOf Try.f24) (.reg [.sem [.nw 1], .sem []] (.reg [.sem [], .callw [0] [0] ref1_Trim_C, .sem []] (.reg [.sem [], .eq (f_len), .sem []] (.cond (.reg [.sem [], .sem [.wr 1, .wr 1, .wr 1, .wr 1], .sem []] (.done)) (.reg [.sem [.nw 2]] (.reg [.sem [], .eq (f_len), .gen [] (fun vs => one (.int .i64 (ci (varg vs 0) - ci (varg vs 1))) vs), .sem []] (.inv (Nat × Row × Nat × Nat) (fun zx => [(0, sv zx.2.1), (4, .pointer (some ⟨zx.2.2.1, 0, none⟩)), (5, .int .i64 (((zx.1 : Nat) : Int) - 1)), (2, .pointer (some ⟨zx.2.2.2, 0, none⟩))]) (fun zx => [(0, (ss 3 zx.2.1)), (2, .blk zx.2.2.1 (.cells #[.int .u64 (lb (dg zx.2.1) zx.1 0), .int .u64 (lb (dg zx.2.1) zx.1 1), .int .u64 (lb (dg zx.2.1) zx.1 2), .int .u64 (lb (dg zx.2.1) zx.1 3)] 24 (0, 0))), (1, .blk zx.2.2.2 (.cells #[.int .u64 0, .int .u64 0, .int .u64 0, .int .u64 0] 24 (0, 0)))]) (fun zx => zx.1 ≤ (dg zx.2.1).length ∧ RowOK zx.2.1 ∧ TrimR (dg a) (dg zx.2.1) ∧ ss 3 zx.2.1 = ss 3 a ∧ (dg zx.2.1).length ≤ 16) (fun zx => zx.1) (fun x4 => .reg [.sem [], .sem []] (.cond (.caseP (fun s => decide (((ci (s.fr 5))) / 4 = 0)) (.reg [.sem [], .gen [] (fun vs => one (.int .i64 0) vs), .sem [], .gen [] (fun vs => one (.int .i64 0) vs), .sem [], .sem [.rd 2], .gen [] (fun vs => one (.int .u64 (ci (varg vs 0) * ci (varg vs 1))) vs), .sem [], .sem [], .eq (f_idx), .specr [0] F_get, .gen [] (fun vs => one (.int .u64 (ci (varg vs 0))) vs), .gen [] (fun vs => one (.int .u64 (ci (varg vs 0) + ci (varg vs 1))) vs), .sem [], .sem [.wr 2]] (.reg [.sem [], .gen [] (fun vs => one (.int .i64 (ci (varg vs 0) - ci (varg vs 1))) vs), .sem []] (.done))) (.caseP (fun s => decide (((ci (s.fr 5))) / 4 = 1)) (.reg [.sem [], .gen [] (fun vs => one (.int .i64 1) vs), .sem [], .gen [] (fun vs => one (.int .i64 1) vs), .sem [], .sem [.rd 2], .gen [] (fun vs => one (.int .u64 (ci (varg vs 0) * ci (varg vs 1))) vs), .sem [], .sem [], .eq (f_idx), .specr [0] F_get, .gen [] (fun vs => one (.int .u64 (ci (varg vs 0))) vs), .gen [] (fun vs => one (.int .u64 (ci (varg vs 0) + ci (varg vs 1))) vs), .sem [], .sem [.wr 2]] (.reg [.sem [], .gen [] (fun vs => one (.int .i64 (ci (varg vs 0) - ci (varg vs 1))) vs), .sem []] (.done))) (.caseP (fun s => decide (((ci (s.fr 5))) / 4 = 2)) (.reg [.sem [], .gen [] (fun vs => one (.int .i64 2) vs), .sem [], .gen [] (fun vs => one (.int .i64 2) vs), .sem [], .sem [.rd 2], .gen [] (fun vs => one (.int .u64 (ci (varg vs 0) * ci (varg vs 1))) vs), .sem [], .sem [], .eq (f_idx), .specr [0] F_get, .gen [] (fun vs => one (.int .u64 (ci (varg vs 0))) vs), .gen [] (fun vs => one (.int .u64 (ci (varg vs 0) + ci (varg vs 1))) vs), .sem [], .sem [.wr 2]] (.reg [.sem [], .gen [] (fun vs => one (.int .i64 (ci (varg vs 0) - ci (varg vs 1))) vs), .sem []] (.done))) (.reg [.sem [], .gen [] (fun vs => one (.int .i64 3) vs), .sem [], .gen [] (fun vs => one (.int .i64 3) vs), .sem [], .sem [.rd 2], .gen [] (fun vs => one (.int .u64 (ci (varg vs 0) * ci (varg vs 1))) vs), .sem [], .sem [], .eq (f_idx), .specr [0] F_get, .gen [] (fun vs => one (.int .u64 (ci (varg vs 0))) vs), .gen [] (fun vs => one (.int .u64 (ci (varg vs 0) + ci (varg vs 1))) vs), .sem [], .sem [.wr 2]] (.reg [.sem [], .gen [] (fun vs => one (.int .i64 (ci (varg vs 0) - ci (varg vs 1))) vs), .sem []] (.done)))))) (.reg [.sem [.rd 2, .rd 2, .rd 2, .rd 2], .sem [.wr 1, .wr 1, .wr 1, .wr 1], .sem []] (.done)))))))))))
    (init #[sv a] [(ss 3 a)]) (finW Try.prog Try.f24 [.rd 1, .rd 1, .rd 1, .rd 1] [0] (X := Int × Bool) (fun zx => .tuple #[vI zx.1, .bool zx.2]) (fun zx => [(ss 3 a)]) (fun zx => (R4 zx.1 ∧ zx = rInt (nv (rdv (sv a) (ss 3 a)))))) =
    (∀ b1 : Nat, (CallT Try.prog 31 #[sv a] [(ss 3 a)] Row (fun zx => sv zx) (fun zx => [(ss 3 zx)]) (fun zx => RowOK zx ∧ ss 3 zx = (ss 3 a) ∧ TrimR (rdv (sv a) (ss 3 a)) (dg zx))) ∧ (∃ zx : Row, (fun zx => RowOK zx ∧ ss 3 zx = (ss 3 a) ∧ TrimR (rdv (sv a) (ss 3 a)) (dg zx)) zx) ∧ ∀ x2 : Row, (RowOK x2 ∧ ss 3 x2 = (ss 3 a) ∧ TrimR (rdv (sv a) (ss 3 a)) (dg x2)) → (PureRun Try.prog (do pure (.value (← Builtin.len_ #[42] 3 #[sv x2]))) (.int .i64 ((vlen (sv x2) : Nat) : Int))) ∧ ((decide (((vlen (sv x2) : Nat) : Int) > (16 : Int))) = true → b1 = b1 ∧ (none : Option Nat) = none ∧ b1 = b1 ∧ (none : Option Nat) = none ∧ b1 = b1 ∧ (none : Option Nat) = none ∧ b1 = b1 ∧ (none : Option Nat) = none ∧ b1 = b1 ∧ (none : Option Nat) = none ∧ b1 = b1 ∧ (none : Option Nat) = none ∧ b1 = b1 ∧ (none : Option Nat) = none ∧ b1 = b1 ∧ (none : Option Nat) = none ∧ ∃ zx : Int × Bool, (R4 zx.1 ∧ zx = rInt (nv (rdv (sv a) (ss 3 a)))) ∧ Value.tuple #[.agg #[.int .u64 0, .int .u64 0, .int .u64 0, .int .u64 0], .bool false] = .tuple #[vI zx.1, .bool zx.2] ∧ (ss 3 x2) = (ss 3 a) ∧ True) ∧ ((decide (((vlen (sv x2) : Nat) : Int) > (16 : Int))) = false → ∀ b3 : Nat, (PureRun Try.prog (do pure (.value (← Builtin.len_ #[42] 3 #[sv x2]))) (.int .i64 ((vlen (sv x2) : Nat) : Int))) ∧ (∃ _ : Unit, True ∧ Value.int .i64 (IntKind.i64.wrap (((vlen (sv x2) : Nat) : Int) - 1)) = .int .i64 (((vlen (sv x2) : Nat) : Int) - 1)) ∧ ∀ _ : Unit, (True) → (∃ zx : Nat × Row × Nat × Nat, (zx.1 ≤ (dg zx.2.1).length ∧ RowOK zx.2.1 ∧ TrimR (dg a) (dg zx.2.1) ∧ ss 3 zx.2.1 = ss 3 a ∧ (dg zx.2.1).length ≤ 16) ∧ sv x2 = sv zx.2.1 ∧ Value.pointer (some ⟨b3, 0, none⟩) = .pointer (some ⟨zx.2.2.1, 0, none⟩) ∧ Value.int .i64 (((vlen (sv x2) : Nat) : Int) - 1) = .int .i64 (((zx.1 : Nat) : Int) - 1) ∧ Value.pointer (some ⟨b1, 0, none⟩) = .pointer (some ⟨zx.2.2.2, 0, none⟩) ∧ (ss 3 x2) = (ss 3 zx.2.1) ∧ Slot.blk b3 (.cells #[.int .u64 0, .int .u64 0, .int .u64 0, .int .u64 0] 24 (0, 0)) = .blk zx.2.2.1 (.cells #[.int .u64 (lb (dg zx.2.1) zx.1 0), .int .u64 (lb (dg zx.2.1) zx.1 1), .int .u64 (lb (dg zx.2.1) zx.1 2), .int .u64 (lb (dg zx.2.1) zx.1 3)] 24 (0, 0)) ∧ Slot.blk b1 (.cells #[.int .u64 0, .int .u64 0, .int .u64 0, .int .u64 0] 24 (0, 0)) = .blk zx.2.2.2 (.cells #[.int .u64 0, .int .u64 0, .int .u64 0, .int .u64 0] 24 (0, 0)) ∧ True) ∧ ∀ x4 : Nat × Row × Nat × Nat, ∀ jx4 : Nat → Value, (x4.1 ≤ (dg x4.2.1).length ∧ RowOK x4.2.1 ∧ TrimR (dg a) (dg x4.2.1) ∧ ss 3 x4.2.1 = ss 3 a ∧ (dg x4.2.1).length ≤ 16) → ((decide ((((x4.1 : Nat) : Int) - 1) ≥ (0 : Int))) = true → ((decide ((((x4.1 : Nat) : Int) - 1) / 4 = 0)) = true → (∃ _ : Unit, True ∧ Value.int .i64 (IntKind.i64.wrap (Int.tdiv (((x4.1 : Nat) : Int) - 1) 4)) = .int .i64 0) ∧ ∀ _ : Unit, (True) → (∃ _ : Unit, True ∧ Value.int .i64 (IntKind.i64.wrap (Int.tdiv (((x4.1 : Nat) : Int) - 1) 4)) = .int .i64 0) ∧ ∀ _ : Unit, (True) → x4.2.2.1 = x4.2.2.1 ∧ (none : Option Nat) = none ∧ (∃ _ : Unit, True ∧ Value.int .u64 (IntKind.u64.wrap ((lb (dg x4.2.1) x4.1 0) * 65536)) = .int .u64 ((lb (dg x4.2.1) x4.1 0) * 65536)) ∧ ∀ _ : Unit, (True) → (PureRun Try.prog (do pure (.value (← Instr.indexAt 42 (sv x4.2.1) (.int .i64 (((x4.1 : Nat) : Int) - 1))))) (.pointer (some ⟨(vblk (sv x4.2.1)), (Int.toNat (((x4.1 : Nat) : Int) - 1)), none⟩))) ∧ (OpT Try.prog (do pure (.value (← Instr.loadAt 3 (.pointer (some ⟨(vblk (sv x4.2.1)), (Int.toNat (((x4.1 : Nat) : Int) - 1)), none⟩))))) [(ss 3 x4.2.1)] Int (fun zx => .int .i64 zx) (fun _ => [(ss 3 x4.2.1)]) (fun zx => (scells (ss 3 x4.2.1))[(Int.toNat (((x4.1 : Nat) : Int) - 1))]? = some (.int .i64 zx))) ∧ (∃ zx : Int, (fun zx => (scells (ss 3 x4.2.1))[(Int.toNat (((x4.1 : Nat) : Int) - 1))]? = some (.int .i64 zx)) zx) ∧ ∀ x5 : Int, ((scells (ss 3 x4.2.1))[(Int.toNat (((x4.1 : Nat) : Int) - 1))]? = some (.int .i64 x5)) → (∃ _ : Unit, True ∧ Value.int .u64 (IntKind.u64.wrap x5) = .int .u64 x5) ∧ ∀ _ : Unit, (True) → (∃ _ : Unit, True ∧ Value.int .u64 (IntKind.u64.wrap (((lb (dg x4.2.1) x4.1 0) * 65536) + x5)) = .int .u64 (((lb (dg x4.2.1) x4.1 0) * 65536) + x5)) ∧ ∀ _ : Unit, (True) → x4.2.2.1 = x4.2.2.1 ∧ (none : Option Nat) = none ∧ (∃ _ : Unit, True ∧ Value.int .i64 (IntKind.i64.wrap ((((x4.1 : Nat) : Int) - 1) - 1)) = .int .i64 ((((x4.1 : Nat) : Int) - 1) - 1)) ∧ ∀ _ : Unit, (True) → ∃ zy : Nat × Row × Nat × Nat, (zy.1 ≤ (dg zy.2.1).length ∧ RowOK zy.2.1 ∧ TrimR (dg a) (dg zy.2.1) ∧ ss 3 zy.2.1 = ss 3 a ∧ (dg zy.2.1).length ≤ 16) ∧ zy.1 < x4.1 ∧ sv x4.2.1 = sv zy.2.1 ∧ Value.pointer (some ⟨x4.2.2.1, 0, none⟩) = .pointer (some ⟨zy.2.2.1, 0, none⟩) ∧ Value.int .i64 ((((x4.1 : Nat) : Int) - 1) - 1) = .int .i64 (((zy.1 : Nat) : Int) - 1) ∧ Value.pointer (some ⟨x4.2.2.2, 0, none⟩) = .pointer (some ⟨zy.2.2.2, 0, none⟩) ∧ (ss 3 x4.2.1) = (ss 3 zy.2.1) ∧ Slot.blk x4.2.2.1 (.cells #[.int .u64 (((lb (dg x4.2.1) x4.1 0) * 65536) + x5), .int .u64 (lb (dg x4.2.1) x4.1 1), .int .u64 (lb (dg x4.2.1) x4.1 2), .int .u64 (lb (dg x4.2.1) x4.1 3)] 24 (0, 0)) = .blk zy.2.2.1 (.cells #[.int .u64 (lb (dg zy.2.1) zy.1 0), .int .u64 (lb (dg zy.2.1) zy.1 1), .int .u64 (lb (dg zy.2.1) zy.1 2), .int .u64 (lb (dg zy.2.1) zy.1 3)] 24 (0, 0)) ∧ Slot.blk x4.2.2.2 (.cells #[.int .u64 0, .int .u64 0, .int .u64 0, .int .u64 0] 24 (0, 0)) = .blk zy.2.2.2 (.cells #[.int .u64 0, .int .u64 0, .int .u64 0, .int .u64 0] 24 (0, 0)) ∧ True) ∧ ((decide ((((x4.1 : Nat) : Int) - 1) / 4 = 0)) = false → ((decide ((((x4.1 : Nat) : Int) - 1) / 4 = 1)) = true → (∃ _ : Unit, True ∧ Value.int .i64 (IntKind.i64.wrap (Int.tdiv (((x4.1 : Nat) : Int) - 1) 4)) = .int .i64 1) ∧ ∀ _ : Unit, (True) → (∃ _ : Unit, True ∧ Value.int .i64 (IntKind.i64.wrap (Int.tdiv (((x4.1 : Nat) : Int) - 1) 4)) = .int .i64 1) ∧ ∀ _ : Unit, (True) → x4.2.2.1 = x4.2.2.1 ∧ (none : Option Nat) = none ∧ (∃ _ : Unit, True ∧ Value.int .u64 (IntKind.u64.wrap ((lb (dg x4.2.1) x4.1 1) * 65536)) = .int .u64 ((lb (dg x4.2.1) x4.1 1) * 65536)) ∧ ∀ _ : Unit, (True) → (PureRun Try.prog (do pure (.value (← Instr.indexAt 42 (sv x4.2.1) (.int .i64 (((x4.1 : Nat) : Int) - 1))))) (.pointer (some ⟨(vblk (sv x4.2.1)), (Int.toNat (((x4.1 : Nat) : Int) - 1)), none⟩))) ∧ (OpT Try.prog (do pure (.value (← Instr.loadAt 3 (.pointer (some ⟨(vblk (sv x4.2.1)), (Int.toNat (((x4.1 : Nat) : Int) - 1)), none⟩))))) [(ss 3 x4.2.1)] Int (fun zx => .int .i64 zx) (fun _ => [(ss 3 x4.2.1)]) (fun zx => (scells (ss 3 x4.2.1))[(Int.toNat (((x4.1 : Nat) : Int) - 1))]? = some (.int .i64 zx))) ∧ (∃ zx : Int, (fun zx => (scells (ss 3 x4.2.1))[(Int.toNat (((x4.1 : Nat) : Int) - 1))]? = some (.int .i64 zx)) zx) ∧ ∀ x6 : Int, ((scells (ss 3 x4.2.1))[(Int.toNat (((x4.1 : Nat) : Int) - 1))]? = some (.int .i64 x6)) → (∃ _ : Unit, True ∧ Value.int .u64 (IntKind.u64.wrap x6) = .int .u64 x6) ∧ ∀ _ : Unit, (True) → (∃ _ : Unit, True ∧ Value.int .u64 (IntKind.u64.wrap (((lb (dg x4.2.1) x4.1 1) * 65536) + x6)) = .int .u64 (((lb (dg x4.2.1) x4.1 1) * 65536) + x6)) ∧ ∀ _ : Unit, (True) → x4.2.2.1 = x4.2.2.1 ∧ (none : Option Nat) = none ∧ (∃ _ : Unit, True ∧ Value.int .i64 (IntKind.i64.wrap ((((x4.1 : Nat) : Int) - 1) - 1)) = .int .i64 ((((x4.1 : Nat) : Int) - 1) - 1)) ∧ ∀ _ : Unit, (True) → ∃ zy : Nat × Row × Nat × Nat, (zy.1 ≤ (dg zy.2.1).length ∧ RowOK zy.2.1 ∧ TrimR (dg a) (dg zy.2.1) ∧ ss 3 zy.2.1 = ss 3 a ∧ (dg zy.2.1).length ≤ 16) ∧ zy.1 < x4.1 ∧ sv x4.2.1 = sv zy.2.1 ∧ Value.pointer (some ⟨x4.2.2.1, 0, none⟩) = .pointer (some ⟨zy.2.2.1, 0, none⟩) ∧ Value.int .i64 ((((x4.1 : Nat) : Int) - 1) - 1) = .int .i64 (((zy.1 : Nat) : Int) - 1) ∧ Value.pointer (some ⟨x4.2.2.2, 0, none⟩) = .pointer (some ⟨zy.2.2.2, 0, none⟩) ∧ (ss 3 x4.2.1) = (ss 3 zy.2.1) ∧ Slot.blk x4.2.2.1 (.cells #[.int .u64 (lb (dg x4.2.1) x4.1 0), .int .u64 (((lb (dg x4.2.1) x4.1 1) * 65536) + x6), .int .u64 (lb (dg x4.2.1) x4.1 2), .int .u64 (lb (dg x4.2.1) x4.1 3)] 24 (0, 0)) = .blk zy.2.2.1 (.cells #[.int .u64 (lb (dg zy.2.1) zy.1 0), .int .u64 (lb (dg zy.2.1) zy.1 1), .int .u64 (lb (dg zy.2.1) zy.1 2), .int .u64 (lb (dg zy.2.1) zy.1 3)] 24 (0, 0)) ∧ Slot.blk x4.2.2.2 (.cells #[.int .u64 0, .int .u64 0, .int .u64 0, .int .u64 0] 24 (0, 0)) = .blk zy.2.2.2 (.cells #[.int .u64 0, .int .u64 0, .int .u64 0, .int .u64 0] 24 (0, 0)) ∧ True) ∧ ((decide ((((x4.1 : Nat) : Int) - 1) / 4 = 1)) = false → ((decide ((((x4.1 : Nat) : Int) - 1) / 4 = 2)) = true → (∃ _ : Unit, True ∧ Value.int .i64 (IntKind.i64.wrap (Int.tdiv (((x4.1 : Nat) : Int) - 1) 4)) = .int .i64 2) ∧ ∀ _ : Unit, (True) → (∃ _ : Unit, True ∧ Value.int .i64 (IntKind.i64.wrap (Int.tdiv (((x4.1 : Nat) : Int) - 1) 4)) = .int .i64 2) ∧ ∀ _ : Unit, (True) → x4.2.2.1 = x4.2.2.1 ∧ (none : Option Nat) = none ∧ (∃ _ : Unit, True ∧ Value.int .u64 (IntKind.u64.wrap ((lb (dg x4.2.1) x4.1 2) * 65536)) = .int .u64 ((lb (dg x4.2.1) x4.1 2) * 65536)) ∧ ∀ _ : Unit, (True) → (PureRun Try.prog (do pure (.value (← Instr.indexAt 42 (sv x4.2.1) (.int .i64 (((x4.1 : Nat) : Int) - 1))))) (.pointer (some ⟨(vblk (sv x4.2.1)), (Int.toNat (((x4.1 : Nat) : Int) - 1)), none⟩))) ∧ (OpT Try.prog (do pure (.value (← Instr.loadAt 3 (.pointer (some ⟨(vblk (sv x4.2.1)), (Int.toNat (((x4.1 : Nat) : Int) - 1)), none⟩))))) [(ss 3 x4.2.1)] Int (fun zx => .int .i64 zx) (fun _ => [(ss 3 x4.2.1)]) (fun zx => (scells (ss 3 x4.2.1))[(Int.toNat (((x4.1 : Nat) : Int) - 1))]? = some (.int .i64 zx))) ∧ (∃ zx : Int, (fun zx => (scells (ss 3 x4.2.1))[(Int.toNat (((x4.1 : Nat) : Int) - 1))]? = some (.int .i64 zx)) zx) ∧ ∀ x7 : Int, ((scells (ss 3 x4.2.1))[(Int.toNat (((x4.1 : Nat) : Int) - 1))]? = some (.int .i64 x7)) → (∃ _ : Unit, True ∧ Value.int .u64 (IntKind.u64.wrap x7) = .int .u64 x7) ∧ ∀ _ : Unit, (True) → (∃ _ : Unit, True ∧ Value.int .u64 (IntKind.u64.wrap (((lb (dg x4.2.1) x4.1 2) * 65536) + x7)) = .int .u64 (((lb (dg x4.2.1) x4.1 2) * 65536) + x7)) ∧ ∀ _ : Unit, (True) → x4.2.2.1 = x4.2.2.1 ∧ (none : Option Nat) = none ∧ (∃ _ : Unit, True ∧ Value.int .i64 (IntKind.i64.wrap ((((x4.1 : Nat) : Int) - 1) - 1)) = .int .i64 ((((x4.1 : Nat) : Int) - 1) - 1)) ∧ ∀ _ : Unit, (True) → ∃ zy : Nat × Row × Nat × Nat, (zy.1 ≤ (dg zy.2.1).length ∧ RowOK zy.2.1 ∧ TrimR (dg a) (dg zy.2.1) ∧ ss 3 zy.2.1 = ss 3 a ∧ (dg zy.2.1).length ≤ 16) ∧ zy.1 < x4.1 ∧ sv x4.2.1 = sv zy.2.1 ∧ Value.pointer (some ⟨x4.2.2.1, 0, none⟩) = .pointer (some ⟨zy.2.2.1, 0, none⟩) ∧ Value.int .i64 ((((x4.1 : Nat) : Int) - 1) - 1) = .int .i64 (((zy.1 : Nat) : Int) - 1) ∧ Value.pointer (some ⟨x4.2.2.2, 0, none⟩) = .pointer (some ⟨zy.2.2.2, 0, none⟩) ∧ (ss 3 x4.2.1) = (ss 3 zy.2.1) ∧ Slot.blk x4.2.2.1 (.cells #[.int .u64 (lb (dg x4.2.1) x4.1 0), .int .u64 (lb (dg x4.2.1) x4.1 1), .int .u64 (((lb (dg x4.2.1) x4.1 2) * 65536) + x7), .int .u64 (lb (dg x4.2.1) x4.1 3)] 24 (0, 0)) = .blk zy.2.2.1 (.cells #[.int .u64 (lb (dg zy.2.1) zy.1 0), .int .u64 (lb (dg zy.2.1) zy.1 1), .int .u64 (lb (dg zy.2.1) zy.1 2), .int .u64 (lb (dg zy.2.1) zy.1 3)] 24 (0, 0)) ∧ Slot.blk x4.2.2.2 (.cells #[.int .u64 0, .int .u64 0, .int .u64 0, .int .u64 0] 24 (0, 0)) = .blk zy.2.2.2 (.cells #[.int .u64 0, .int .u64 0, .int .u64 0, .int .u64 0] 24 (0, 0)) ∧ True) ∧ ((decide ((((x4.1 : Nat) : Int) - 1) / 4 = 2)) = false → (∃ _ : Unit, True ∧ Value.int .i64 (IntKind.i64.wrap (Int.tdiv (((x4.1 : Nat) : Int) - 1) 4)) = .int .i64 3) ∧ ∀ _ : Unit, (True) → (∃ _ : Unit, True ∧ Value.int .i64 (IntKind.i64.wrap (Int.tdiv (((x4.1 : Nat) : Int) - 1) 4)) = .int .i64 3) ∧ ∀ _ : Unit, (True) → x4.2.2.1 = x4.2.2.1 ∧ (none : Option Nat) = none ∧ (∃ _ : Unit, True ∧ Value.int .u64 (IntKind.u64.wrap ((lb (dg x4.2.1) x4.1 3) * 65536)) = .int .u64 ((lb (dg x4.2.1) x4.1 3) * 65536)) ∧ ∀ _ : Unit, (True) → (PureRun Try.prog (do pure (.value (← Instr.indexAt 42 (sv x4.2.1) (.int .i64 (((x4.1 : Nat) : Int) - 1))))) (.pointer (some ⟨(vblk (sv x4.2.1)), (Int.toNat (((x4.1 : Nat) : Int) - 1)), none⟩))) ∧ (OpT Try.prog (do pure (.value (← Instr.loadAt 3 (.pointer (some ⟨(vblk (sv x4.2.1)), (Int.toNat (((x4.1 : Nat) : Int) - 1)), none⟩))))) [(ss 3 x4.2.1)] Int (fun zx => .int .i64 zx) (fun _ => [(ss 3 x4.2.1)]) (fun zx => (scells (ss 3 x4.2.1))[(Int.toNat (((x4.1 : Nat) : Int) - 1))]? = some (.int .i64 zx))) ∧ (∃ zx : Int, (fun zx => (scells (ss 3 x4.2.1))[(Int.toNat (((x4.1 : Nat) : Int) - 1))]? = some (.int .i64 zx)) zx) ∧ ∀ x8 : Int, ((scells (ss 3 x4.2.1))[(Int.toNat (((x4.1 : Nat) : Int) - 1))]? = some (.int .i64 x8)) → (∃ _ : Unit, True ∧ Value.int .u64 (IntKind.u64.wrap x8) = .int .u64 x8) ∧ ∀ _ : Unit, (True) → (∃ _ : Unit, True ∧ Value.int .u64 (IntKind.u64.wrap (((lb (dg x4.2.1) x4.1 3) * 65536) + x8)) = .int .u64 (((lb (dg x4.2.1) x4.1 3) * 65536) + x8)) ∧ ∀ _ : Unit, (True) → x4.2.2.1 = x4.2.2.1 ∧ (none : Option Nat) = none ∧ (∃ _ : Unit, True ∧ Value.int .i64 (IntKind.i64.wrap ((((x4.1 : Nat) : Int) - 1) - 1)) = .int .i64 ((((x4.1 : Nat) : Int) - 1) - 1)) ∧ ∀ _ : Unit, (True) → ∃ zy : Nat × Row × Nat × Nat, (zy.1 ≤ (dg zy.2.1).length ∧ RowOK zy.2.1 ∧ TrimR (dg a) (dg zy.2.1) ∧ ss 3 zy.2.1 = ss 3 a ∧ (dg zy.2.1).length ≤ 16) ∧ zy.1 < x4.1 ∧ sv x4.2.1 = sv zy.2.1 ∧ Value.pointer (some ⟨x4.2.2.1, 0, none⟩) = .pointer (some ⟨zy.2.2.1, 0, none⟩) ∧ Value.int .i64 ((((x4.1 : Nat) : Int) - 1) - 1) = .int .i64 (((zy.1 : Nat) : Int) - 1) ∧ Value.pointer (some ⟨x4.2.2.2, 0, none⟩) = .pointer (some ⟨zy.2.2.2, 0, none⟩) ∧ (ss 3 x4.2.1) = (ss 3 zy.2.1) ∧ Slot.blk x4.2.2.1 (.cells #[.int .u64 (lb (dg x4.2.1) x4.1 0), .int .u64 (lb (dg x4.2.1) x4.1 1), .int .u64 (lb (dg x4.2.1) x4.1 2), .int .u64 (((lb (dg x4.2.1) x4.1 3) * 65536) + x8)] 24 (0, 0)) = .blk zy.2.2.1 (.cells #[.int .u64 (lb (dg zy.2.1) zy.1 0), .int .u64 (lb (dg zy.2.1) zy.1 1), .int .u64 (lb (dg zy.2.1) zy.1 2), .int .u64 (lb (dg zy.2.1) zy.1 3)] 24 (0, 0)) ∧ Slot.blk x4.2.2.2 (.cells #[.int .u64 0, .int .u64 0, .int .u64 0, .int .u64 0] 24 (0, 0)) = .blk zy.2.2.2 (.cells #[.int .u64 0, .int .u64 0, .int .u64 0, .int .u64 0] 24 (0, 0)) ∧ True)))) ∧ ((decide ((((x4.1 : Nat) : Int) - 1) ≥ (0 : Int))) = false → x4.2.2.1 = x4.2.2.1 ∧ (none : Option Nat) = none ∧ x4.2.2.1 = x4.2.2.1 ∧ (none : Option Nat) = none ∧ x4.2.2.1 = x4.2.2.1 ∧ (none : Option Nat) = none ∧ x4.2.2.1 = x4.2.2.1 ∧ (none : Option Nat) = none ∧ x4.2.2.2 = x4.2.2.2 ∧ (none : Option Nat) = none ∧ x4.2.2.2 = x4.2.2.2 ∧ (none : Option Nat) = none ∧ x4.2.2.2 = x4.2.2.2 ∧ (none : Option Nat) = none ∧ x4.2.2.2 = x4.2.2.2 ∧ (none : Option Nat) = none ∧ x4.2.2.2 = x4.2.2.2 ∧ (none : Option Nat) = none ∧ x4.2.2.2 = x4.2.2.2 ∧ (none : Option Nat) = none ∧ x4.2.2.2 = x4.2.2.2 ∧ (none : Option Nat) = none ∧ x4.2.2.2 = x4.2.2.2 ∧ (none : Option Nat) = none ∧ ∃ zx : Int × Bool, (R4 zx.1 ∧ zx = rInt (nv (rdv (sv a) (ss 3 a)))) ∧ Value.tuple #[.agg #[.int .u64 (lb (dg x4.2.1) x4.1 0), .int .u64 (lb (dg x4.2.1) x4.1 1), .int .u64 (lb (dg x4.2.1) x4.1 2), .int .u64 (lb (dg x4.2.1) x4.1 3)], .bool true] = .tuple #[vI zx.1, .bool zx.2] ∧ (ss 3 x4.2.1) = (ss 3 a) ∧ True))) := by kernel_rfl
set_option maxRecDepth 100000 in
set_option maxHeartbeats 2000000 in
theorem ref2_Int (a : Row) (r_a : RowOK a) (la : (dg a).length ≤ 65000) : CallT Try.prog 24 #[sv a] [(ss 3 a)] (Int × Bool) (fun zx => .tuple #[vI zx.1, .bool zx.2]) (fun zx => [(ss 3 a)]) (fun zx => (R4 zx.1 ∧ zx = rInt (nv (rdv (sv a) (ss 3 a))))) := by
  refine call_of (c := bodyOf Try.f24) (n := 34) (fn := Try.f24) Try.mixed Try.func24 (by kernel_rfl) (by kernel_rfl) (by kernel_rfl) 2000 _ [.rd 1, .rd 1, .rd 1, .rd 1] [0] rfl rfl (Eq.mpr (ref2_Int_vc a) ?_)
  have d_a := rdv_eq a 3
  have e_a := vlen_dg a
  intro b1
  refine ⟨ref1_Trim a (by first | assumption | exact rowOK_lit _ _ (by decide)) (by omega), wit_trim a (by first | assumption | exact rowOK_lit _ _ (by decide)), ?_⟩
  intro x2
  intro h1
  simp only [rdv_eq] at h1
  obtain ⟨rh1_, h1⟩ := h1
  obtain ⟨hs, TR⟩ := h1
  have ok : RowOK x2 := by assumption
  have lz := TR.len
  have ez := vlen_dg x2
  refine ⟨xlen Try.sl42 3 x2, ?_⟩
  refine ⟨fun h2 => ?_, fun h2 => ?_⟩
  · refine ⟨rfl, rfl, rfl, rfl, rfl, rfl, rfl, rfl, ?_⟩
    refine ⟨rfl, rfl, rfl, rfl, rfl, rfl, rfl, rfl, ?_⟩
    exact ⟨(0, false), ⟨R4_zero, by rw [d_a, ← TR.eq]; exact (rInt_long ok.dig TR.canon (by simp only [decide_eq_true_eq, decide_eq_false_iff_not, gt_iff_lt, ge_iff_le, beq_iff_eq, beq_eq_false_iff_ne] at *; omega)).symm⟩, by rw [vI_zero], hs, trivial⟩
  · intro b3
    refine ⟨xlen Try.sl42 3 x2, ⟨(), trivial, congrArg (Value.int .i64) (wrap_i64 _ (by omega) (by omega))⟩, ?_⟩
    intro _
    intro _
    refine ⟨?_, fun x4 jx4 h3 => ?_⟩
    · have h16 : (dg x2).length ≤ 16 := by
        simp only [decide_eq_true_eq, decide_eq_false_iff_not, gt_iff_lt, ge_iff_le, beq_iff_eq, beq_eq_false_iff_ne] at *
        omega
      exact ⟨((dg x2).length, x2, b3, b1), ⟨Nat.le_refl _, ok, TR, hs, h16⟩, rfl, rfl, congrArg (Value.int .i64) (by dsimp only; omega), rfl, rfl, by simp only [lb_top], rfl, trivial⟩
    · obtain ⟨hl, ok, TR, hs, h16⟩ := h3
      have lz := TR.len; have ez := vlen_dg x4.2.1
      refine ⟨fun h4 => ?_, fun h4 => ?_⟩
      · refine ⟨fun h5 => ?_, fun h5 => ?_⟩
        · have hx : 0 < x4.1 := by
            simp only [decide_eq_true_eq, decide_eq_false_iff_not, gt_iff_lt, ge_iff_le, beq_iff_eq, beq_eq_false_iff_ne] at *
            omega
          have hq : (((x4.1 : Nat) : Int) - 1) / 4 = 0 := by
            simp only [decide_eq_true_eq, decide_eq_false_iff_not, gt_iff_lt, ge_iff_le, beq_iff_eq, beq_eq_false_iff_ne] at *
            omega
          have LS := lb_step ok.dig hx hl (c := 0) (by omega)
          have LW := LS.2.1; have LX := LS.2.2.1
          have dz := ok.dig.dgt (Int.toNat (((x4.1 : Nat) : Int) - 1))
          have et' : Int.toNat (((x4.1 : Nat) : Int) - 1) = x4.1 - 1 := by omega
          refine ⟨⟨(), trivial, congrArg (Value.int .i64) (quo4_i64 (by omega) (by omega) hq)⟩, ?_⟩
          intro _
          intro _
          refine ⟨⟨(), trivial, congrArg (Value.int .i64) (quo4_i64 (by omega) (by omega) hq)⟩, ?_⟩
          intro _
          intro _
          refine ⟨rfl, rfl, ⟨(), trivial, congrArg (Value.int .u64) (wrap_W LW)⟩, ?_⟩
          intro _
          intro _
          refine ⟨xidx Try.sl42 x4.2.1 .i64 (((x4.1 : Nat) : Int) - 1) (by omega) (by rw [← dg_len]; omega), xgetR (e := 3) x4.2.1 3 Try.agg3 (Int.toNat (((x4.1 : Nat) : Int) - 1)) ok (by omega), wit_get (e := 3) x4.2.1 (Int.toNat (((x4.1 : Nat) : Int) - 1)) ok (by omega), ?_⟩
          intro x5
          intro h6
          replace h6 := getR (e := 3) x4.2.1 (Int.toNat (((x4.1 : Nat) : Int) - 1)) ok (by omega) h6
          refine ⟨⟨(), trivial, congrArg (Value.int .u64) (wrap_W ⟨by omega, by omega⟩)⟩, ?_⟩
          intro _
          intro _
          refine ⟨⟨(), trivial, congrArg (Value.int .u64) (wrap_W (by rw [h6, et']; exact LX))⟩, ?_⟩
          intro _
          intro _
          refine ⟨rfl, rfl, ?_⟩
          refine ⟨⟨(), trivial, congrArg (Value.int .i64) (wrap_i64 _ (by omega) (by omega))⟩, ?_⟩
          intro _
          intro _
          have et : Int.toNat (((x4.1 : Nat) : Int) - 1) = x4.1 - 1 := by omega
          have e0 := LS.1
          have e1 := LS.2.2.2 1 (by decide)
          have e2 := LS.2.2.2 2 (by decide)
          have e3 := LS.2.2.2 3 (by decide)
          exact ⟨(x4.1 - 1, x4.2), ⟨by dsimp only; omega, ok, TR, hs, h16⟩, by dsimp only; omega, rfl, rfl, congrArg (Value.int .i64) (by dsimp only; omega), rfl, rfl, by dsimp only; rw [e0, e1, e2, e3, h6, et], rfl, trivial⟩
        · refine ⟨fun h7 => ?_, fun h7 => ?_⟩
          · have hx : 0 < x4.1 := by
              simp only [decide_eq_true_eq, decide_eq_false_iff_not, gt_iff_lt, ge_iff_le, beq_iff_eq, beq_eq_false_iff_ne] at *
              omega
            have hq : (((x4.1 : Nat) : Int) - 1) / 4 = 1 := by
              simp only [decide_eq_true_eq, decide_eq_false_iff_not, gt_iff_lt, ge_iff_le, beq_iff_eq, beq_eq_false_iff_ne] at *
              omega
            have LS := lb_step ok.dig hx hl (c := 1) (by omega)
            have LW := LS.2.1; have LX := LS.2.2.1
            have dz := ok.dig.dgt (Int.toNat (((x4.1 : Nat) : Int) - 1))
            have et' : Int.toNat (((x4.1 : Nat) : Int) - 1) = x4.1 - 1 := by omega
            refine ⟨⟨(), trivial, congrArg (Value.int .i64) (quo4_i64 (by omega) (by omega) hq)⟩, ?_⟩
            intro _
            intro _
            refine ⟨⟨(), trivial, congrArg (Value.int .i64) (quo4_i64 (by omega) (by omega) hq)⟩, ?_⟩
            intro _
            intro _
            refine ⟨rfl, rfl, ⟨(), trivial, congrArg (Value.int .u64) (wrap_W LW)⟩, ?_⟩
            intro _
            intro _
            refine ⟨xidx Try.sl42 x4.2.1 .i64 (((x4.1 : Nat) : Int) - 1) (by omega) (by rw [← dg_len]; omega), xgetR (e := 3) x4.2.1 3 Try.agg3 (Int.toNat (((x4.1 : Nat) : Int) - 1)) ok (by omega), wit_get (e := 3) x4.2.1 (Int.toNat (((x4.1 : Nat) : Int) - 1)) ok (by omega), ?_⟩
            intro x6
            intro h8
            replace h8 := getR (e := 3) x4.2.1 (Int.toNat (((x4.1 : Nat) : Int) - 1)) ok (by omega) h8
            refine ⟨⟨(), trivial, congrArg (Value.int .u64) (wrap_W ⟨by omega, by omega⟩)⟩, ?_⟩
            intro _
            intro _
            refine ⟨⟨(), trivial, congrArg (Value.int .u64) (wrap_W (by rw [h8, et']; exact LX))⟩, ?_⟩
            intro _
            intro _
            refine ⟨rfl, rfl, ?_⟩
            refine ⟨⟨(), trivial, congrArg (Value.int .i64) (wrap_i64 _ (by omega) (by omega))⟩, ?_⟩
            intro _
            intro _
            have et : Int.toNat (((x4.1 : Nat) : Int) - 1) = x4.1 - 1 := by omega
            have e1 := LS.1
            have e0 := LS.2.2.2 0 (by decide)
            have e2 := LS.2.2.2 2 (by decide)
            have e3 := LS.2.2.2 3 (by decide)
            exact ⟨(x4.1 - 1, x4.2), ⟨by dsimp only; omega, ok, TR, hs, h16⟩, by dsimp only; omega, rfl, rfl, congrArg (Value.int .i64) (by dsimp only; omega), rfl, rfl, by dsimp only; rw [e0, e1, e2, e3, h8, et], rfl, trivial⟩
          · refine ⟨fun h9 => ?_, fun h9 => ?_⟩
            · have hx : 0 < x4.1 := by
                simp only [decide_eq_true_eq, decide_eq_false_iff_not, gt_iff_lt, ge_iff_le, beq_iff_eq, beq_eq_false_iff_ne] at *
                omega
              have hq : (((x4.1 : Nat) : Int) - 1) / 4 = 2 := by
                simp only [decide_eq_true_eq, decide_eq_false_iff_not, gt_iff_lt, ge_iff_le, beq_iff_eq, beq_eq_false_iff_ne] at *
                omega
              have LS := lb_step ok.dig hx hl (c := 2) (by omega)
              have LW := LS.2.1; have LX := LS.2.2.1
              have dz := ok.dig.dgt (Int.toNat (((x4.1 : Nat) : Int) - 1))
              have et' : Int.toNat (((x4.1 : Nat) : Int) - 1) = x4.1 - 1 := by omega
              refine ⟨⟨(), trivial, congrArg (Value.int .i64) (quo4_i64 (by omega) (by omega) hq)⟩, ?_⟩
              intro _
              intro _
              refine ⟨⟨(), trivial, congrArg (Value.int .i64) (quo4_i64 (by omega) (by omega) hq)⟩, ?_⟩
              intro _
              intro _
              refine ⟨rfl, rfl, ⟨(), trivial, congrArg (Value.int .u64) (wrap_W LW)⟩, ?_⟩
              intro _
              intro _
              refine ⟨xidx Try.sl42 x4.2.1 .i64 (((x4.1 : Nat) : Int) - 1) (by omega) (by rw [← dg_len]; omega), xgetR (e := 3) x4.2.1 3 Try.agg3 (Int.toNat (((x4.1 : Nat) : Int) - 1)) ok (by omega), wit_get (e := 3) x4.2.1 (Int.toNat (((x4.1 : Nat) : Int) - 1)) ok (by omega), ?_⟩
              intro x7
              intro h10
              replace h10 := getR (e := 3) x4.2.1 (Int.toNat (((x4.1 : Nat) : Int) - 1)) ok (by omega) h10
              refine ⟨⟨(), trivial, congrArg (Value.int .u64) (wrap_W ⟨by omega, by omega⟩)⟩, ?_⟩
              intro _
              intro _
              refine ⟨⟨(), trivial, congrArg (Value.int .u64) (wrap_W (by rw [h10, et']; exact LX))⟩, ?_⟩
              intro _
              intro _
              refine ⟨rfl, rfl, ?_⟩
              refine ⟨⟨(), trivial, congrArg (Value.int .i64) (wrap_i64 _ (by omega) (by omega))⟩, ?_⟩
              intro _
              intro _
              have et : Int.toNat (((x4.1 : Nat) : Int) - 1) = x4.1 - 1 := by omega
              have e2 := LS.1
              have e0 := LS.2.2.2 0 (by decide)
              have e1 := LS.2.2.2 1 (by decide)
              have e3 := LS.2.2.2 3 (by decide)
              exact ⟨(x4.1 - 1, x4.2), ⟨by dsimp only; omega, ok, TR, hs, h16⟩, by dsimp only; omega, rfl, rfl, congrArg (Value.int .i64) (by dsimp only; omega), rfl, rfl, by dsimp only; rw [e0, e1, e2, e3, h10, et], rfl, trivial⟩
            · have hx : 0 < x4.1 := by
                simp only [decide_eq_true_eq, decide_eq_false_iff_not, gt_iff_lt, ge_iff_le, beq_iff_eq, beq_eq_false_iff_ne] at *
                omega
              have hq : (((x4.1 : Nat) : Int) - 1) / 4 = 3 := by
                simp only [decide_eq_true_eq, decide_eq_false_iff_not, gt_iff_lt, ge_iff_le, beq_iff_eq, beq_eq_false_iff_ne] at *
                omega
              have LS := lb_step ok.dig hx hl (c := 3) (by omega)
              have LW := LS.2.1; have LX := LS.2.2.1
              have dz := ok.dig.dgt (Int.toNat (((x4.1 : Nat) : Int) - 1))
              have et' : Int.toNat (((x4.1 : Nat) : Int) - 1) = x4.1 - 1 := by omega
              refine ⟨⟨(), trivial, congrArg (Value.int .i64) (quo4_i64 (by omega) (by omega) hq)⟩, ?_⟩
              intro _
              intro _
              refine ⟨⟨(), trivial, congrArg (Value.int .i64) (quo4_i64 (by omega) (by omega) hq)⟩, ?_⟩
              intro _
              intro _
              refine ⟨rfl, rfl, ⟨(), trivial, congrArg (Value.int .u64) (wrap_W LW)⟩, ?_⟩
              intro _
              intro _
              refine ⟨xidx Try.sl42 x4.2.1 .i64 (((x4.1 : Nat) : Int) - 1) (by omega) (by rw [← dg_len]; omega), xgetR (e := 3) x4.2.1 3 Try.agg3 (Int.toNat (((x4.1 : Nat) : Int) - 1)) ok (by omega), wit_get (e := 3) x4.2.1 (Int.toNat (((x4.1 : Nat) : Int) - 1)) ok (by omega), ?_⟩
              intro x8
              intro h11
              replace h11 := getR (e := 3) x4.2.1 (Int.toNat (((x4.1 : Nat) : Int) - 1)) ok (by omega) h11
              refine ⟨⟨(), trivial, congrArg (Value.int .u64) (wrap_W ⟨by omega, by omega⟩)⟩, ?_⟩
              intro _
              intro _
              refine ⟨⟨(), trivial, congrArg (Value.int .u64) (wrap_W (by rw [h11, et']; exact LX))⟩, ?_⟩
              intro _
              intro _
              refine ⟨rfl, rfl, ?_⟩
              refine ⟨⟨(), trivial, congrArg (Value.int .i64) (wrap_i64 _ (by omega) (by omega))⟩, ?_⟩
              intro _
              intro _
              have et : Int.toNat (((x4.1 : Nat) : Int) - 1) = x4.1 - 1 := by omega
              have e3 := LS.1
              have e0 := LS.2.2.2 0 (by decide)
              have e1 := LS.2.2.2 1 (by decide)
              have e2 := LS.2.2.2 2 (by decide)
              exact ⟨(x4.1 - 1, x4.2), ⟨by dsimp only; omega, ok, TR, hs, h16⟩, by dsimp only; omega, rfl, rfl, congrArg (Value.int .i64) (by dsimp only; omega), rfl, rfl, by dsimp only; rw [e0, e1, e2, e3, h11, et], rfl, trivial⟩
      · refine ⟨rfl, rfl, rfl, rfl, rfl, rfl, rfl, rfl, rfl, rfl, rfl, rfl, rfl, rfl, rfl, rfl, ?_⟩
        refine ⟨rfl, rfl, rfl, rfl, rfl, rfl, rfl, rfl, ?_⟩
        have hn : x4.1 = 0 := by
          simp only [decide_eq_true_eq, decide_eq_false_iff_not, gt_iff_lt, ge_iff_le, beq_iff_eq, beq_eq_false_iff_ne] at *
          omega
        have hle := h16
        have e := rInt_short ok.dig hle
        exact ⟨rInt (nv (dg a)), ⟨rInt_R (nv_nonneg r_a.dig), by rw [d_a]⟩, by rw [← TR.eq, e, hn, lb_vI ok.dig hle], hs, trivial⟩


def share_more_C : List Value → List Slot → Ctr := fun vs hs => ⟨Int × Int × Int, fun zx => .tuple #[vI zx.1, vI zx.2.1, .int .i64 zx.2.2], fun _ => hs, fun zx => R4 zx.1 ∧ R4 zx.2.1 ∧ zx = sMore (num (varg vs 1)) (num (varg vs 2))⟩
set_option maxRecDepth 100000 in
theorem share_more_vc (a : Int) (b : Int) : codeW Try.prog 27 none 2000 none (bodyOf Try.f25) (.reg [.sem [.nw 0], .sem [.nw 1], .sem [.nw 2], .sem [.nw 3], .sem []] (.reg [.callr [] huge_Of_C, .sem [.nw 4], .sem [.wr 4, .wr 4, .wr 4, .wr 4]] (.reg [.sem [.rd 0, .rd 0, .rd 0, .rd 0], .sem [.rd 4, .rd 4, .rd 4, .rd 4], .callr [] huge_Add_C, .sem [], .sem [], .sem [], .sem [.wr 2, .wr 2, .wr 2, .wr 2], .sem []] (.reg [.sem [.rd 1, .rd 1, .rd 1, .rd 1], .sem [.rd 4, .rd 4, .rd 4, .rd 4], .callr [] huge_Add_C, .sem [], .sem [], .sem [], .sem [.wr 3, .wr 3, .wr 3, .wr 3], .sem []] (.reg [.sem [.rd 2, .rd 2, .rd 2, .rd 2], .sem [.rd 3, .rd 3, .rd 3, .rd 3], .sem [], .sem [], .sem [], .sem [.wr 2, .wr 2, .wr 2, .wr 2], .sem [.wr 3, .wr 3, .wr 3, .wr 3], .sem []] (.done))))))
    (init #[vI a, vI b] []) (finW Try.prog Try.f25 [.rd 2, .rd 2, .rd 2, .rd 2, .rd 3, .rd 3, .rd 3, .rd 3] [] (X := Int × Int × Int) (fun zx => .tuple #[vI zx.1, vI zx.2.1, .int .i64 zx.2.2]) (fun zx => []) (fun zx => (R4 zx.1 ∧ R4 zx.2.1 ∧ zx = sMore (num (vI a)) (num (vI b))))) =
    (∀ b1 : Nat, ∀ b2 : Nat, ∀ b3 : Nat, ∀ b4 : Nat, (CallT Try.prog 11 #[.int .u64 1] [] Unit (fun _ => vI (1 : Int)) (fun _ => []) (fun _ => True)) ∧ (∃ zx : Unit, (fun _ => True) zx) ∧ ∀ _ : Unit, (True) → ∀ b5 : Nat, b5 = b5 ∧ (none : Option Nat) = none ∧ b5 = b5 ∧ (none : Option Nat) = none ∧ b5 = b5 ∧ (none : Option Nat) = none ∧ b5 = b5 ∧ (none : Option Nat) = none ∧ b1 = b1 ∧ (none : Option Nat) = none ∧ b1 = b1 ∧ (none : Option Nat) = none ∧ b1 = b1 ∧ (none : Option Nat) = none ∧ b1 = b1 ∧ (none : Option Nat) = none ∧ b5 = b5 ∧ (none : Option Nat) = none ∧ b5 = b5 ∧ (none : Option Nat) = none ∧ b5 = b5 ∧ (none : Option Nat) = none ∧ b5 = b5 ∧ (none : Option Nat) = none ∧ (CallT Try.prog 6 #[vI a, vI (1 : Int)] [] (Int × Int) (fun zx => .tuple #[vI zx.1, .int .i64 zx.2]) (fun _ => []) (fun zx => R4 zx.1 ∧ zx = hAdd (num (vI a)) (num (vI (1 : Int))))) ∧ (∃ zx : Int × Int, (fun zx => R4 zx.1 ∧ zx = hAdd (num (vI a)) (num (vI (1 : Int)))) zx) ∧ ∀ x6 : Int × Int, (R4 x6.1 ∧ x6 = hAdd (num (vI a)) (num (vI (1 : Int)))) → b3 = b3 ∧ (none : Option Nat) = none ∧ b3 = b3 ∧ (none : Option Nat) = none ∧ b3 = b3 ∧ (none : Option Nat) = none ∧ b3 = b3 ∧ (none : Option Nat) = none ∧ b2 = b2 ∧ (none : Option Nat) = none ∧ b2 = b2 ∧ (none : Option Nat) = none ∧ b2 = b2 ∧ (none : Option Nat) = none ∧ b2 = b2 ∧ (none : Option Nat) = none ∧ b5 = b5 ∧ (none : Option Nat) = none ∧ b5 = b5 ∧ (none : Option Nat) = none ∧ b5 = b5 ∧ (none : Option Nat) = none ∧ b5 = b5 ∧ (none : Option Nat) = none ∧ (CallT Try.prog 6 #[vI b, vI (1 : Int)] [] (Int × Int) (fun zx => .tuple #[vI zx.1, .int .i64 zx.2]) (fun _ => []) (fun zx => R4 zx.1 ∧ zx = hAdd (num (vI b)) (num (vI (1 : Int))))) ∧ (∃ zx : Int × Int, (fun zx => R4 zx.1 ∧ zx = hAdd (num (vI b)) (num (vI (1 : Int)))) zx) ∧ ∀ x7 : Int × Int, (R4 x7.1 ∧ x7 = hAdd (num (vI b)) (num (vI (1 : Int)))) → b4 = b4 ∧ (none : Option Nat) = none ∧ b4 = b4 ∧ (none : Option Nat) = none ∧ b4 = b4 ∧ (none : Option Nat) = none ∧ b4 = b4 ∧ (none : Option Nat) = none ∧ b3 = b3 ∧ (none : Option Nat) = none ∧ b3 = b3 ∧ (none : Option Nat) = none ∧ b3 = b3 ∧ (none : Option Nat) = none ∧ b3 = b3 ∧ (none : Option Nat) = none ∧ b4 = b4 ∧ (none : Option Nat) = none ∧ b4 = b4 ∧ (none : Option Nat) = none ∧ b4 = b4 ∧ (none : Option Nat) = none ∧ b4 = b4 ∧ (none : Option Nat) = none ∧ b3 = b3 ∧ (none : Option Nat) = none ∧ b3 = b3 ∧ (none : Option Nat) = none ∧ b3 = b3 ∧ (none : Option Nat) = none ∧ b3 = b3 ∧ (none : Option Nat) = none ∧ b4 = b4 ∧ (none : Option Nat) = none ∧ b4 = b4 ∧ (none : Option Nat) = none ∧ b4 = b4 ∧ (none : Option Nat) = none ∧ b4 = b4 ∧ (none : Option Nat) = none ∧ b3 = b3 ∧ (none : Option Nat) = none ∧ b3 = b3 ∧ (none : Option Nat) = none ∧ b3 = b3 ∧ (none : Option Nat) = none ∧ b3 = b3 ∧ (none : Option Nat) = none ∧ b4 = b4 ∧ (none : Option Nat) = none ∧ b4 = b4 ∧ (none : Option Nat) = none ∧ b4 = b4 ∧ (none : Option Nat) = none ∧ b4 = b4 ∧ (none : Option Nat) = none ∧ ∃ zx : Int × Int × Int, (R4 zx.1 ∧ R4 zx.2.1 ∧ zx = sMore (num (vI a)) (num (vI b))) ∧ Value.tuple #[vI x6.1, vI x7.1, .int .i64 (if x7.2 > x6.2 then x7.2 else x6.2)] = .tuple #[vI zx.1, vI zx.2.1, .int .i64 zx.2.2] ∧ True) := by kernel_rfl
set_option maxRecDepth 100000 in
theorem share_more (a : Int) (b : Int) (r_a : R4 a) (r_b : R4 b) : CallT Try.prog 25 #[vI a, vI b] [] (Int × Int × Int) (fun zx => .tuple #[vI zx.1, vI zx.2.1, .int .i64 zx.2.2]) (fun zx => []) (fun zx => (R4 zx.1 ∧ R4 zx.2.1 ∧ zx = sMore (num (vI a)) (num (vI b)))) := by
  refine call_of (c := bodyOf Try.f25) (n := 27) (fn := Try.f25) Try.mixed Try.func25 (by kernel_rfl) (by kernel_rfl) (by kernel_rfl) 2000 _ [.rd 2, .rd 2, .rd 2, .rd 2, .rd 3, .rd 3, .rd 3, .rd 3] [] rfl rfl (Eq.mpr (share_more_vc a b) ?_)
  intro b1
  intro b2
  intro b3
  intro b4
  refine ⟨huge_Of (1 : Int) (by first | assumption | exact W_lim _ _ | (unfold W; decide)), ⟨(), trivial⟩, ?_⟩
  intro _
  intro _
  intro b5
  refine ⟨rfl, rfl, rfl, rfl, rfl, rfl, rfl, rfl, ?_⟩
  refine ⟨rfl, rfl, rfl, rfl, rfl, rfl, rfl, rfl, rfl, rfl, rfl, rfl, rfl, rfl, rfl, rfl, huge_Add a (1 : Int) (by assumption) (by unfold R4; decide), ⟨hAdd (num (vI a)) (num (vI (1 : Int))), hAdd_R (R4_num _) (R4_num _), rfl⟩, ?_⟩
  intro x6
  intro h1
  obtain ⟨rh1_1, h1⟩ := h1
  try simp only [num_vI (n := a) (by assumption), num_vI (n := (1 : Int)) (by unfold R4; decide)] at h1
  have h1 := h1
  refine ⟨rfl, rfl, rfl, rfl, rfl, rfl, rfl, rfl, ?_⟩
  refine ⟨rfl, rfl, rfl, rfl, rfl, rfl, rfl, rfl, rfl, rfl, rfl, rfl, rfl, rfl, rfl, rfl, huge_Add b (1 : Int) (by assumption) (by unfold R4; decide), ⟨hAdd (num (vI b)) (num (vI (1 : Int))), hAdd_R (R4_num _) (R4_num _), rfl⟩, ?_⟩
  intro x7
  intro h2
  obtain ⟨rh2_1, h2⟩ := h2
  try simp only [num_vI (n := b) (by assumption), num_vI (n := (1 : Int)) (by unfold R4; decide)] at h2
  have h2 := h2
  refine ⟨rfl, rfl, rfl, rfl, rfl, rfl, rfl, rfl, ?_⟩
  refine ⟨rfl, rfl, rfl, rfl, rfl, rfl, rfl, rfl, rfl, rfl, rfl, rfl, rfl, rfl, rfl, rfl, rfl, rfl, rfl, rfl, rfl, rfl, rfl, rfl, rfl, rfl, rfl, rfl, rfl, rfl, rfl, rfl, ?_⟩
  refine ⟨rfl, rfl, rfl, rfl, rfl, rfl, rfl, rfl, rfl, rfl, rfl, rfl, rfl, rfl, rfl, rfl, ?_⟩
  exact ⟨sMore a b, ⟨(sMore_R r_a r_b).1, (sMore_R r_a r_b).2, by rw [num_vI r_a, num_vI r_b]⟩, by subst h1 h2; rfl, trivial⟩

def share_In_C : List Value → List Slot → Ctr := fun vs hs => ⟨Int × Int, fun zx => .tuple #[vI zx.1, .int .i64 zx.2], fun _ => hs, fun zx => R4 zx.1 ∧ zx = sIn (num (varg vs 1)) (num (varg vs 2)) (num (varg vs 3))⟩
set_option maxRecDepth 100000 in
set_option maxHeartbeats 1000000 in
theorem share_In_vc (A : Int) (S : Int) (n : Int) : codeW Try.prog 66 none 2000 none (bodyOf Try.f12) (.reg [.sem [.nw 0], .sem [.nw 1], .sem [.nw 2], .sem [.nw 3], .sem []] (.reg [.sem [.rd 2, .rd 2, .rd 2, .rd 2], .sem [], .eq (f_eq)] (.cond (.reg [.sem [.rd 2, .rd 2, .rd 2, .rd 2], .sem [.wr 3, .wr 3, .wr 3, .wr 3], .sem []] (.done)) (.reg [.sem [.rd 0, .rd 0, .rd 0, .rd 0], .sem [.rd 1, .rd 1, .rd 1, .rd 1], .callr [] share_more_C, .sem [], .sem [], .sem [], .sem [], .sem [.nw 4], .sem [.nw 5], .sem [.wr 4, .wr 4, .wr 4, .wr 4], .sem [.wr 5, .wr 5, .wr 5, .wr 5], .sem []] (.reg [.sem [], .sem []] (.cond (.reg [.sem [], .sem [], .sem [.wr 3, .wr 3, .wr 3, .wr 3], .sem []] (.done)) (.reg [.sem [.rd 2, .rd 2, .rd 2, .rd 2], .sem [.rd 5, .rd 5, .rd 5, .rd 5], .sem [.rd 4, .rd 4, .rd 4, .rd 4], .callr [] wide_MulDiv_C, .sem [], .sem [], .sem [], .sem [.nw 6], .sem [.wr 6, .wr 6, .wr 6, .wr 6], .sem []] (.reg [.sem [], .sem [], .sem []] (.cond (.reg [.sem [], .sem [], .sem [.wr 3, .wr 3, .wr 3, .wr 3], .sem []] (.done)) (.reg [.sem [.rd 6, .rd 6, .rd 6, .rd 6], .sem [], .eq (f_eq), .sem []] (.cond (.reg [.sem [.rd 6, .rd 6, .rd 6, .rd 6], .sem [.wr 3, .wr 3, .wr 3, .wr 3], .sem []] (.done)) (.reg [.sem [.rd 0, .rd 0, .rd 0, .rd 0], .sem [.rd 2, .rd 2, .rd 2, .rd 2], .callr [] huge_Add_C, .sem [], .sem [], .sem [], .sem []] (.reg [.sem [.rd 1, .rd 1, .rd 1, .rd 1], .sem [.rd 6, .rd 6, .rd 6, .rd 6], .callr [] huge_Add_C, .sem [], .sem [], .sem [], .sem [.nw 7], .sem [.wr 7, .wr 7, .wr 7, .wr 7], .sem []] (.caseP (fun s => (ci (s.fr 10)) != (0 : Int)) (.reg [.sem [], .gen [] (one (.bool true)), .sem [], .no, .no, .sem []] (.condT (.reg [.sem [], .sem [.wr 3, .wr 3, .wr 3, .wr 3], .sem []] (.done)))) (.reg [.sem [], .gen [] (one (.bool false)), .sem [], .sem [], .sem [], .sem []] (.cond (.reg [.sem [], .sem [.wr 3, .wr 3, .wr 3, .wr 3], .sem []] (.done)) (.reg [.sem [.rd 6, .rd 6, .rd 6, .rd 6], .sem [.wr 3, .wr 3, .wr 3, .wr 3], .sem []] (.done))))))))))))))))))
    (init #[vI A, vI S, vI n] []) (finW Try.prog Try.f12 [.rd 3, .rd 3, .rd 3, .rd 3] [] (X := Int × Int) (fun zx => .tuple #[vI zx.1, .int .i64 zx.2]) (fun zx => []) (fun zx => (R4 zx.1 ∧ zx = sIn (num (vI A)) (num (vI S)) (num (vI n))))) =
    (∀ b1 : Nat, ∀ b2 : Nat, ∀ b3 : Nat, ∀ b4 : Nat, b3 = b3 ∧ (none : Option Nat) = none ∧ b3 = b3 ∧ (none : Option Nat) = none ∧ b3 = b3 ∧ (none : Option Nat) = none ∧ b3 = b3 ∧ (none : Option Nat) = none ∧ (PureRun Try.prog (xBin .eql 24 (vI n) (vI 0)) (.bool (num (vI n) == num (vI 0)))) ∧ ((num (vI n) == num (vI 0)) = true → b3 = b3 ∧ (none : Option Nat) = none ∧ b3 = b3 ∧ (none : Option Nat) = none ∧ b3 = b3 ∧ (none : Option Nat) = none ∧ b3 = b3 ∧ (none : Option Nat) = none ∧ b4 = b4 ∧ (none : Option Nat) = none ∧ b4 = b4 ∧ (none : Option Nat) = none ∧ b4 = b4 ∧ (none : Option Nat) = none ∧ b4 = b4 ∧ (none : Option Nat) = none ∧ b4 = b4 ∧ (none : Option Nat) = none ∧ b4 = b4 ∧ (none : Option Nat) = none ∧ b4 = b4 ∧ (none : Option Nat) = none ∧ b4 = b4 ∧ (none : Option Nat) = none ∧ ∃ zx : Int × Int, (R4 zx.1 ∧ zx = sIn (num (vI A)) (num (vI S)) (num (vI n))) ∧ Value.tuple #[vI n, .int .i64 3] = .tuple #[vI zx.1, .int .i64 zx.2] ∧ True) ∧ ((num (vI n) == num (vI 0)) = false → b1 = b1 ∧ (none : Option Nat) = none ∧ b1 = b1 ∧ (none : Option Nat) = none ∧ b1 = b1 ∧ (none : Option Nat) = none ∧ b1 = b1 ∧ (none : Option Nat) = none ∧ b2 = b2 ∧ (none : Option Nat) = none ∧ b2 = b2 ∧ (none : Option Nat) = none ∧ b2 = b2 ∧ (none : Option Nat) = none ∧ b2 = b2 ∧ (none : Option Nat) = none ∧ (CallT Try.prog 25 #[vI A, vI S] [] (Int × Int × Int) (fun zx => .tuple #[vI zx.1, vI zx.2.1, .int .i64 zx.2.2]) (fun _ => []) (fun zx => R4 zx.1 ∧ R4 zx.2.1 ∧ zx = sMore (num (vI A)) (num (vI S)))) ∧ (∃ zx : Int × Int × Int, (fun zx => R4 zx.1 ∧ R4 zx.2.1 ∧ zx = sMore (num (vI A)) (num (vI S))) zx) ∧ ∀ x5 : Int × Int × Int, (R4 x5.1 ∧ R4 x5.2.1 ∧ x5 = sMore (num (vI A)) (num (vI S))) → ∀ b6 : Nat, ∀ b7 : Nat, b6 = b6 ∧ (none : Option Nat) = none ∧ b6 = b6 ∧ (none : Option Nat) = none ∧ b6 = b6 ∧ (none : Option Nat) = none ∧ b6 = b6 ∧ (none : Option Nat) = none ∧ b7 = b7 ∧ (none : Option Nat) = none ∧ b7 = b7 ∧ (none : Option Nat) = none ∧ b7 = b7 ∧ (none : Option Nat) = none ∧ b7 = b7 ∧ (none : Option Nat) = none ∧ ((x5.2.2 != (0 : Int)) = true → b4 = b4 ∧ (none : Option Nat) = none ∧ b4 = b4 ∧ (none : Option Nat) = none ∧ b4 = b4 ∧ (none : Option Nat) = none ∧ b4 = b4 ∧ (none : Option Nat) = none ∧ b4 = b4 ∧ (none : Option Nat) = none ∧ b4 = b4 ∧ (none : Option Nat) = none ∧ b4 = b4 ∧ (none : Option Nat) = none ∧ b4 = b4 ∧ (none : Option Nat) = none ∧ ∃ zx : Int × Int, (R4 zx.1 ∧ zx = sIn (num (vI A)) (num (vI S)) (num (vI n))) ∧ Value.tuple #[.agg #[.int .u64 0, .int .u64 0, .int .u64 0, .int .u64 0], .int .i64 x5.2.2] = .tuple #[vI zx.1, .int .i64 zx.2] ∧ True) ∧ ((x5.2.2 != (0 : Int)) = false → b3 = b3 ∧ (none : Option Nat) = none ∧ b3 = b3 ∧ (none : Option Nat) = none ∧ b3 = b3 ∧ (none : Option Nat) = none ∧ b3 = b3 ∧ (none : Option Nat) = none ∧ b7 = b7 ∧ (none : Option Nat) = none ∧ b7 = b7 ∧ (none : Option Nat) = none ∧ b7 = b7 ∧ (none : Option Nat) = none ∧ b7 = b7 ∧ (none : Option Nat) = none ∧ b6 = b6 ∧ (none : Option Nat) = none ∧ b6 = b6 ∧ (none : Option Nat) = none ∧ b6 = b6 ∧ (none : Option Nat) = none ∧ b6 = b6 ∧ (none : Option Nat) = none ∧ (CallT Try.prog 17 #[vI n, vI x5.2.1, vI x5.1] [] (Int × Int) (fun zx => .tuple #[vI zx.1, .int .i64 zx.2]) (fun _ => []) (fun zx => R4 zx.1 ∧ zx = wMulDiv (num (vI n)) (num (vI x5.2.1)) (num (vI x5.1)))) ∧ (∃ zx : Int × Int, (fun zx => R4 zx.1 ∧ zx = wMulDiv (num (vI n)) (num (vI x5.2.1)) (num (vI x5.1))) zx) ∧ ∀ x8 : Int × Int, (R4 x8.1 ∧ x8 = wMulDiv (num (vI n)) (num (vI x5.2.1)) (num (vI x5.1))) → ∀ b9 : Nat, b9 = b9 ∧ (none : Option Nat) = none ∧ b9 = b9 ∧ (none : Option Nat) = none ∧ b9 = b9 ∧ (none : Option Nat) = none ∧ b9 = b9 ∧ (none : Option Nat) = none ∧ ((x8.2 != (0 : Int)) = true → b4 = b4 ∧ (none : Option Nat) = none ∧ b4 = b4 ∧ (none : Option Nat) = none ∧ b4 = b4 ∧ (none : Option Nat) = none ∧ b4 = b4 ∧ (none : Option Nat) = none ∧ b4 = b4 ∧ (none : Option Nat) = none ∧ b4 = b4 ∧ (none : Option Nat) = none ∧ b4 = b4 ∧ (none : Option Nat) = none ∧ b4 = b4 ∧ (none : Option Nat) = none ∧ ∃ zx : Int × Int, (R4 zx.1 ∧ zx = sIn (num (vI A)) (num (vI S)) (num (vI n))) ∧ Value.tuple #[.agg #[.int .u64 0, .int .u64 0, .int .u64 0, .int .u64 0], .int .i64 x8.2] = .tuple #[vI zx.1, .int .i64 zx.2] ∧ True) ∧ ((x8.2 != (0 : Int)) = false → b9 = b9 ∧ (none : Option Nat) = none ∧ b9 = b9 ∧ (none : Option Nat) = none ∧ b9 = b9 ∧ (none : Option Nat) = none ∧ b9 = b9 ∧ (none : Option Nat) = none ∧ (PureRun Try.prog (xBin .eql 24 (vI x8.1) (vI 0)) (.bool (num (vI x8.1) == num (vI 0)))) ∧ ((num (vI x8.1) == num (vI 0)) = true → b9 = b9 ∧ (none : Option Nat) = none ∧ b9 = b9 ∧ (none : Option Nat) = none ∧ b9 = b9 ∧ (none : Option Nat) = none ∧ b9 = b9 ∧ (none : Option Nat) = none ∧ b4 = b4 ∧ (none : Option Nat) = none ∧ b4 = b4 ∧ (none : Option Nat) = none ∧ b4 = b4 ∧ (none : Option Nat) = none ∧ b4 = b4 ∧ (none : Option Nat) = none ∧ b4 = b4 ∧ (none : Option Nat) = none ∧ b4 = b4 ∧ (none : Option Nat) = none ∧ b4 = b4 ∧ (none : Option Nat) = none ∧ b4 = b4 ∧ (none : Option Nat) = none ∧ ∃ zx : Int × Int, (R4 zx.1 ∧ zx = sIn (num (vI A)) (num (vI S)) (num (vI n))) ∧ Value.tuple #[vI x8.1, .int .i64 3] = .tuple #[vI zx.1, .int .i64 zx.2] ∧ True) ∧ ((num (vI x8.1) == num (vI 0)) = false → b1 = b1 ∧ (none : Option Nat) = none ∧ b1 = b1 ∧ (none : Option Nat) = none ∧ b1 = b1 ∧ (none : Option Nat) = none ∧ b1 = b1 ∧ (none : Option Nat) = none ∧ b3 = b3 ∧ (none : Option Nat) = none ∧ b3 = b3 ∧ (none : Option Nat) = none ∧ b3 = b3 ∧ (none : Option Nat) = none ∧ b3 = b3 ∧ (none : Option Nat) = none ∧ (CallT Try.prog 6 #[vI A, vI n] [] (Int × Int) (fun zx => .tuple #[vI zx.1, .int .i64 zx.2]) (fun _ => []) (fun zx => R4 zx.1 ∧ zx = hAdd (num (vI A)) (num (vI n)))) ∧ (∃ zx : Int × Int, (fun zx => R4 zx.1 ∧ zx = hAdd (num (vI A)) (num (vI n))) zx) ∧ ∀ x10 : Int × Int, (R4 x10.1 ∧ x10 = hAdd (num (vI A)) (num (vI n))) → b2 = b2 ∧ (none : Option Nat) = none ∧ b2 = b2 ∧ (none : Option Nat) = none ∧ b2 = b2 ∧ (none : Option Nat) = none ∧ b2 = b2 ∧ (none : Option Nat) = none ∧ b9 = b9 ∧ (none : Option Nat) = none ∧ b9 = b9 ∧ (none : Option Nat) = none ∧ b9 = b9 ∧ (none : Option Nat) = none ∧ b9 = b9 ∧ (none : Option Nat) = none ∧ (CallT Try.prog 6 #[vI S, vI x8.1] [] (Int × Int) (fun zx => .tuple #[vI zx.1, .int .i64 zx.2]) (fun _ => []) (fun zx => R4 zx.1 ∧ zx = hAdd (num (vI S)) (num (vI x8.1)))) ∧ (∃ zx : Int × Int, (fun zx => R4 zx.1 ∧ zx = hAdd (num (vI S)) (num (vI x8.1))) zx) ∧ ∀ x11 : Int × Int, (R4 x11.1 ∧ x11 = hAdd (num (vI S)) (num (vI x8.1))) → ∀ b12 : Nat, b12 = b12 ∧ (none : Option Nat) = none ∧ b12 = b12 ∧ (none : Option Nat) = none ∧ b12 = b12 ∧ (none : Option Nat) = none ∧ b12 = b12 ∧ (none : Option Nat) = none ∧ ((x10.2 != (0 : Int)) = true → (∃ _ : Unit, True ∧ Value.bool (x10.2 != (0 : Int)) = .bool true) ∧ ∀ _ : Unit, (True) → true = !false ∧ true = !false ∧ (true = true) ∧ b4 = b4 ∧ (none : Option Nat) = none ∧ b4 = b4 ∧ (none : Option Nat) = none ∧ b4 = b4 ∧ (none : Option Nat) = none ∧ b4 = b4 ∧ (none : Option Nat) = none ∧ b4 = b4 ∧ (none : Option Nat) = none ∧ b4 = b4 ∧ (none : Option Nat) = none ∧ b4 = b4 ∧ (none : Option Nat) = none ∧ b4 = b4 ∧ (none : Option Nat) = none ∧ ∃ zx : Int × Int, (R4 zx.1 ∧ zx = sIn (num (vI A)) (num (vI S)) (num (vI n))) ∧ Value.tuple #[.agg #[.int .u64 0, .int .u64 0, .int .u64 0, .int .u64 0], .int .i64 2] = .tuple #[vI zx.1, .int .i64 zx.2] ∧ True) ∧ ((x10.2 != (0 : Int)) = false → (∃ _ : Unit, True ∧ Value.bool (x10.2 != (0 : Int)) = .bool false) ∧ ∀ _ : Unit, (True) → false = false ∧ false = false ∧ ((x11.2 != (0 : Int)) = true → b4 = b4 ∧ (none : Option Nat) = none ∧ b4 = b4 ∧ (none : Option Nat) = none ∧ b4 = b4 ∧ (none : Option Nat) = none ∧ b4 = b4 ∧ (none : Option Nat) = none ∧ b4 = b4 ∧ (none : Option Nat) = none ∧ b4 = b4 ∧ (none : Option Nat) = none ∧ b4 = b4 ∧ (none : Option Nat) = none ∧ b4 = b4 ∧ (none : Option Nat) = none ∧ ∃ zx : Int × Int, (R4 zx.1 ∧ zx = sIn (num (vI A)) (num (vI S)) (num (vI n))) ∧ Value.tuple #[.agg #[.int .u64 0, .int .u64 0, .int .u64 0, .int .u64 0], .int .i64 2] = .tuple #[vI zx.1, .int .i64 zx.2] ∧ True) ∧ ((x11.2 != (0 : Int)) = false → b9 = b9 ∧ (none : Option Nat) = none ∧ b9 = b9 ∧ (none : Option Nat) = none ∧ b9 = b9 ∧ (none : Option Nat) = none ∧ b9 = b9 ∧ (none : Option Nat) = none ∧ b4 = b4 ∧ (none : Option Nat) = none ∧ b4 = b4 ∧ (none : Option Nat) = none ∧ b4 = b4 ∧ (none : Option Nat) = none ∧ b4 = b4 ∧ (none : Option Nat) = none ∧ b4 = b4 ∧ (none : Option Nat) = none ∧ b4 = b4 ∧ (none : Option Nat) = none ∧ b4 = b4 ∧ (none : Option Nat) = none ∧ b4 = b4 ∧ (none : Option Nat) = none ∧ ∃ zx : Int × Int, (R4 zx.1 ∧ zx = sIn (num (vI A)) (num (vI S)) (num (vI n))) ∧ Value.tuple #[vI x8.1, .int .i64 0] = .tuple #[vI zx.1, .int .i64 zx.2] ∧ True))))))) := by kernel_rfl
end Go.Proofs
