/- Contracts of this program's functions, and their proofs, printed by a program of the prover's own (see the claim's other texts for what the words mean). -/
import Derived.Test.YtohkmdnelbajiaaL16BackC2
set_option linter.unusedVariables false
set_option linter.unusedSimpArgs false
namespace Go.Proofs
open Go.Sx
set_option maxRecDepth 100000 in
set_option maxHeartbeats 4000000 in
theorem wide_Divide (n : Int) (d : Int) (r_n : R8 n) (r_d : R4 d) : CallT Try.prog 32 #[vW n, vI d] [] (Int × Int × Int) (fun zx => .tuple #[vW zx.1, vI zx.2.1, .int .i64 zx.2.2]) (fun zx => []) (fun zx => (R8 zx.1 ∧ R4 zx.2.1 ∧ zx = wDiv (num (vW n)) (num (vI d)))) := by
  refine call_of (c := bodyOf Try.f32) (n := 83) (fn := Try.f32) Try.mixed Try.func32 (by kernel_rfl) (by kernel_rfl) (by kernel_rfl) 2000 _ [.rd 2, .rd 2, .rd 2, .rd 2, .rd 2, .rd 2, .rd 2, .rd 2, .rd 3, .rd 3, .rd 3, .rd 3] [] rfl rfl (Eq.mpr (wide_Divide_vc n d) ?_)
  intro b1
  intro b2
  intro b3
  intro b4
  refine ⟨rfl, rfl, rfl, rfl, rfl, rfl, rfl, ?_⟩
  refine ⟨fun h1 => ?_, fun h1 => ?_⟩
  · refine ⟨rfl, rfl, rfl, rfl, rfl, rfl, rfl, ?_⟩
    refine ⟨fun h2 => ?_, fun h2 => ?_⟩
    · refine ⟨rfl, rfl, rfl, rfl, rfl, rfl, rfl, ?_⟩
      refine ⟨fun h3 => ?_, fun h3 => ?_⟩
      · refine ⟨rfl, rfl, rfl, rfl, rfl, rfl, rfl, ?_⟩
        refine ⟨fun h4 => ?_, fun h4 => ?_⟩
        · refine ⟨rfl, rfl, rfl, rfl, rfl, ?_⟩
          refine ⟨rfl, ?_⟩
          refine ⟨rfl, ?_⟩
          refine ⟨rfl, rfl, rfl, rfl, rfl, rfl, rfl, rfl, rfl, rfl, rfl, rfl, rfl, rfl, rfl, rfl, rfl, rfl, rfl, rfl, rfl, rfl, rfl, rfl, rfl, rfl, rfl, rfl, rfl, rfl, rfl, rfl, rfl, rfl, rfl, rfl, rfl, rfl, rfl, rfl, rfl, rfl, rfl, rfl, rfl, rfl, rfl, rfl, ?_⟩
          refine ⟨rfl, rfl, rfl, rfl, rfl, rfl, rfl, rfl, rfl, rfl, rfl, rfl, rfl, rfl, rfl, rfl, rfl, rfl, rfl, rfl, rfl, rfl, rfl, rfl, ?_⟩
          have hd : d = 0 := by
            have e := lims d
            rw [num_vI r_d] at e
            simp only [beq_iff_eq] at *
            omega
          exact fin3 (by rw [num_vI r_d, hd]; rfl) ⟨by decide, by decide⟩ R4_zero vW_zero vI_zero
        · refine ⟨rfl, ?_⟩
          refine ⟨rfl, rfl, limb_Len (lim d 0) (by first | assumption | exact W_lim _ _ | (unfold W; decide)), ⟨(), trivial⟩, ?_⟩
          intro _
          intro _
          refine ⟨⟨(), trivial, congrArg (Value.int .i64) (nrm_s (W_lim _ _) (by assumption))⟩, ?_⟩
          intro _
          intro _
          intro b5
          intro b6
          refine ⟨wide_up98 b5 b1 (lim n 0) (lim n 1) (lim n 2) (lim n 3) (lim n 4) (lim n 5) (lim n 6) (lim n 7) ((nrm (lim d 0) : Nat) : Int) (nrm_0 _) (nrm_63 (W_lim _ _) (by assumption)) (W_lim _ _) (W_lim _ _) (W_lim _ _) (W_lim _ _) (W_lim _ _) (W_lim _ _) (W_lim _ _) (W_lim _ _), wit_up98 (nrm_0 _) (nrm_63 (W_lim _ _) (by assumption)) (W_lim _ _) (W_lim _ _) (W_lim _ _) (W_lim _ _) (W_lim _ _) (W_lim _ _) (W_lim _ _) (W_lim _ _), ?_⟩
          intro x7
          intro h5
          obtain ⟨E, wx0, wx1, wx2, wx3, wx4, wx5, wx6, wx7, wx8⟩ := h5
          refine ⟨wide_up1 b6 b2 (lim d 0) (lim d 1) (lim d 2) (lim d 3) ((nrm (lim d 0) : Nat) : Int) (nrm_0 _) (nrm_63 (W_lim _ _) (by assumption)) (W_lim _ _), wit_up1 (nrm_0 _) (nrm_63 (W_lim _ _) (by assumption)) (W_lim _ _), ?_⟩
          intro x8
          intro h6
          obtain ⟨F, wz0⟩ := h6
          obtain ⟨N1, N2, N3⟩ := norm1 (W_lim _ _) (by assumption) wz0  F
          obtain ⟨p, q, hp', hq', hp, hq, hpq, hp2, ht, h0, e1, e2⟩ := nrm_top (W_lim d 0) (by assumption)
          have n63 := nrm_63 (W_lim d 0) (by assumption)
          rw [e1, lims8 r_n] at E
          rw [← hp'] at N1
          have hVk : x8 < 18446744073709551616 := by unfold W at wz0; omega
          have V0 : 0 < x8 := by omega
          have hlt7 := first1 r_n hp hp2 wx0 wx1 wx2 wx3 wx4 wx5 wx6 wx7 wx8 E N2
          refine ⟨rfl, ?_⟩
          refine ⟨wide_step1 b5 (#[.int .u64 x7.1, .int .u64 x7.2.1, .int .u64 x7.2.2.1, .int .u64 x7.2.2.2.1, .int .u64 x7.2.2.2.2.1, .int .u64 x7.2.2.2.2.2.1, .int .u64 x7.2.2.2.2.2.2.1, .int .u64 x7.2.2.2.2.2.2.2.1, .int .u64 x7.2.2.2.2.2.2.2.2]) 7 2 x7.2.2.2.2.2.2.2.1 x7.2.2.2.2.2.2.2.2 b6 x8 (Nat.le_of_ble_eq_true rfl) (rfl) (rfl) (by assumption) (by assumption) (by assumption) (hlt7) (N3), wit_step1 (nn2 (by assumption) (by assumption)) hlt7 V0 hVk, ?_⟩
          intro x9
          intro h7
          obtain ⟨h7, h7_0, h7_1⟩ := h7
          have A7 := h7.eq
          obtain ⟨hu6, hlt6⟩ := next1 (x := x7.2.2.2.2.2.2.1) h7 wx6 h7_0 h7_1 hVk
          have wqh7 := h7.wq
          refine ⟨rfl, rfl, ?_⟩
          refine ⟨rfl, ?_⟩
          refine ⟨wide_step1 b5 (#[.int .u64 x7.1, .int .u64 x7.2.1, .int .u64 x7.2.2.1, .int .u64 x7.2.2.2.1, .int .u64 x7.2.2.2.2.1, .int .u64 x7.2.2.2.2.2.1, .int .u64 x7.2.2.2.2.2.2.1, .int .u64 x9.2.1, .int .u64 x9.2.2]) 6 3 x7.2.2.2.2.2.2.1 x9.2.1 b6 x8 (Nat.le_of_ble_eq_true rfl) (rfl) (rfl) (by assumption) (by assumption) (by assumption) (hlt6) (N3), wit_step1 (nn2 (by assumption) (by assumption)) hlt6 V0 hVk, ?_⟩
          intro x10
          intro h8
          obtain ⟨h8, h8_0, h8_1⟩ := h8
          rw [hu6] at h8
          have A6 := chain_step A7 h8
          obtain ⟨hu5, hlt5⟩ := next1 (x := x7.2.2.2.2.2.1) h8 wx5 h8_0 h8_1 hVk
          have wqh8 := h8.wq
          refine ⟨rfl, rfl, ?_⟩
          refine ⟨rfl, ?_⟩
          refine ⟨wide_step1 b5 (#[.int .u64 x7.1, .int .u64 x7.2.1, .int .u64 x7.2.2.1, .int .u64 x7.2.2.2.1, .int .u64 x7.2.2.2.2.1, .int .u64 x7.2.2.2.2.2.1, .int .u64 x10.2.1, .int .u64 x10.2.2, .int .u64 x9.2.2]) 5 4 x7.2.2.2.2.2.1 x10.2.1 b6 x8 (Nat.le_of_ble_eq_true rfl) (rfl) (rfl) (by assumption) (by assumption) (by assumption) (hlt5) (N3), wit_step1 (nn2 (by assumption) (by assumption)) hlt5 V0 hVk, ?_⟩
          intro x11
          intro h9
          obtain ⟨h9, h9_0, h9_1⟩ := h9
          rw [hu5] at h9
          have A5 := chain_step A6 h9
          obtain ⟨hu4, hlt4⟩ := next1 (x := x7.2.2.2.2.1) h9 wx4 h9_0 h9_1 hVk
          have wqh9 := h9.wq
          refine ⟨rfl, rfl, ?_⟩
          refine ⟨rfl, ?_⟩
          refine ⟨wide_step1 b5 (#[.int .u64 x7.1, .int .u64 x7.2.1, .int .u64 x7.2.2.1, .int .u64 x7.2.2.2.1, .int .u64 x7.2.2.2.2.1, .int .u64 x11.2.1, .int .u64 x11.2.2, .int .u64 x10.2.2, .int .u64 x9.2.2]) 4 5 x7.2.2.2.2.1 x11.2.1 b6 x8 (Nat.le_of_ble_eq_true rfl) (rfl) (rfl) (by assumption) (by assumption) (by assumption) (hlt4) (N3), wit_step1 (nn2 (by assumption) (by assumption)) hlt4 V0 hVk, ?_⟩
          intro x12
          intro h10
          obtain ⟨h10, h10_0, h10_1⟩ := h10
          rw [hu4] at h10
          have A4 := chain_step A5 h10
          obtain ⟨hu3, hlt3⟩ := next1 (x := x7.2.2.2.1) h10 wx3 h10_0 h10_1 hVk
          have wqh10 := h10.wq
          refine ⟨rfl, rfl, ?_⟩
          refine ⟨rfl, ?_⟩
          refine ⟨wide_step1 b5 (#[.int .u64 x7.1, .int .u64 x7.2.1, .int .u64 x7.2.2.1, .int .u64 x7.2.2.2.1, .int .u64 x12.2.1, .int .u64 x12.2.2, .int .u64 x11.2.2, .int .u64 x10.2.2, .int .u64 x9.2.2]) 3 6 x7.2.2.2.1 x12.2.1 b6 x8 (Nat.le_of_ble_eq_true rfl) (rfl) (rfl) (by assumption) (by assumption) (by assumption) (hlt3) (N3), wit_step1 (nn2 (by assumption) (by assumption)) hlt3 V0 hVk, ?_⟩
          intro x13
          intro h11
          obtain ⟨h11, h11_0, h11_1⟩ := h11
          rw [hu3] at h11
          have A3 := chain_step A4 h11
          obtain ⟨hu2, hlt2⟩ := next1 (x := x7.2.2.1) h11 wx2 h11_0 h11_1 hVk
          have wqh11 := h11.wq
          refine ⟨rfl, rfl, ?_⟩
          refine ⟨rfl, ?_⟩
          refine ⟨wide_step1 b5 (#[.int .u64 x7.1, .int .u64 x7.2.1, .int .u64 x7.2.2.1, .int .u64 x13.2.1, .int .u64 x13.2.2, .int .u64 x12.2.2, .int .u64 x11.2.2, .int .u64 x10.2.2, .int .u64 x9.2.2]) 2 7 x7.2.2.1 x13.2.1 b6 x8 (Nat.le_of_ble_eq_true rfl) (rfl) (rfl) (by assumption) (by assumption) (by assumption) (hlt2) (N3), wit_step1 (nn2 (by assumption) (by assumption)) hlt2 V0 hVk, ?_⟩
          intro x14
          intro h12
          obtain ⟨h12, h12_0, h12_1⟩ := h12
          rw [hu2] at h12
          have A2 := chain_step A3 h12
          obtain ⟨hu1, hlt1⟩ := next1 (x := x7.2.1) h12 wx1 h12_0 h12_1 hVk
          have wqh12 := h12.wq
          refine ⟨rfl, rfl, ?_⟩
          refine ⟨rfl, ?_⟩
          refine ⟨wide_step1 b5 (#[.int .u64 x7.1, .int .u64 x7.2.1, .int .u64 x14.2.1, .int .u64 x14.2.2, .int .u64 x13.2.2, .int .u64 x12.2.2, .int .u64 x11.2.2, .int .u64 x10.2.2, .int .u64 x9.2.2]) 1 8 x7.2.1 x14.2.1 b6 x8 (Nat.le_of_ble_eq_true rfl) (rfl) (rfl) (by assumption) (by assumption) (by assumption) (hlt1) (N3), wit_step1 (nn2 (by assumption) (by assumption)) hlt1 V0 hVk, ?_⟩
          intro x15
          intro h13
          obtain ⟨h13, h13_0, h13_1⟩ := h13
          rw [hu1] at h13
          have A1 := chain_step A2 h13
          obtain ⟨hu0, hlt0⟩ := next1 (x := x7.1) h13 wx0 h13_0 h13_1 hVk
          have wqh13 := h13.wq
          refine ⟨rfl, rfl, ?_⟩
          refine ⟨rfl, ?_⟩
          refine ⟨wide_step1 b5 (#[.int .u64 x7.1, .int .u64 x15.2.1, .int .u64 x15.2.2, .int .u64 x14.2.2, .int .u64 x13.2.2, .int .u64 x12.2.2, .int .u64 x11.2.2, .int .u64 x10.2.2, .int .u64 x9.2.2]) 0 9 x7.1 x15.2.1 b6 x8 (Nat.le_of_ble_eq_true rfl) (rfl) (rfl) (by assumption) (by assumption) (by assumption) (hlt0) (N3), wit_step1 (nn2 (by assumption) (by assumption)) hlt0 V0 hVk, ?_⟩
          intro x16
          intro h14
          obtain ⟨h14, h14_0, h14_1⟩ := h14
          rw [hu0] at h14
          have A0 := chain_step A1 h14
          have wqh14 := h14.wq
          refine ⟨rfl, rfl, ?_⟩
          refine ⟨rfl, ?_⟩
          refine ⟨rfl, ?_⟩
          refine ⟨rfl, rfl, xshr (by omega), rfl, rfl, ⟨(), trivial, congrArg (Value.int .i64) (wrap_i64 _ (by omega) (by omega))⟩, ?_⟩
          intro _
          intro _
          refine ⟨xshl (by omega), rfl, rfl, ?_⟩
          refine ⟨rfl, ?_⟩
          refine ⟨rfl, rfl, rfl, rfl, rfl, rfl, rfl, rfl, rfl, rfl, rfl, rfl, rfl, rfl, rfl, rfl, rfl, rfl, rfl, rfl, rfl, rfl, rfl, rfl, rfl, rfl, rfl, rfl, rfl, rfl, rfl, rfl, rfl, rfl, rfl, rfl, rfl, rfl, rfl, rfl, rfl, rfl, rfl, rfl, rfl, rfl, rfl, rfl, ?_⟩
          refine ⟨rfl, rfl, rfl, rfl, rfl, rfl, rfl, rfl, rfl, rfl, rfl, rfl, rfl, rfl, rfl, rfl, rfl, rfl, rfl, rfl, rfl, rfl, rfl, rfl, ?_⟩
          have hD : lim d 0 = d := by
            have e := lims d
            rw [num_vI r_d] at e
            simp only [beq_iff_eq, beq_eq_false_iff_ne] at *
            omega
          rw [hD] at N1
          have A : ((x16.1 + 18446744073709551616 * (x15.1 + 18446744073709551616 * (x14.1 + 18446744073709551616 * (x13.1 + 18446744073709551616 * (x12.1 + 18446744073709551616 * (x11.1 + 18446744073709551616 * (x10.1 + 18446744073709551616 * x9.1)))))))) * (x8) + (x16.2.1 + 18446744073709551616 * x16.2.2) = n * p := by rw [← E]; rw [A0]; omega
          obtain ⟨G1, G2, G3⟩ := div_end A N1 h14.r0 h14.r1 hp
          have G4 := rest1 hp hq hpq hVk h14_0 h14_1 G2 h14.r1
          have c0 := down_or (x := x16.2.1) (y := x16.2.2) (s := ((nrm (lim d 0) : Nat) : Int)) (nrm_0 _) (nrm_63 (W_lim _ _) (by assumption)) h14_0 h14_1
          rw [e1, e2] at c0
          have cw0 := down_W (y := x16.2.2) hp hq hpq h14_0
          have W0 : W 0 := by unfold W; decide
          have Hq : num (.agg #[.int .u64 x16.1, .int .u64 x15.1, .int .u64 x14.1, .int .u64 x13.1, .int .u64 x12.1, .int .u64 x11.1, .int .u64 x10.1, .int .u64 x9.1]) = n / d := by rw [G1, num8]; omega
          have Hr : num (.agg #[.int .u64 (x16.2.1 / p + x16.2.2 * q % 18446744073709551616), .int .u64 0, .int .u64 0, .int .u64 0]) = n % d := by rw [← G4, num4]; omega
          have Hv := vW_num8 (show W x16.1 by first | assumption | exact W0) (show W x15.1 by first | assumption | exact W0) (show W x14.1 by first | assumption | exact W0) (show W x13.1 by first | assumption | exact W0) (show W x12.1 by first | assumption | exact W0) (show W x11.1 by first | assumption | exact W0) (show W x10.1 by first | assumption | exact W0) (show W x9.1 by first | assumption | exact W0)
          have Hw := vI_num4 cw0 W0 W0 W0
          rw [Hq] at Hv
          rw [Hr] at Hw
          refine fin3 (n := n / d) (r := n % d) (by rw [num_vW r_n, num_vI r_d]; unfold wDiv; rw [if_neg G3]) (Hq ▸ R8_num8 (by first | assumption | exact W0) (by first | assumption | exact W0) (by first | assumption | exact W0) (by first | assumption | exact W0) (by first | assumption | exact W0) (by first | assumption | exact W0) (by first | assumption | exact W0) (by first | assumption | exact W0)) (Hr ▸ R4_num4 cw0 W0 W0 W0) Hv ?_
          rw [Hw, c0]
      · refine ⟨rfl, ?_⟩
        refine ⟨rfl, rfl, limb_Len (lim d 1) (by first | assumption | exact W_lim _ _ | (unfold W; decide)), ⟨(), trivial⟩, ?_⟩
        intro _
        intro _
        refine ⟨⟨(), trivial, congrArg (Value.int .i64) (nrm_s (W_lim _ _) (by assumption))⟩, ?_⟩
        intro _
        intro _
        intro b17
        intro b18
        refine ⟨wide_up98 b17 b1 (lim n 0) (lim n 1) (lim n 2) (lim n 3) (lim n 4) (lim n 5) (lim n 6) (lim n 7) ((nrm (lim d 1) : Nat) : Int) (nrm_0 _) (nrm_63 (W_lim _ _) (by assumption)) (W_lim _ _) (W_lim _ _) (W_lim _ _) (W_lim _ _) (W_lim _ _) (W_lim _ _) (W_lim _ _) (W_lim _ _), wit_up98 (nrm_0 _) (nrm_63 (W_lim _ _) (by assumption)) (W_lim _ _) (W_lim _ _) (W_lim _ _) (W_lim _ _) (W_lim _ _) (W_lim _ _) (W_lim _ _) (W_lim _ _), ?_⟩
        intro x19
        intro h15
        obtain ⟨E, wx0, wx1, wx2, wx3, wx4, wx5, wx6, wx7, wx8⟩ := h15
        refine ⟨wide_up2 b18 b2 (lim d 0) (lim d 1) (lim d 2) (lim d 3) ((nrm (lim d 1) : Nat) : Int) (nrm_0 _) (nrm_63 (W_lim _ _) (by assumption)) (W_lim _ _) (W_lim _ _), wit_up2 (nrm_0 _) (nrm_63 (W_lim _ _) (by assumption)) (W_lim _ _) (W_lim _ _), ?_⟩
        intro x20
        intro h16
        obtain ⟨F, wz0, wz1⟩ := h16
        obtain ⟨N1, N2, N3⟩ := norm2 (W_lim _ _) (by assumption) wz0 wz1 (W_lim _ _) F
        obtain ⟨p, q, hp', hq', hp, hq, hpq, hp2, ht, h0, e1, e2⟩ := nrm_top (W_lim d 1) (by assumption)
        have n63 := nrm_63 (W_lim d 1) (by assumption)
        rw [e1, lims8 r_n] at E
        rw [← hp'] at N1
        have hVk : x20.1 + 18446744073709551616 * x20.2 < 340282366920938463463374607431768211456 := by unfold W at wz0 wz1; omega
        have V0 : 0 < x20.1 + 18446744073709551616 * x20.2 := by omega
        have hlt6 := first2 r_n hp hp2 wx0 wx1 wx2 wx3 wx4 wx5 wx6 wx7 wx8 E N2
        refine ⟨rfl, ?_⟩
        refine ⟨wide_step2 b17 (#[.int .u64 x19.1, .int .u64 x19.2.1, .int .u64 x19.2.2.1, .int .u64 x19.2.2.2.1, .int .u64 x19.2.2.2.2.1, .int .u64 x19.2.2.2.2.2.1, .int .u64 x19.2.2.2.2.2.2.1, .int .u64 x19.2.2.2.2.2.2.2.1, .int .u64 x19.2.2.2.2.2.2.2.2]) 6 3 x19.2.2.2.2.2.2.1 x19.2.2.2.2.2.2.2.1 x19.2.2.2.2.2.2.2.2 b18 x20.1 x20.2 (Nat.le_of_ble_eq_true rfl) (rfl) (rfl) (rfl) (by assumption) (by assumption) (by assumption) (by assumption) (by assumption) (hlt6) (N3), wit_step2 (nn3 (by assumption) (by assumption) (by assumption)) hlt6 V0 hVk, ?_⟩
        intro x21
        intro h17
        obtain ⟨h17, h17_0, h17_1, h17_2⟩ := h17
        have A6 := h17.eq
        obtain ⟨hu5, hlt5⟩ := next2 (x := x19.2.2.2.2.2.1) h17 wx5 h17_0 h17_1 h17_2 hVk
        have wqh17 := h17.wq
        refine ⟨rfl, rfl, ?_⟩
        refine ⟨rfl, ?_⟩
        refine ⟨wide_step2 b17 (#[.int .u64 x19.1, .int .u64 x19.2.1, .int .u64 x19.2.2.1, .int .u64 x19.2.2.2.1, .int .u64 x19.2.2.2.2.1, .int .u64 x19.2.2.2.2.2.1, .int .u64 x21.2.1, .int .u64 x21.2.2.1, .int .u64 x21.2.2.2]) 5 4 x19.2.2.2.2.2.1 x21.2.1 x21.2.2.1 b18 x20.1 x20.2 (Nat.le_of_ble_eq_true rfl) (rfl) (rfl) (rfl) (by assumption) (by assumption) (by assumption) (by assumption) (by assumption) (hlt5) (N3), wit_step2 (nn3 (by assumption) (by assumption) (by assumption)) hlt5 V0 hVk, ?_⟩
        intro x22
        intro h18
        obtain ⟨h18, h18_0, h18_1, h18_2⟩ := h18
        rw [hu5] at h18
        have A5 := chain_step A6 h18
        obtain ⟨hu4, hlt4⟩ := next2 (x := x19.2.2.2.2.1) h18 wx4 h18_0 h18_1 h18_2 hVk
        have wqh18 := h18.wq
        refine ⟨rfl, rfl, ?_⟩
        refine ⟨rfl, ?_⟩
        refine ⟨wide_step2 b17 (#[.int .u64 x19.1, .int .u64 x19.2.1, .int .u64 x19.2.2.1, .int .u64 x19.2.2.2.1, .int .u64 x19.2.2.2.2.1, .int .u64 x22.2.1, .int .u64 x22.2.2.1, .int .u64 x22.2.2.2, .int .u64 x21.2.2.2]) 4 5 x19.2.2.2.2.1 x22.2.1 x22.2.2.1 b18 x20.1 x20.2 (Nat.le_of_ble_eq_true rfl) (rfl) (rfl) (rfl) (by assumption) (by assumption) (by assumption) (by assumption) (by assumption) (hlt4) (N3), wit_step2 (nn3 (by assumption) (by assumption) (by assumption)) hlt4 V0 hVk, ?_⟩
        intro x23
        intro h19
        obtain ⟨h19, h19_0, h19_1, h19_2⟩ := h19
        rw [hu4] at h19
        have A4 := chain_step A5 h19
        obtain ⟨hu3, hlt3⟩ := next2 (x := x19.2.2.2.1) h19 wx3 h19_0 h19_1 h19_2 hVk
        have wqh19 := h19.wq
        refine ⟨rfl, rfl, ?_⟩
        refine ⟨rfl, ?_⟩
        refine ⟨wide_step2 b17 (#[.int .u64 x19.1, .int .u64 x19.2.1, .int .u64 x19.2.2.1, .int .u64 x19.2.2.2.1, .int .u64 x23.2.1, .int .u64 x23.2.2.1, .int .u64 x23.2.2.2, .int .u64 x22.2.2.2, .int .u64 x21.2.2.2]) 3 6 x19.2.2.2.1 x23.2.1 x23.2.2.1 b18 x20.1 x20.2 (Nat.le_of_ble_eq_true rfl) (rfl) (rfl) (rfl) (by assumption) (by assumption) (by assumption) (by assumption) (by assumption) (hlt3) (N3), wit_step2 (nn3 (by assumption) (by assumption) (by assumption)) hlt3 V0 hVk, ?_⟩
        intro x24
        intro h20
        obtain ⟨h20, h20_0, h20_1, h20_2⟩ := h20
        rw [hu3] at h20
        have A3 := chain_step A4 h20
        obtain ⟨hu2, hlt2⟩ := next2 (x := x19.2.2.1) h20 wx2 h20_0 h20_1 h20_2 hVk
        have wqh20 := h20.wq
        refine ⟨rfl, rfl, ?_⟩
        refine ⟨rfl, ?_⟩
        refine ⟨wide_step2 b17 (#[.int .u64 x19.1, .int .u64 x19.2.1, .int .u64 x19.2.2.1, .int .u64 x24.2.1, .int .u64 x24.2.2.1, .int .u64 x24.2.2.2, .int .u64 x23.2.2.2, .int .u64 x22.2.2.2, .int .u64 x21.2.2.2]) 2 7 x19.2.2.1 x24.2.1 x24.2.2.1 b18 x20.1 x20.2 (Nat.le_of_ble_eq_true rfl) (rfl) (rfl) (rfl) (by assumption) (by assumption) (by assumption) (by assumption) (by assumption) (hlt2) (N3), wit_step2 (nn3 (by assumption) (by assumption) (by assumption)) hlt2 V0 hVk, ?_⟩
        intro x25
        intro h21
        obtain ⟨h21, h21_0, h21_1, h21_2⟩ := h21
        rw [hu2] at h21
        have A2 := chain_step A3 h21
        obtain ⟨hu1, hlt1⟩ := next2 (x := x19.2.1) h21 wx1 h21_0 h21_1 h21_2 hVk
        have wqh21 := h21.wq
        refine ⟨rfl, rfl, ?_⟩
        refine ⟨rfl, ?_⟩
        refine ⟨wide_step2 b17 (#[.int .u64 x19.1, .int .u64 x19.2.1, .int .u64 x25.2.1, .int .u64 x25.2.2.1, .int .u64 x25.2.2.2, .int .u64 x24.2.2.2, .int .u64 x23.2.2.2, .int .u64 x22.2.2.2, .int .u64 x21.2.2.2]) 1 8 x19.2.1 x25.2.1 x25.2.2.1 b18 x20.1 x20.2 (Nat.le_of_ble_eq_true rfl) (rfl) (rfl) (rfl) (by assumption) (by assumption) (by assumption) (by assumption) (by assumption) (hlt1) (N3), wit_step2 (nn3 (by assumption) (by assumption) (by assumption)) hlt1 V0 hVk, ?_⟩
        intro x26
        intro h22
        obtain ⟨h22, h22_0, h22_1, h22_2⟩ := h22
        rw [hu1] at h22
        have A1 := chain_step A2 h22
        obtain ⟨hu0, hlt0⟩ := next2 (x := x19.1) h22 wx0 h22_0 h22_1 h22_2 hVk
        have wqh22 := h22.wq
        refine ⟨rfl, rfl, ?_⟩
        refine ⟨rfl, ?_⟩
        refine ⟨wide_step2 b17 (#[.int .u64 x19.1, .int .u64 x26.2.1, .int .u64 x26.2.2.1, .int .u64 x26.2.2.2, .int .u64 x25.2.2.2, .int .u64 x24.2.2.2, .int .u64 x23.2.2.2, .int .u64 x22.2.2.2, .int .u64 x21.2.2.2]) 0 9 x19.1 x26.2.1 x26.2.2.1 b18 x20.1 x20.2 (Nat.le_of_ble_eq_true rfl) (rfl) (rfl) (rfl) (by assumption) (by assumption) (by assumption) (by assumption) (by assumption) (hlt0) (N3), wit_step2 (nn3 (by assumption) (by assumption) (by assumption)) hlt0 V0 hVk, ?_⟩
        intro x27
        intro h23
        obtain ⟨h23, h23_0, h23_1, h23_2⟩ := h23
        rw [hu0] at h23
        have A0 := chain_step A1 h23
        have wqh23 := h23.wq
        refine ⟨rfl, rfl, ?_⟩
        refine ⟨rfl, ?_⟩
        refine ⟨rfl, ?_⟩
        refine ⟨rfl, rfl, xshr (by omega), rfl, rfl, ⟨(), trivial, congrArg (Value.int .i64) (wrap_i64 _ (by omega) (by omega))⟩, ?_⟩
        intro _
        intro _
        refine ⟨xshl (by omega), rfl, rfl, ?_⟩
        refine ⟨rfl, ?_⟩
        refine ⟨rfl, rfl, xshr (by omega), rfl, rfl, ⟨(), trivial, congrArg (Value.int .i64) (wrap_i64 _ (by omega) (by omega))⟩, ?_⟩
        intro _
        intro _
        refine ⟨xshl (by omega), rfl, rfl, ?_⟩
        refine ⟨rfl, ?_⟩
        refine ⟨rfl, rfl, rfl, rfl, rfl, rfl, rfl, rfl, rfl, rfl, rfl, rfl, rfl, rfl, rfl, rfl, rfl, rfl, rfl, rfl, rfl, rfl, rfl, rfl, rfl, rfl, rfl, rfl, rfl, rfl, rfl, rfl, rfl, rfl, rfl, rfl, rfl, rfl, rfl, rfl, rfl, rfl, rfl, rfl, rfl, rfl, rfl, rfl, ?_⟩
        refine ⟨rfl, rfl, rfl, rfl, rfl, rfl, rfl, rfl, rfl, rfl, rfl, rfl, rfl, rfl, rfl, rfl, rfl, rfl, rfl, rfl, rfl, rfl, rfl, rfl, ?_⟩
        have hD : lim d 0 + 18446744073709551616 * lim d 1 = d := by
          have e := lims d
          rw [num_vI r_d] at e
          simp only [beq_iff_eq, beq_eq_false_iff_ne] at *
          omega
        rw [hD] at N1
        have A : ((x27.1 + 18446744073709551616 * (x26.1 + 18446744073709551616 * (x25.1 + 18446744073709551616 * (x24.1 + 18446744073709551616 * (x23.1 + 18446744073709551616 * (x22.1 + 18446744073709551616 * x21.1))))))) * (x20.1 + 18446744073709551616 * x20.2) + (x27.2.1 + 18446744073709551616 * x27.2.2.1 + 340282366920938463463374607431768211456 * x27.2.2.2) = n * p := by rw [← E]; rw [A0]; omega
        obtain ⟨G1, G2, G3⟩ := div_end A N1 h23.r0 h23.r1 hp
        have G4 := rest2 hp hq hpq hVk h23_0 h23_1 h23_2 G2 h23.r1
        have c0 := down_or (x := x27.2.1) (y := x27.2.2.1) (s := ((nrm (lim d 1) : Nat) : Int)) (nrm_0 _) (nrm_63 (W_lim _ _) (by assumption)) h23_0 h23_1
        rw [e1, e2] at c0
        have cw0 := down_W (y := x27.2.2.1) hp hq hpq h23_0
        have c1 := down_or (x := x27.2.2.1) (y := x27.2.2.2) (s := ((nrm (lim d 1) : Nat) : Int)) (nrm_0 _) (nrm_63 (W_lim _ _) (by assumption)) h23_1 h23_2
        rw [e1, e2] at c1
        have cw1 := down_W (y := x27.2.2.2) hp hq hpq h23_1
        have W0 : W 0 := by unfold W; decide
        have Hq : num (.agg #[.int .u64 x27.1, .int .u64 x26.1, .int .u64 x25.1, .int .u64 x24.1, .int .u64 x23.1, .int .u64 x22.1, .int .u64 x21.1, .int .u64 0]) = n / d := by rw [G1, num8]; omega
        have Hr : num (.agg #[.int .u64 (x27.2.1 / p + x27.2.2.1 * q % 18446744073709551616), .int .u64 (x27.2.2.1 / p + x27.2.2.2 * q % 18446744073709551616), .int .u64 0, .int .u64 0]) = n % d := by rw [← G4, num4]; omega
        have Hv := vW_num8 (show W x27.1 by first | assumption | exact W0) (show W x26.1 by first | assumption | exact W0) (show W x25.1 by first | assumption | exact W0) (show W x24.1 by first | assumption | exact W0) (show W x23.1 by first | assumption | exact W0) (show W x22.1 by first | assumption | exact W0) (show W x21.1 by first | assumption | exact W0) (show W 0 by first | assumption | exact W0)
        have Hw := vI_num4 cw0 cw1 W0 W0
        rw [Hq] at Hv
        rw [Hr] at Hw
        refine fin3 (n := n / d) (r := n % d) (by rw [num_vW r_n, num_vI r_d]; unfold wDiv; rw [if_neg G3]) (Hq ▸ R8_num8 (by first | assumption | exact W0) (by first | assumption | exact W0) (by first | assumption | exact W0) (by first | assumption | exact W0) (by first | assumption | exact W0) (by first | assumption | exact W0) (by first | assumption | exact W0) (by first | assumption | exact W0)) (Hr ▸ R4_num4 cw0 cw1 W0 W0) Hv ?_
        rw [Hw, c0, c1]
    · refine ⟨rfl, ?_⟩
      refine ⟨rfl, rfl, limb_Len (lim d 2) (by first | assumption | exact W_lim _ _ | (unfold W; decide)), ⟨(), trivial⟩, ?_⟩
      intro _
      intro _
      refine ⟨⟨(), trivial, congrArg (Value.int .i64) (nrm_s (W_lim _ _) (by assumption))⟩, ?_⟩
      intro _
      intro _
      intro b28
      intro b29
      refine ⟨wide_up98 b28 b1 (lim n 0) (lim n 1) (lim n 2) (lim n 3) (lim n 4) (lim n 5) (lim n 6) (lim n 7) ((nrm (lim d 2) : Nat) : Int) (nrm_0 _) (nrm_63 (W_lim _ _) (by assumption)) (W_lim _ _) (W_lim _ _) (W_lim _ _) (W_lim _ _) (W_lim _ _) (W_lim _ _) (W_lim _ _) (W_lim _ _), wit_up98 (nrm_0 _) (nrm_63 (W_lim _ _) (by assumption)) (W_lim _ _) (W_lim _ _) (W_lim _ _) (W_lim _ _) (W_lim _ _) (W_lim _ _) (W_lim _ _) (W_lim _ _), ?_⟩
      intro x30
      intro h24
      obtain ⟨E, wx0, wx1, wx2, wx3, wx4, wx5, wx6, wx7, wx8⟩ := h24
      refine ⟨wide_up3 b29 b2 (lim d 0) (lim d 1) (lim d 2) (lim d 3) ((nrm (lim d 2) : Nat) : Int) (nrm_0 _) (nrm_63 (W_lim _ _) (by assumption)) (W_lim _ _) (W_lim _ _) (W_lim _ _), wit_up3 (nrm_0 _) (nrm_63 (W_lim _ _) (by assumption)) (W_lim _ _) (W_lim _ _) (W_lim _ _), ?_⟩
      intro x31
      intro h25
      obtain ⟨F, wz0, wz1, wz2⟩ := h25
      obtain ⟨N1, N2, N3⟩ := norm3 (W_lim _ _) (by assumption) wz0 wz1 wz2 (W_lim _ _) (W_lim _ _) F
      obtain ⟨p, q, hp', hq', hp, hq, hpq, hp2, ht, h0, e1, e2⟩ := nrm_top (W_lim d 2) (by assumption)
      have n63 := nrm_63 (W_lim d 2) (by assumption)
      rw [e1, lims8 r_n] at E
      rw [← hp'] at N1
      have hVk : x31.1 + 18446744073709551616 * x31.2.1 + 340282366920938463463374607431768211456 * x31.2.2 < 6277101735386680763835789423207666416102355444464034512896 := by unfold W at wz0 wz1 wz2; omega
      have V0 : 0 < x31.1 + 18446744073709551616 * x31.2.1 + 340282366920938463463374607431768211456 * x31.2.2 := by omega
      have hlt5 := first3 r_n hp hp2 wx0 wx1 wx2 wx3 wx4 wx5 wx6 wx7 wx8 E N2
      refine ⟨rfl, ?_⟩
      refine ⟨wide_step3 b28 (#[.int .u64 x30.1, .int .u64 x30.2.1, .int .u64 x30.2.2.1, .int .u64 x30.2.2.2.1, .int .u64 x30.2.2.2.2.1, .int .u64 x30.2.2.2.2.2.1, .int .u64 x30.2.2.2.2.2.2.1, .int .u64 x30.2.2.2.2.2.2.2.1, .int .u64 x30.2.2.2.2.2.2.2.2]) 5 4 x30.2.2.2.2.2.1 x30.2.2.2.2.2.2.1 x30.2.2.2.2.2.2.2.1 x30.2.2.2.2.2.2.2.2 b29 x31.1 x31.2.1 x31.2.2 (Nat.le_of_ble_eq_true rfl) (rfl) (rfl) (rfl) (rfl) (by assumption) (by assumption) (by assumption) (by assumption) (by assumption) (by assumption) (by assumption) (hlt5) (N3), wit_step3 (nn4 (by assumption) (by assumption) (by assumption) (by assumption)) hlt5 V0 hVk, ?_⟩
      intro x32
      intro h26
      obtain ⟨h26, h26_0, h26_1, h26_2, h26_3⟩ := h26
      have A5 := h26.eq
      obtain ⟨hu4, hlt4⟩ := next3 (x := x30.2.2.2.2.1) h26 wx4 h26_0 h26_1 h26_2 h26_3 hVk
      have wqh26 := h26.wq
      refine ⟨rfl, rfl, ?_⟩
      refine ⟨rfl, ?_⟩
      refine ⟨wide_step3 b28 (#[.int .u64 x30.1, .int .u64 x30.2.1, .int .u64 x30.2.2.1, .int .u64 x30.2.2.2.1, .int .u64 x30.2.2.2.2.1, .int .u64 x32.2.1, .int .u64 x32.2.2.1, .int .u64 x32.2.2.2.1, .int .u64 x32.2.2.2.2]) 4 5 x30.2.2.2.2.1 x32.2.1 x32.2.2.1 x32.2.2.2.1 b29 x31.1 x31.2.1 x31.2.2 (Nat.le_of_ble_eq_true rfl) (rfl) (rfl) (rfl) (rfl) (by assumption) (by assumption) (by assumption) (by assumption) (by assumption) (by assumption) (by assumption) (hlt4) (N3), wit_step3 (nn4 (by assumption) (by assumption) (by assumption) (by assumption)) hlt4 V0 hVk, ?_⟩
      intro x33
      intro h27
      obtain ⟨h27, h27_0, h27_1, h27_2, h27_3⟩ := h27
      rw [hu4] at h27
      have A4 := chain_step A5 h27
      obtain ⟨hu3, hlt3⟩ := next3 (x := x30.2.2.2.1) h27 wx3 h27_0 h27_1 h27_2 h27_3 hVk
      have wqh27 := h27.wq
      refine ⟨rfl, rfl, ?_⟩
      refine ⟨rfl, ?_⟩
      refine ⟨wide_step3 b28 (#[.int .u64 x30.1, .int .u64 x30.2.1, .int .u64 x30.2.2.1, .int .u64 x30.2.2.2.1, .int .u64 x33.2.1, .int .u64 x33.2.2.1, .int .u64 x33.2.2.2.1, .int .u64 x33.2.2.2.2, .int .u64 x32.2.2.2.2]) 3 6 x30.2.2.2.1 x33.2.1 x33.2.2.1 x33.2.2.2.1 b29 x31.1 x31.2.1 x31.2.2 (Nat.le_of_ble_eq_true rfl) (rfl) (rfl) (rfl) (rfl) (by assumption) (by assumption) (by assumption) (by assumption) (by assumption) (by assumption) (by assumption) (hlt3) (N3), wit_step3 (nn4 (by assumption) (by assumption) (by assumption) (by assumption)) hlt3 V0 hVk, ?_⟩
      intro x34
      intro h28
      obtain ⟨h28, h28_0, h28_1, h28_2, h28_3⟩ := h28
      rw [hu3] at h28
      have A3 := chain_step A4 h28
      obtain ⟨hu2, hlt2⟩ := next3 (x := x30.2.2.1) h28 wx2 h28_0 h28_1 h28_2 h28_3 hVk
      have wqh28 := h28.wq
      refine ⟨rfl, rfl, ?_⟩
      refine ⟨rfl, ?_⟩
      refine ⟨wide_step3 b28 (#[.int .u64 x30.1, .int .u64 x30.2.1, .int .u64 x30.2.2.1, .int .u64 x34.2.1, .int .u64 x34.2.2.1, .int .u64 x34.2.2.2.1, .int .u64 x34.2.2.2.2, .int .u64 x33.2.2.2.2, .int .u64 x32.2.2.2.2]) 2 7 x30.2.2.1 x34.2.1 x34.2.2.1 x34.2.2.2.1 b29 x31.1 x31.2.1 x31.2.2 (Nat.le_of_ble_eq_true rfl) (rfl) (rfl) (rfl) (rfl) (by assumption) (by assumption) (by assumption) (by assumption) (by assumption) (by assumption) (by assumption) (hlt2) (N3), wit_step3 (nn4 (by assumption) (by assumption) (by assumption) (by assumption)) hlt2 V0 hVk, ?_⟩
      intro x35
      intro h29
      obtain ⟨h29, h29_0, h29_1, h29_2, h29_3⟩ := h29
      rw [hu2] at h29
      have A2 := chain_step A3 h29
      obtain ⟨hu1, hlt1⟩ := next3 (x := x30.2.1) h29 wx1 h29_0 h29_1 h29_2 h29_3 hVk
      have wqh29 := h29.wq
      refine ⟨rfl, rfl, ?_⟩
      refine ⟨rfl, ?_⟩
      refine ⟨wide_step3 b28 (#[.int .u64 x30.1, .int .u64 x30.2.1, .int .u64 x35.2.1, .int .u64 x35.2.2.1, .int .u64 x35.2.2.2.1, .int .u64 x35.2.2.2.2, .int .u64 x34.2.2.2.2, .int .u64 x33.2.2.2.2, .int .u64 x32.2.2.2.2]) 1 8 x30.2.1 x35.2.1 x35.2.2.1 x35.2.2.2.1 b29 x31.1 x31.2.1 x31.2.2 (Nat.le_of_ble_eq_true rfl) (rfl) (rfl) (rfl) (rfl) (by assumption) (by assumption) (by assumption) (by assumption) (by assumption) (by assumption) (by assumption) (hlt1) (N3), wit_step3 (nn4 (by assumption) (by assumption) (by assumption) (by assumption)) hlt1 V0 hVk, ?_⟩
      intro x36
      intro h30
      obtain ⟨h30, h30_0, h30_1, h30_2, h30_3⟩ := h30
      rw [hu1] at h30
      have A1 := chain_step A2 h30
      obtain ⟨hu0, hlt0⟩ := next3 (x := x30.1) h30 wx0 h30_0 h30_1 h30_2 h30_3 hVk
      have wqh30 := h30.wq
      refine ⟨rfl, rfl, ?_⟩
      refine ⟨rfl, ?_⟩
      refine ⟨wide_step3 b28 (#[.int .u64 x30.1, .int .u64 x36.2.1, .int .u64 x36.2.2.1, .int .u64 x36.2.2.2.1, .int .u64 x36.2.2.2.2, .int .u64 x35.2.2.2.2, .int .u64 x34.2.2.2.2, .int .u64 x33.2.2.2.2, .int .u64 x32.2.2.2.2]) 0 9 x30.1 x36.2.1 x36.2.2.1 x36.2.2.2.1 b29 x31.1 x31.2.1 x31.2.2 (Nat.le_of_ble_eq_true rfl) (rfl) (rfl) (rfl) (rfl) (by assumption) (by assumption) (by assumption) (by assumption) (by assumption) (by assumption) (by assumption) (hlt0) (N3), wit_step3 (nn4 (by assumption) (by assumption) (by assumption) (by assumption)) hlt0 V0 hVk, ?_⟩
      intro x37
      intro h31
      obtain ⟨h31, h31_0, h31_1, h31_2, h31_3⟩ := h31
      rw [hu0] at h31
      have A0 := chain_step A1 h31
      have wqh31 := h31.wq
      refine ⟨rfl, rfl, ?_⟩
      refine ⟨rfl, ?_⟩
      refine ⟨rfl, ?_⟩
      refine ⟨rfl, rfl, xshr (by omega), rfl, rfl, ⟨(), trivial, congrArg (Value.int .i64) (wrap_i64 _ (by omega) (by omega))⟩, ?_⟩
      intro _
      intro _
      refine ⟨xshl (by omega), rfl, rfl, ?_⟩
      refine ⟨rfl, ?_⟩
      refine ⟨rfl, rfl, xshr (by omega), rfl, rfl, ⟨(), trivial, congrArg (Value.int .i64) (wrap_i64 _ (by omega) (by omega))⟩, ?_⟩
      intro _
      intro _
      refine ⟨xshl (by omega), rfl, rfl, ?_⟩
      refine ⟨rfl, ?_⟩
      refine ⟨rfl, rfl, xshr (by omega), rfl, rfl, ⟨(), trivial, congrArg (Value.int .i64) (wrap_i64 _ (by omega) (by omega))⟩, ?_⟩
      intro _
      intro _
      refine ⟨xshl (by omega), rfl, rfl, ?_⟩
      refine ⟨rfl, ?_⟩
      refine ⟨rfl, rfl, rfl, rfl, rfl, rfl, rfl, rfl, rfl, rfl, rfl, rfl, rfl, rfl, rfl, rfl, rfl, rfl, rfl, rfl, rfl, rfl, rfl, rfl, rfl, rfl, rfl, rfl, rfl, rfl, rfl, rfl, rfl, rfl, rfl, rfl, rfl, rfl, rfl, rfl, rfl, rfl, rfl, rfl, rfl, rfl, rfl, rfl, ?_⟩
      refine ⟨rfl, rfl, rfl, rfl, rfl, rfl, rfl, rfl, rfl, rfl, rfl, rfl, rfl, rfl, rfl, rfl, rfl, rfl, rfl, rfl, rfl, rfl, rfl, rfl, ?_⟩
      have hD : lim d 0 + 18446744073709551616 * lim d 1 + 340282366920938463463374607431768211456 * lim d 2 = d := by
        have e := lims d
        rw [num_vI r_d] at e
        simp only [beq_iff_eq, beq_eq_false_iff_ne] at *
        omega
      rw [hD] at N1
      have A : ((x37.1 + 18446744073709551616 * (x36.1 + 18446744073709551616 * (x35.1 + 18446744073709551616 * (x34.1 + 18446744073709551616 * (x33.1 + 18446744073709551616 * x32.1)))))) * (x31.1 + 18446744073709551616 * x31.2.1 + 340282366920938463463374607431768211456 * x31.2.2) + (x37.2.1 + 18446744073709551616 * x37.2.2.1 + 340282366920938463463374607431768211456 * x37.2.2.2.1 + 6277101735386680763835789423207666416102355444464034512896 * x37.2.2.2.2) = n * p := by rw [← E]; rw [A0]; omega
      obtain ⟨G1, G2, G3⟩ := div_end A N1 h31.r0 h31.r1 hp
      have G4 := rest3 hp hq hpq hVk h31_0 h31_1 h31_2 h31_3 G2 h31.r1
      have c0 := down_or (x := x37.2.1) (y := x37.2.2.1) (s := ((nrm (lim d 2) : Nat) : Int)) (nrm_0 _) (nrm_63 (W_lim _ _) (by assumption)) h31_0 h31_1
      rw [e1, e2] at c0
      have cw0 := down_W (y := x37.2.2.1) hp hq hpq h31_0
      have c1 := down_or (x := x37.2.2.1) (y := x37.2.2.2.1) (s := ((nrm (lim d 2) : Nat) : Int)) (nrm_0 _) (nrm_63 (W_lim _ _) (by assumption)) h31_1 h31_2
      rw [e1, e2] at c1
      have cw1 := down_W (y := x37.2.2.2.1) hp hq hpq h31_1
      have c2 := down_or (x := x37.2.2.2.1) (y := x37.2.2.2.2) (s := ((nrm (lim d 2) : Nat) : Int)) (nrm_0 _) (nrm_63 (W_lim _ _) (by assumption)) h31_2 h31_3
      rw [e1, e2] at c2
      have cw2 := down_W (y := x37.2.2.2.2) hp hq hpq h31_2
      have W0 : W 0 := by unfold W; decide
      have Hq : num (.agg #[.int .u64 x37.1, .int .u64 x36.1, .int .u64 x35.1, .int .u64 x34.1, .int .u64 x33.1, .int .u64 x32.1, .int .u64 0, .int .u64 0]) = n / d := by rw [G1, num8]; omega
      have Hr : num (.agg #[.int .u64 (x37.2.1 / p + x37.2.2.1 * q % 18446744073709551616), .int .u64 (x37.2.2.1 / p + x37.2.2.2.1 * q % 18446744073709551616), .int .u64 (x37.2.2.2.1 / p + x37.2.2.2.2 * q % 18446744073709551616), .int .u64 0]) = n % d := by rw [← G4, num4]; omega
      have Hv := vW_num8 (show W x37.1 by first | assumption | exact W0) (show W x36.1 by first | assumption | exact W0) (show W x35.1 by first | assumption | exact W0) (show W x34.1 by first | assumption | exact W0) (show W x33.1 by first | assumption | exact W0) (show W x32.1 by first | assumption | exact W0) (show W 0 by first | assumption | exact W0) (show W 0 by first | assumption | exact W0)
      have Hw := vI_num4 cw0 cw1 cw2 W0
      rw [Hq] at Hv
      rw [Hr] at Hw
      refine fin3 (n := n / d) (r := n % d) (by rw [num_vW r_n, num_vI r_d]; unfold wDiv; rw [if_neg G3]) (Hq ▸ R8_num8 (by first | assumption | exact W0) (by first | assumption | exact W0) (by first | assumption | exact W0) (by first | assumption | exact W0) (by first | assumption | exact W0) (by first | assumption | exact W0) (by first | assumption | exact W0) (by first | assumption | exact W0)) (Hr ▸ R4_num4 cw0 cw1 cw2 W0) Hv ?_
      rw [Hw, c0, c1, c2]
  · refine ⟨rfl, ?_⟩
    refine ⟨rfl, rfl, limb_Len (lim d 3) (by first | assumption | exact W_lim _ _ | (unfold W; decide)), ⟨(), trivial⟩, ?_⟩
    intro _
    intro _
    refine ⟨⟨(), trivial, congrArg (Value.int .i64) (nrm_s (W_lim _ _) (by assumption))⟩, ?_⟩
    intro _
    intro _
    intro b38
    intro b39
    refine ⟨wide_up98 b38 b1 (lim n 0) (lim n 1) (lim n 2) (lim n 3) (lim n 4) (lim n 5) (lim n 6) (lim n 7) ((nrm (lim d 3) : Nat) : Int) (nrm_0 _) (nrm_63 (W_lim _ _) (by assumption)) (W_lim _ _) (W_lim _ _) (W_lim _ _) (W_lim _ _) (W_lim _ _) (W_lim _ _) (W_lim _ _) (W_lim _ _), wit_up98 (nrm_0 _) (nrm_63 (W_lim _ _) (by assumption)) (W_lim _ _) (W_lim _ _) (W_lim _ _) (W_lim _ _) (W_lim _ _) (W_lim _ _) (W_lim _ _) (W_lim _ _), ?_⟩
    intro x40
    intro h32
    obtain ⟨E, wx0, wx1, wx2, wx3, wx4, wx5, wx6, wx7, wx8⟩ := h32
    refine ⟨wide_up4 b39 b2 (lim d 0) (lim d 1) (lim d 2) (lim d 3) ((nrm (lim d 3) : Nat) : Int) (nrm_0 _) (nrm_63 (W_lim _ _) (by assumption)) (W_lim _ _) (W_lim _ _) (W_lim _ _) (W_lim _ _), wit_up4 (nrm_0 _) (nrm_63 (W_lim _ _) (by assumption)) (W_lim _ _) (W_lim _ _) (W_lim _ _) (W_lim _ _), ?_⟩
    intro x41
    intro h33
    obtain ⟨F, wz0, wz1, wz2, wz3⟩ := h33
    obtain ⟨N1, N2, N3⟩ := norm4 (W_lim _ _) (by assumption) wz0 wz1 wz2 wz3 (W_lim _ _) (W_lim _ _) (W_lim _ _) F
    obtain ⟨p, q, hp', hq', hp, hq, hpq, hp2, ht, h0, e1, e2⟩ := nrm_top (W_lim d 3) (by assumption)
    have n63 := nrm_63 (W_lim d 3) (by assumption)
    rw [e1, lims8 r_n] at E
    rw [← hp'] at N1
    have hVk : x41.1 + 18446744073709551616 * x41.2.1 + 340282366920938463463374607431768211456 * x41.2.2.1 + 6277101735386680763835789423207666416102355444464034512896 * x41.2.2.2 < 115792089237316195423570985008687907853269984665640564039457584007913129639936 := by unfold W at wz0 wz1 wz2 wz3; omega
    have V0 : 0 < x41.1 + 18446744073709551616 * x41.2.1 + 340282366920938463463374607431768211456 * x41.2.2.1 + 6277101735386680763835789423207666416102355444464034512896 * x41.2.2.2 := by omega
    have hlt4 := first4 r_n hp hp2 wx0 wx1 wx2 wx3 wx4 wx5 wx6 wx7 wx8 E N2
    refine ⟨rfl, ?_⟩
    refine ⟨wide_step4 b38 (#[.int .u64 x40.1, .int .u64 x40.2.1, .int .u64 x40.2.2.1, .int .u64 x40.2.2.2.1, .int .u64 x40.2.2.2.2.1, .int .u64 x40.2.2.2.2.2.1, .int .u64 x40.2.2.2.2.2.2.1, .int .u64 x40.2.2.2.2.2.2.2.1, .int .u64 x40.2.2.2.2.2.2.2.2]) 4 5 x40.2.2.2.2.1 x40.2.2.2.2.2.1 x40.2.2.2.2.2.2.1 x40.2.2.2.2.2.2.2.1 x40.2.2.2.2.2.2.2.2 b39 x41.1 x41.2.1 x41.2.2.1 x41.2.2.2 (Nat.le_of_ble_eq_true rfl) (rfl) (rfl) (rfl) (rfl) (rfl) (by assumption) (by assumption) (by assumption) (by assumption) (by assumption) (by assumption) (by assumption) (by assumption) (by assumption) (hlt4) (N3), wit_step4 (nn5 (by assumption) (by assumption) (by assumption) (by assumption) (by assumption)) hlt4 V0 hVk, ?_⟩
    intro x42
    intro h34
    obtain ⟨h34, h34_0, h34_1, h34_2, h34_3, h34_4⟩ := h34
    have A4 := h34.eq
    obtain ⟨hu3, hlt3⟩ := next4 (x := x40.2.2.2.1) h34 wx3 h34_0 h34_1 h34_2 h34_3 h34_4 hVk
    have wqh34 := h34.wq
    refine ⟨rfl, rfl, ?_⟩
    refine ⟨rfl, ?_⟩
    refine ⟨wide_step4 b38 (#[.int .u64 x40.1, .int .u64 x40.2.1, .int .u64 x40.2.2.1, .int .u64 x40.2.2.2.1, .int .u64 x42.2.1, .int .u64 x42.2.2.1, .int .u64 x42.2.2.2.1, .int .u64 x42.2.2.2.2.1, .int .u64 x42.2.2.2.2.2]) 3 6 x40.2.2.2.1 x42.2.1 x42.2.2.1 x42.2.2.2.1 x42.2.2.2.2.1 b39 x41.1 x41.2.1 x41.2.2.1 x41.2.2.2 (Nat.le_of_ble_eq_true rfl) (rfl) (rfl) (rfl) (rfl) (rfl) (by assumption) (by assumption) (by assumption) (by assumption) (by assumption) (by assumption) (by assumption) (by assumption) (by assumption) (hlt3) (N3), wit_step4 (nn5 (by assumption) (by assumption) (by assumption) (by assumption) (by assumption)) hlt3 V0 hVk, ?_⟩
    intro x43
    intro h35
    obtain ⟨h35, h35_0, h35_1, h35_2, h35_3, h35_4⟩ := h35
    rw [hu3] at h35
    have A3 := chain_step A4 h35
    obtain ⟨hu2, hlt2⟩ := next4 (x := x40.2.2.1) h35 wx2 h35_0 h35_1 h35_2 h35_3 h35_4 hVk
    have wqh35 := h35.wq
    refine ⟨rfl, rfl, ?_⟩
    refine ⟨rfl, ?_⟩
    refine ⟨wide_step4 b38 (#[.int .u64 x40.1, .int .u64 x40.2.1, .int .u64 x40.2.2.1, .int .u64 x43.2.1, .int .u64 x43.2.2.1, .int .u64 x43.2.2.2.1, .int .u64 x43.2.2.2.2.1, .int .u64 x43.2.2.2.2.2, .int .u64 x42.2.2.2.2.2]) 2 7 x40.2.2.1 x43.2.1 x43.2.2.1 x43.2.2.2.1 x43.2.2.2.2.1 b39 x41.1 x41.2.1 x41.2.2.1 x41.2.2.2 (Nat.le_of_ble_eq_true rfl) (rfl) (rfl) (rfl) (rfl) (rfl) (by assumption) (by assumption) (by assumption) (by assumption) (by assumption) (by assumption) (by assumption) (by assumption) (by assumption) (hlt2) (N3), wit_step4 (nn5 (by assumption) (by assumption) (by assumption) (by assumption) (by assumption)) hlt2 V0 hVk, ?_⟩
    intro x44
    intro h36
    obtain ⟨h36, h36_0, h36_1, h36_2, h36_3, h36_4⟩ := h36
    rw [hu2] at h36
    have A2 := chain_step A3 h36
    obtain ⟨hu1, hlt1⟩ := next4 (x := x40.2.1) h36 wx1 h36_0 h36_1 h36_2 h36_3 h36_4 hVk
    have wqh36 := h36.wq
    refine ⟨rfl, rfl, ?_⟩
    refine ⟨rfl, ?_⟩
    refine ⟨wide_step4 b38 (#[.int .u64 x40.1, .int .u64 x40.2.1, .int .u64 x44.2.1, .int .u64 x44.2.2.1, .int .u64 x44.2.2.2.1, .int .u64 x44.2.2.2.2.1, .int .u64 x44.2.2.2.2.2, .int .u64 x43.2.2.2.2.2, .int .u64 x42.2.2.2.2.2]) 1 8 x40.2.1 x44.2.1 x44.2.2.1 x44.2.2.2.1 x44.2.2.2.2.1 b39 x41.1 x41.2.1 x41.2.2.1 x41.2.2.2 (Nat.le_of_ble_eq_true rfl) (rfl) (rfl) (rfl) (rfl) (rfl) (by assumption) (by assumption) (by assumption) (by assumption) (by assumption) (by assumption) (by assumption) (by assumption) (by assumption) (hlt1) (N3), wit_step4 (nn5 (by assumption) (by assumption) (by assumption) (by assumption) (by assumption)) hlt1 V0 hVk, ?_⟩
    intro x45
    intro h37
    obtain ⟨h37, h37_0, h37_1, h37_2, h37_3, h37_4⟩ := h37
    rw [hu1] at h37
    have A1 := chain_step A2 h37
    obtain ⟨hu0, hlt0⟩ := next4 (x := x40.1) h37 wx0 h37_0 h37_1 h37_2 h37_3 h37_4 hVk
    have wqh37 := h37.wq
    refine ⟨rfl, rfl, ?_⟩
    refine ⟨rfl, ?_⟩
    refine ⟨wide_step4 b38 (#[.int .u64 x40.1, .int .u64 x45.2.1, .int .u64 x45.2.2.1, .int .u64 x45.2.2.2.1, .int .u64 x45.2.2.2.2.1, .int .u64 x45.2.2.2.2.2, .int .u64 x44.2.2.2.2.2, .int .u64 x43.2.2.2.2.2, .int .u64 x42.2.2.2.2.2]) 0 9 x40.1 x45.2.1 x45.2.2.1 x45.2.2.2.1 x45.2.2.2.2.1 b39 x41.1 x41.2.1 x41.2.2.1 x41.2.2.2 (Nat.le_of_ble_eq_true rfl) (rfl) (rfl) (rfl) (rfl) (rfl) (by assumption) (by assumption) (by assumption) (by assumption) (by assumption) (by assumption) (by assumption) (by assumption) (by assumption) (hlt0) (N3), wit_step4 (nn5 (by assumption) (by assumption) (by assumption) (by assumption) (by assumption)) hlt0 V0 hVk, ?_⟩
    intro x46
    intro h38
    obtain ⟨h38, h38_0, h38_1, h38_2, h38_3, h38_4⟩ := h38
    rw [hu0] at h38
    have A0 := chain_step A1 h38
    have wqh38 := h38.wq
    refine ⟨rfl, rfl, ?_⟩
    refine ⟨rfl, ?_⟩
    refine ⟨rfl, ?_⟩
    refine ⟨rfl, rfl, xshr (by omega), rfl, rfl, ⟨(), trivial, congrArg (Value.int .i64) (wrap_i64 _ (by omega) (by omega))⟩, ?_⟩
    intro _
    intro _
    refine ⟨xshl (by omega), rfl, rfl, ?_⟩
    refine ⟨rfl, ?_⟩
    refine ⟨rfl, rfl, xshr (by omega), rfl, rfl, ⟨(), trivial, congrArg (Value.int .i64) (wrap_i64 _ (by omega) (by omega))⟩, ?_⟩
    intro _
    intro _
    refine ⟨xshl (by omega), rfl, rfl, ?_⟩
    refine ⟨rfl, ?_⟩
    refine ⟨rfl, rfl, xshr (by omega), rfl, rfl, ⟨(), trivial, congrArg (Value.int .i64) (wrap_i64 _ (by omega) (by omega))⟩, ?_⟩
    intro _
    intro _
    refine ⟨xshl (by omega), rfl, rfl, ?_⟩
    refine ⟨rfl, ?_⟩
    refine ⟨rfl, rfl, xshr (by omega), rfl, rfl, ⟨(), trivial, congrArg (Value.int .i64) (wrap_i64 _ (by omega) (by omega))⟩, ?_⟩
    intro _
    intro _
    refine ⟨xshl (by omega), rfl, rfl, ?_⟩
    refine ⟨rfl, ?_⟩
    refine ⟨rfl, rfl, rfl, rfl, rfl, rfl, rfl, rfl, rfl, rfl, rfl, rfl, rfl, rfl, rfl, rfl, rfl, rfl, rfl, rfl, rfl, rfl, rfl, rfl, rfl, rfl, rfl, rfl, rfl, rfl, rfl, rfl, rfl, rfl, rfl, rfl, rfl, rfl, rfl, rfl, rfl, rfl, rfl, rfl, rfl, rfl, rfl, rfl, ?_⟩
    refine ⟨rfl, rfl, rfl, rfl, rfl, rfl, rfl, rfl, rfl, rfl, rfl, rfl, rfl, rfl, rfl, rfl, rfl, rfl, rfl, rfl, rfl, rfl, rfl, rfl, ?_⟩
    have hD : lim d 0 + 18446744073709551616 * lim d 1 + 340282366920938463463374607431768211456 * lim d 2 + 6277101735386680763835789423207666416102355444464034512896 * lim d 3 = d := by
      have e := lims d
      rw [num_vI r_d] at e
      simp only [beq_iff_eq, beq_eq_false_iff_ne] at *
      omega
    rw [hD] at N1
    have A : ((x46.1 + 18446744073709551616 * (x45.1 + 18446744073709551616 * (x44.1 + 18446744073709551616 * (x43.1 + 18446744073709551616 * x42.1))))) * (x41.1 + 18446744073709551616 * x41.2.1 + 340282366920938463463374607431768211456 * x41.2.2.1 + 6277101735386680763835789423207666416102355444464034512896 * x41.2.2.2) + (x46.2.1 + 18446744073709551616 * x46.2.2.1 + 340282366920938463463374607431768211456 * x46.2.2.2.1 + 6277101735386680763835789423207666416102355444464034512896 * x46.2.2.2.2.1 + 115792089237316195423570985008687907853269984665640564039457584007913129639936 * x46.2.2.2.2.2) = n * p := by rw [← E]; rw [A0]; omega
    obtain ⟨G1, G2, G3⟩ := div_end A N1 h38.r0 h38.r1 hp
    have G4 := rest4 hp hq hpq hVk h38_0 h38_1 h38_2 h38_3 h38_4 G2 h38.r1
    have c0 := down_or (x := x46.2.1) (y := x46.2.2.1) (s := ((nrm (lim d 3) : Nat) : Int)) (nrm_0 _) (nrm_63 (W_lim _ _) (by assumption)) h38_0 h38_1
    rw [e1, e2] at c0
    have cw0 := down_W (y := x46.2.2.1) hp hq hpq h38_0
    have c1 := down_or (x := x46.2.2.1) (y := x46.2.2.2.1) (s := ((nrm (lim d 3) : Nat) : Int)) (nrm_0 _) (nrm_63 (W_lim _ _) (by assumption)) h38_1 h38_2
    rw [e1, e2] at c1
    have cw1 := down_W (y := x46.2.2.2.1) hp hq hpq h38_1
    have c2 := down_or (x := x46.2.2.2.1) (y := x46.2.2.2.2.1) (s := ((nrm (lim d 3) : Nat) : Int)) (nrm_0 _) (nrm_63 (W_lim _ _) (by assumption)) h38_2 h38_3
    rw [e1, e2] at c2
    have cw2 := down_W (y := x46.2.2.2.2.1) hp hq hpq h38_2
    have c3 := down_or (x := x46.2.2.2.2.1) (y := x46.2.2.2.2.2) (s := ((nrm (lim d 3) : Nat) : Int)) (nrm_0 _) (nrm_63 (W_lim _ _) (by assumption)) h38_3 h38_4
    rw [e1, e2] at c3
    have cw3 := down_W (y := x46.2.2.2.2.2) hp hq hpq h38_3
    have W0 : W 0 := by unfold W; decide
    have Hq : num (.agg #[.int .u64 x46.1, .int .u64 x45.1, .int .u64 x44.1, .int .u64 x43.1, .int .u64 x42.1, .int .u64 0, .int .u64 0, .int .u64 0]) = n / d := by rw [G1, num8]; omega
    have Hr : num (.agg #[.int .u64 (x46.2.1 / p + x46.2.2.1 * q % 18446744073709551616), .int .u64 (x46.2.2.1 / p + x46.2.2.2.1 * q % 18446744073709551616), .int .u64 (x46.2.2.2.1 / p + x46.2.2.2.2.1 * q % 18446744073709551616), .int .u64 (x46.2.2.2.2.1 / p + x46.2.2.2.2.2 * q % 18446744073709551616)]) = n % d := by rw [← G4, num4]; omega
    have Hv := vW_num8 (show W x46.1 by first | assumption | exact W0) (show W x45.1 by first | assumption | exact W0) (show W x44.1 by first | assumption | exact W0) (show W x43.1 by first | assumption | exact W0) (show W x42.1 by first | assumption | exact W0) (show W 0 by first | assumption | exact W0) (show W 0 by first | assumption | exact W0) (show W 0 by first | assumption | exact W0)
    have Hw := vI_num4 cw0 cw1 cw2 cw3
    rw [Hq] at Hv
    rw [Hr] at Hw
    refine fin3 (n := n / d) (r := n % d) (by rw [num_vW r_n, num_vI r_d]; unfold wDiv; rw [if_neg G3]) (Hq ▸ R8_num8 (by first | assumption | exact W0) (by first | assumption | exact W0) (by first | assumption | exact W0) (by first | assumption | exact W0) (by first | assumption | exact W0) (by first | assumption | exact W0) (by first | assumption | exact W0) (by first | assumption | exact W0)) (Hr ▸ R4_num4 cw0 cw1 cw2 cw3) Hv ?_
    rw [Hw, c0, c1, c2, c3]

theorem Try.xeq44 (a b : Int) : PureRun Try.prog (xBin .eql 44 (vI a) (vI b)) (.bool (num (vI a) == num (vI b))) := xeq4 (e := 27) (by kernel_rfl) (by kernel_rfl) (fun w => by kernel_rfl) (fun w => by kernel_rfl) (by kernel_rfl) a b
def wide_narrow_C : List Value → List Slot → Ctr := fun vs hs => ⟨Int × Int, fun zx => .tuple #[vI zx.1, .int .i64 zx.2], fun _ => hs, fun zx => R4 zx.1 ∧ zx = wNar (num (varg vs 1))⟩
set_option maxRecDepth 100000 in
theorem wide_narrow_vc (w : Int) : codeW Try.prog 20 none 2000 none (bodyOf Try.f81) (.reg [.sem [.nw 0], .sem [.nw 1], .sem []] (.reg [.sem [], .sem [.rd 0], .sem [], .sem [.rd 0], .sem [], .sem [], .sem [.rd 0], .sem [], .sem [], .sem [.rd 0], .sem [], .sem []] (.cond (.reg [.sem [], .sem [.wr 1, .wr 1, .wr 1, .wr 1], .sem []] (.done)) (.reg [.sem [], .sem [], .sem [.rd 0, .rd 0, .rd 0, .rd 0], .sem [.wr 1, .wr 1, .wr 1, .wr 1], .sem []] (.done)))))
    (init #[vW w] []) (finW Try.prog Try.f81 [.rd 1, .rd 1, .rd 1, .rd 1] [] (X := Int × Int) (fun zx => .tuple #[vI zx.1, .int .i64 zx.2]) (fun zx => []) (fun zx => (R4 zx.1 ∧ zx = wNar (num (vW w))))) =
    (∀ b1 : Nat, ∀ b2 : Nat, b1 = b1 ∧ (none : Option Nat) = none ∧ b1 = b1 ∧ (none : Option Nat) = none ∧ b1 = b1 ∧ (none : Option Nat) = none ∧ b1 = b1 ∧ (none : Option Nat) = none ∧ (((IntKind.u64.wrap ((BitVec.ofInt 64 (IntKind.u64.wrap ((BitVec.ofInt 64 (IntKind.u64.wrap ((BitVec.ofInt 64 (lim w 4) ||| BitVec.ofInt 64 (lim w 5) : BitVec 64).toNat : Int)) ||| BitVec.ofInt 64 (lim w 6) : BitVec 64).toNat : Int)) ||| BitVec.ofInt 64 (lim w 7) : BitVec 64).toNat : Int)) != (0 : Int)) = true → b2 = b2 ∧ (none : Option Nat) = none ∧ b2 = b2 ∧ (none : Option Nat) = none ∧ b2 = b2 ∧ (none : Option Nat) = none ∧ b2 = b2 ∧ (none : Option Nat) = none ∧ b2 = b2 ∧ (none : Option Nat) = none ∧ b2 = b2 ∧ (none : Option Nat) = none ∧ b2 = b2 ∧ (none : Option Nat) = none ∧ b2 = b2 ∧ (none : Option Nat) = none ∧ ∃ zx : Int × Int, (R4 zx.1 ∧ zx = wNar (num (vW w))) ∧ Value.tuple #[.agg #[.int .u64 0, .int .u64 0, .int .u64 0, .int .u64 0], .int .i64 2] = .tuple #[vI zx.1, .int .i64 zx.2] ∧ True) ∧ (((IntKind.u64.wrap ((BitVec.ofInt 64 (IntKind.u64.wrap ((BitVec.ofInt 64 (IntKind.u64.wrap ((BitVec.ofInt 64 (lim w 4) ||| BitVec.ofInt 64 (lim w 5) : BitVec 64).toNat : Int)) ||| BitVec.ofInt 64 (lim w 6) : BitVec 64).toNat : Int)) ||| BitVec.ofInt 64 (lim w 7) : BitVec 64).toNat : Int)) != (0 : Int)) = false → b1 = b1 ∧ (none : Option Nat) = none ∧ b1 = b1 ∧ (none : Option Nat) = none ∧ b1 = b1 ∧ (none : Option Nat) = none ∧ b1 = b1 ∧ (none : Option Nat) = none ∧ b2 = b2 ∧ (none : Option Nat) = none ∧ b2 = b2 ∧ (none : Option Nat) = none ∧ b2 = b2 ∧ (none : Option Nat) = none ∧ b2 = b2 ∧ (none : Option Nat) = none ∧ b2 = b2 ∧ (none : Option Nat) = none ∧ b2 = b2 ∧ (none : Option Nat) = none ∧ b2 = b2 ∧ (none : Option Nat) = none ∧ b2 = b2 ∧ (none : Option Nat) = none ∧ ∃ zx : Int × Int, (R4 zx.1 ∧ zx = wNar (num (vW w))) ∧ Value.tuple #[vI w, .int .i64 0] = .tuple #[vI zx.1, .int .i64 zx.2] ∧ True)) := by kernel_rfl
set_option maxRecDepth 100000 in
theorem wide_narrow (w : Int) (r_w : R8 w) : CallT Try.prog 81 #[vW w] [] (Int × Int) (fun zx => .tuple #[vI zx.1, .int .i64 zx.2]) (fun zx => []) (fun zx => (R4 zx.1 ∧ zx = wNar (num (vW w)))) := by
  refine call_of (c := bodyOf Try.f81) (n := 20) (fn := Try.f81) Try.mixed Try.func81 (by kernel_rfl) (by kernel_rfl) (by kernel_rfl) 2000 _ [.rd 1, .rd 1, .rd 1, .rd 1] [] rfl rfl (Eq.mpr (wide_narrow_vc w) ?_)
  intro b1
  intro b2
  refine ⟨rfl, rfl, rfl, rfl, rfl, rfl, rfl, rfl, ?_⟩
  refine ⟨fun h1 => ?_, fun h1 => ?_⟩
  · refine ⟨rfl, rfl, rfl, rfl, rfl, rfl, rfl, rfl, ?_⟩
    refine ⟨rfl, rfl, rfl, rfl, rfl, rfl, rfl, rfl, ?_⟩
    exact fin2 (narrow_ov r_w (by assumption)) R4_zero vI_zero
  · refine ⟨rfl, rfl, rfl, rfl, rfl, rfl, rfl, rfl, rfl, rfl, rfl, rfl, rfl, rfl, rfl, rfl, ?_⟩
    refine ⟨rfl, rfl, rfl, rfl, rfl, rfl, rfl, rfl, ?_⟩
    exact fin2 (narrow_ok r_w (by assumption)).1 (narrow_ok r_w (by assumption)).2 rfl

def wide_MulDiv_C : List Value → List Slot → Ctr := fun vs hs => ⟨Int × Int, fun zx => .tuple #[vI zx.1, .int .i64 zx.2], fun _ => hs, fun zx => R4 zx.1 ∧ zx = wMulDiv (num (varg vs 1)) (num (varg vs 2)) (num (varg vs 3))⟩
set_option maxRecDepth 100000 in
theorem wide_MulDiv_vc (a : Int) (b : Int) (d : Int) : codeW Try.prog 28 none 2000 none (bodyOf Try.f34) (.reg [.sem [.nw 0], .sem [.nw 1], .sem [.nw 2], .sem [.nw 3], .sem []] (.reg [.sem [.rd 0, .rd 0, .rd 0, .rd 0], .sem [.rd 1, .rd 1, .rd 1, .rd 1], .callr [] wide_Product_C, .sem [.rd 2, .rd 2, .rd 2, .rd 2], .callr [] wide_Divide_C, .sem [], .sem [], .sem [], .sem [], .sem [.nw 4], .sem [.nw 5], .sem [.wr 4, .wr 4, .wr 4, .wr 4, .wr 4, .wr 4, .wr 4, .wr 4], .sem [.wr 5, .wr 5, .wr 5, .wr 5], .sem []] (.reg [.sem [], .sem []] (.cond (.reg [.sem [], .sem [], .sem [.wr 3, .wr 3, .wr 3, .wr 3], .sem []] (.done)) (.reg [.sem [.rd 4, .rd 4, .rd 4, .rd 4, .rd 4, .rd 4, .rd 4, .rd 4], .callr [] wide_narrow_C, .sem [], .sem [], .sem [.wr 3, .wr 3, .wr 3, .wr 3], .sem []] (.done))))))
    (init #[vI a, vI b, vI d] []) (finW Try.prog Try.f34 [.rd 3, .rd 3, .rd 3, .rd 3] [] (X := Int × Int) (fun zx => .tuple #[vI zx.1, .int .i64 zx.2]) (fun zx => []) (fun zx => (R4 zx.1 ∧ zx = wMulDiv (num (vI a)) (num (vI b)) (num (vI d))))) =
    (∀ b1 : Nat, ∀ b2 : Nat, ∀ b3 : Nat, ∀ b4 : Nat, b1 = b1 ∧ (none : Option Nat) = none ∧ b1 = b1 ∧ (none : Option Nat) = none ∧ b1 = b1 ∧ (none : Option Nat) = none ∧ b1 = b1 ∧ (none : Option Nat) = none ∧ b2 = b2 ∧ (none : Option Nat) = none ∧ b2 = b2 ∧ (none : Option Nat) = none ∧ b2 = b2 ∧ (none : Option Nat) = none ∧ b2 = b2 ∧ (none : Option Nat) = none ∧ (CallT Try.prog 29 #[vI a, vI b] [] Int (fun zx => vW zx) (fun _ => []) (fun zx => R8 zx ∧ zx = (num (vI a)) * (num (vI b)))) ∧ (∃ zx : Int, (fun zx => R8 zx ∧ zx = (num (vI a)) * (num (vI b))) zx) ∧ ∀ x5 : Int, (R8 x5 ∧ x5 = (num (vI a)) * (num (vI b))) → b3 = b3 ∧ (none : Option Nat) = none ∧ b3 = b3 ∧ (none : Option Nat) = none ∧ b3 = b3 ∧ (none : Option Nat) = none ∧ b3 = b3 ∧ (none : Option Nat) = none ∧ (CallT Try.prog 32 #[vW x5, vI d] [] (Int × Int × Int) (fun zx => .tuple #[vW zx.1, vI zx.2.1, .int .i64 zx.2.2]) (fun _ => []) (fun zx => R8 zx.1 ∧ R4 zx.2.1 ∧ zx = wDiv (num (vW x5)) (num (vI d)))) ∧ (∃ zx : Int × Int × Int, (fun zx => R8 zx.1 ∧ R4 zx.2.1 ∧ zx = wDiv (num (vW x5)) (num (vI d))) zx) ∧ ∀ x6 : Int × Int × Int, (R8 x6.1 ∧ R4 x6.2.1 ∧ x6 = wDiv (num (vW x5)) (num (vI d))) → ∀ b7 : Nat, ∀ b8 : Nat, b7 = b7 ∧ (none : Option Nat) = none ∧ b7 = b7 ∧ (none : Option Nat) = none ∧ b7 = b7 ∧ (none : Option Nat) = none ∧ b7 = b7 ∧ (none : Option Nat) = none ∧ b7 = b7 ∧ (none : Option Nat) = none ∧ b7 = b7 ∧ (none : Option Nat) = none ∧ b7 = b7 ∧ (none : Option Nat) = none ∧ b7 = b7 ∧ (none : Option Nat) = none ∧ b8 = b8 ∧ (none : Option Nat) = none ∧ b8 = b8 ∧ (none : Option Nat) = none ∧ b8 = b8 ∧ (none : Option Nat) = none ∧ b8 = b8 ∧ (none : Option Nat) = none ∧ ((x6.2.2 != (0 : Int)) = true → b4 = b4 ∧ (none : Option Nat) = none ∧ b4 = b4 ∧ (none : Option Nat) = none ∧ b4 = b4 ∧ (none : Option Nat) = none ∧ b4 = b4 ∧ (none : Option Nat) = none ∧ b4 = b4 ∧ (none : Option Nat) = none ∧ b4 = b4 ∧ (none : Option Nat) = none ∧ b4 = b4 ∧ (none : Option Nat) = none ∧ b4 = b4 ∧ (none : Option Nat) = none ∧ ∃ zx : Int × Int, (R4 zx.1 ∧ zx = wMulDiv (num (vI a)) (num (vI b)) (num (vI d))) ∧ Value.tuple #[.agg #[.int .u64 0, .int .u64 0, .int .u64 0, .int .u64 0], .int .i64 x6.2.2] = .tuple #[vI zx.1, .int .i64 zx.2] ∧ True) ∧ ((x6.2.2 != (0 : Int)) = false → b7 = b7 ∧ (none : Option Nat) = none ∧ b7 = b7 ∧ (none : Option Nat) = none ∧ b7 = b7 ∧ (none : Option Nat) = none ∧ b7 = b7 ∧ (none : Option Nat) = none ∧ b7 = b7 ∧ (none : Option Nat) = none ∧ b7 = b7 ∧ (none : Option Nat) = none ∧ b7 = b7 ∧ (none : Option Nat) = none ∧ b7 = b7 ∧ (none : Option Nat) = none ∧ (CallT Try.prog 81 #[vW x6.1] [] (Int × Int) (fun zx => .tuple #[vI zx.1, .int .i64 zx.2]) (fun _ => []) (fun zx => R4 zx.1 ∧ zx = wNar (num (vW x6.1)))) ∧ (∃ zx : Int × Int, (fun zx => R4 zx.1 ∧ zx = wNar (num (vW x6.1))) zx) ∧ ∀ x9 : Int × Int, (R4 x9.1 ∧ x9 = wNar (num (vW x6.1))) → b4 = b4 ∧ (none : Option Nat) = none ∧ b4 = b4 ∧ (none : Option Nat) = none ∧ b4 = b4 ∧ (none : Option Nat) = none ∧ b4 = b4 ∧ (none : Option Nat) = none ∧ b4 = b4 ∧ (none : Option Nat) = none ∧ b4 = b4 ∧ (none : Option Nat) = none ∧ b4 = b4 ∧ (none : Option Nat) = none ∧ b4 = b4 ∧ (none : Option Nat) = none ∧ ∃ zx : Int × Int, (R4 zx.1 ∧ zx = wMulDiv (num (vI a)) (num (vI b)) (num (vI d))) ∧ Value.tuple #[vI x9.1, .int .i64 x9.2] = .tuple #[vI zx.1, .int .i64 zx.2] ∧ True)) := by kernel_rfl
set_option maxRecDepth 100000 in
theorem wide_MulDiv (a : Int) (b : Int) (d : Int) (r_a : R4 a) (r_b : R4 b) (r_d : R4 d) : CallT Try.prog 34 #[vI a, vI b, vI d] [] (Int × Int) (fun zx => .tuple #[vI zx.1, .int .i64 zx.2]) (fun zx => []) (fun zx => (R4 zx.1 ∧ zx = wMulDiv (num (vI a)) (num (vI b)) (num (vI d)))) := by
  refine call_of (c := bodyOf Try.f34) (n := 28) (fn := Try.f34) Try.mixed Try.func34 (by kernel_rfl) (by kernel_rfl) (by kernel_rfl) 2000 _ [.rd 3, .rd 3, .rd 3, .rd 3] [] rfl rfl (Eq.mpr (wide_MulDiv_vc a b d) ?_)
  intro b1
  intro b2
  intro b3
  intro b4
  refine ⟨rfl, rfl, rfl, rfl, rfl, rfl, rfl, rfl, rfl, rfl, rfl, rfl, rfl, rfl, rfl, rfl, wide_Product a b (by assumption) (by assumption), ⟨_, prod_R (R4_num a) (R4_num b), rfl⟩, ?_⟩
  intro x5
  intro h1
  obtain ⟨rh1_, h1⟩ := h1
  try simp only [num_vI (n := a) (by assumption), num_vI (n := b) (by assumption)] at h1
  refine ⟨rfl, rfl, rfl, rfl, rfl, rfl, rfl, rfl, wide_Divide x5 d (by assumption) (by assumption), ⟨wDiv _ _, wDiv_R8 (by first | exact R8_num _ | exact by assumption) (R4_num _), wDiv_R4 (R4_num _), rfl⟩, ?_⟩
  intro x6
  intro h2
  obtain ⟨rh2_1, h2⟩ := h2
  obtain ⟨rh2_21, h2⟩ := h2
  try simp only [num_vW (n := x5) (by assumption), num_vI (n := d) (by assumption)] at h2
  intro b7
  intro b8
  refine ⟨rfl, rfl, rfl, rfl, rfl, rfl, rfl, rfl, rfl, rfl, rfl, rfl, rfl, rfl, rfl, rfl, rfl, rfl, rfl, rfl, rfl, rfl, rfl, rfl, ?_⟩
  refine ⟨fun h3 => ?_, fun h3 => ?_⟩
  · refine ⟨rfl, rfl, rfl, rfl, rfl, rfl, rfl, rfl, ?_⟩
    refine ⟨rfl, rfl, rfl, rfl, rfl, rfl, rfl, rfl, ?_⟩
    have hq := (md_err (d := d) (by assumption) (by assumption) (by assumption)).1
    exact fin2 (by rw [num_vI r_a, num_vI r_b, num_vI r_d]; exact hq) R4_zero vI_zero
  · refine ⟨rfl, rfl, rfl, rfl, rfl, rfl, rfl, rfl, rfl, rfl, rfl, rfl, rfl, rfl, rfl, rfl, wide_narrow x6.1 (by assumption), ⟨_, wNar_R (R8_num _), rfl⟩, ?_⟩
    intro x9
    intro h4
    obtain ⟨rh4_1, h4⟩ := h4
    try simp only [num_vW (n := x6.1) (by assumption)] at h4
    refine ⟨rfl, rfl, rfl, rfl, rfl, rfl, rfl, rfl, ?_⟩
    refine ⟨rfl, rfl, rfl, rfl, rfl, rfl, rfl, rfl, ?_⟩
    have hq := md_ok (d := d) (by assumption) (by assumption) (by assumption) (by assumption)
    exact fin2 (by rw [num_vI r_a, num_vI r_b, num_vI r_d]; exact hq) (by assumption) rfl

def share_more_C : List Value → List Slot → Ctr := fun vs hs => ⟨Int × Int × Int, fun zx => .tuple #[vI zx.1, vI zx.2.1, .int .i64 zx.2.2], fun _ => hs, fun zx => R4 zx.1 ∧ R4 zx.2.1 ∧ zx = sMore (num (varg vs 1)) (num (varg vs 2))⟩
set_option maxRecDepth 100000 in
theorem share_more_vc (a : Int) (b : Int) : codeW Try.prog 27 none 2000 none (bodyOf Try.f87) (.reg [.sem [.nw 0], .sem [.nw 1], .sem [.nw 2], .sem [.nw 3], .sem []] (.reg [.callr [] huge_Of_C, .sem [.nw 4], .sem [.wr 4, .wr 4, .wr 4, .wr 4]] (.reg [.sem [.rd 0, .rd 0, .rd 0, .rd 0], .sem [.rd 4, .rd 4, .rd 4, .rd 4], .callr [] huge_Add_C, .sem [], .sem [], .sem [], .sem [.wr 2, .wr 2, .wr 2, .wr 2], .sem []] (.reg [.sem [.rd 1, .rd 1, .rd 1, .rd 1], .sem [.rd 4, .rd 4, .rd 4, .rd 4], .callr [] huge_Add_C, .sem [], .sem [], .sem [], .sem [.wr 3, .wr 3, .wr 3, .wr 3], .sem []] (.reg [.sem [.rd 2, .rd 2, .rd 2, .rd 2], .sem [.rd 3, .rd 3, .rd 3, .rd 3], .sem [], .sem [], .sem [], .sem [.wr 2, .wr 2, .wr 2, .wr 2], .sem [.wr 3, .wr 3, .wr 3, .wr 3], .sem []] (.done))))))
    (init #[vI a, vI b] []) (finW Try.prog Try.f87 [.rd 2, .rd 2, .rd 2, .rd 2, .rd 3, .rd 3, .rd 3, .rd 3] [] (X := Int × Int × Int) (fun zx => .tuple #[vI zx.1, vI zx.2.1, .int .i64 zx.2.2]) (fun zx => []) (fun zx => (R4 zx.1 ∧ R4 zx.2.1 ∧ zx = sMore (num (vI a)) (num (vI b))))) =
    (∀ b1 : Nat, ∀ b2 : Nat, ∀ b3 : Nat, ∀ b4 : Nat, (CallT Try.prog 75 #[.int .u64 1] [] Unit (fun _ => vI (1 : Int)) (fun _ => []) (fun _ => True)) ∧ (∃ zx : Unit, (fun _ => True) zx) ∧ ∀ _ : Unit, (True) → ∀ b5 : Nat, b5 = b5 ∧ (none : Option Nat) = none ∧ b5 = b5 ∧ (none : Option Nat) = none ∧ b5 = b5 ∧ (none : Option Nat) = none ∧ b5 = b5 ∧ (none : Option Nat) = none ∧ b1 = b1 ∧ (none : Option Nat) = none ∧ b1 = b1 ∧ (none : Option Nat) = none ∧ b1 = b1 ∧ (none : Option Nat) = none ∧ b1 = b1 ∧ (none : Option Nat) = none ∧ b5 = b5 ∧ (none : Option Nat) = none ∧ b5 = b5 ∧ (none : Option Nat) = none ∧ b5 = b5 ∧ (none : Option Nat) = none ∧ b5 = b5 ∧ (none : Option Nat) = none ∧ (CallT Try.prog 47 #[vI a, vI (1 : Int)] [] (Int × Int) (fun zx => .tuple #[vI zx.1, .int .i64 zx.2]) (fun _ => []) (fun zx => R4 zx.1 ∧ zx = hAdd (num (vI a)) (num (vI (1 : Int))))) ∧ (∃ zx : Int × Int, (fun zx => R4 zx.1 ∧ zx = hAdd (num (vI a)) (num (vI (1 : Int)))) zx) ∧ ∀ x6 : Int × Int, (R4 x6.1 ∧ x6 = hAdd (num (vI a)) (num (vI (1 : Int)))) → b3 = b3 ∧ (none : Option Nat) = none ∧ b3 = b3 ∧ (none : Option Nat) = none ∧ b3 = b3 ∧ (none : Option Nat) = none ∧ b3 = b3 ∧ (none : Option Nat) = none ∧ b2 = b2 ∧ (none : Option Nat) = none ∧ b2 = b2 ∧ (none : Option Nat) = none ∧ b2 = b2 ∧ (none : Option Nat) = none ∧ b2 = b2 ∧ (none : Option Nat) = none ∧ b5 = b5 ∧ (none : Option Nat) = none ∧ b5 = b5 ∧ (none : Option Nat) = none ∧ b5 = b5 ∧ (none : Option Nat) = none ∧ b5 = b5 ∧ (none : Option Nat) = none ∧ (CallT Try.prog 47 #[vI b, vI (1 : Int)] [] (Int × Int) (fun zx => .tuple #[vI zx.1, .int .i64 zx.2]) (fun _ => []) (fun zx => R4 zx.1 ∧ zx = hAdd (num (vI b)) (num (vI (1 : Int))))) ∧ (∃ zx : Int × Int, (fun zx => R4 zx.1 ∧ zx = hAdd (num (vI b)) (num (vI (1 : Int)))) zx) ∧ ∀ x7 : Int × Int, (R4 x7.1 ∧ x7 = hAdd (num (vI b)) (num (vI (1 : Int)))) → b4 = b4 ∧ (none : Option Nat) = none ∧ b4 = b4 ∧ (none : Option Nat) = none ∧ b4 = b4 ∧ (none : Option Nat) = none ∧ b4 = b4 ∧ (none : Option Nat) = none ∧ b3 = b3 ∧ (none : Option Nat) = none ∧ b3 = b3 ∧ (none : Option Nat) = none ∧ b3 = b3 ∧ (none : Option Nat) = none ∧ b3 = b3 ∧ (none : Option Nat) = none ∧ b4 = b4 ∧ (none : Option Nat) = none ∧ b4 = b4 ∧ (none : Option Nat) = none ∧ b4 = b4 ∧ (none : Option Nat) = none ∧ b4 = b4 ∧ (none : Option Nat) = none ∧ b3 = b3 ∧ (none : Option Nat) = none ∧ b3 = b3 ∧ (none : Option Nat) = none ∧ b3 = b3 ∧ (none : Option Nat) = none ∧ b3 = b3 ∧ (none : Option Nat) = none ∧ b4 = b4 ∧ (none : Option Nat) = none ∧ b4 = b4 ∧ (none : Option Nat) = none ∧ b4 = b4 ∧ (none : Option Nat) = none ∧ b4 = b4 ∧ (none : Option Nat) = none ∧ b3 = b3 ∧ (none : Option Nat) = none ∧ b3 = b3 ∧ (none : Option Nat) = none ∧ b3 = b3 ∧ (none : Option Nat) = none ∧ b3 = b3 ∧ (none : Option Nat) = none ∧ b4 = b4 ∧ (none : Option Nat) = none ∧ b4 = b4 ∧ (none : Option Nat) = none ∧ b4 = b4 ∧ (none : Option Nat) = none ∧ b4 = b4 ∧ (none : Option Nat) = none ∧ ∃ zx : Int × Int × Int, (R4 zx.1 ∧ R4 zx.2.1 ∧ zx = sMore (num (vI a)) (num (vI b))) ∧ Value.tuple #[vI x6.1, vI x7.1, .int .i64 (if x7.2 > x6.2 then x7.2 else x6.2)] = .tuple #[vI zx.1, vI zx.2.1, .int .i64 zx.2.2] ∧ True) := by kernel_rfl
set_option maxRecDepth 100000 in
theorem share_more (a : Int) (b : Int) (r_a : R4 a) (r_b : R4 b) : CallT Try.prog 87 #[vI a, vI b] [] (Int × Int × Int) (fun zx => .tuple #[vI zx.1, vI zx.2.1, .int .i64 zx.2.2]) (fun zx => []) (fun zx => (R4 zx.1 ∧ R4 zx.2.1 ∧ zx = sMore (num (vI a)) (num (vI b)))) := by
  refine call_of (c := bodyOf Try.f87) (n := 27) (fn := Try.f87) Try.mixed Try.func87 (by kernel_rfl) (by kernel_rfl) (by kernel_rfl) 2000 _ [.rd 2, .rd 2, .rd 2, .rd 2, .rd 3, .rd 3, .rd 3, .rd 3] [] rfl rfl (Eq.mpr (share_more_vc a b) ?_)
  intro b1
  intro b2
  intro b3
  intro b4
  refine ⟨huge_Of (1 : Int) (by first | assumption | exact W_lim _ _ | (unfold W; decide)), ⟨(), trivial⟩, ?_⟩
  intro _
  intro _
  intro b5
  refine ⟨rfl, rfl, rfl, rfl, rfl, rfl, rfl, rfl, ?_⟩
  refine ⟨rfl, rfl, rfl, rfl, rfl, rfl, rfl, rfl, rfl, rfl, rfl, rfl, rfl, rfl, rfl, rfl, huge_Add a (1 : Int) (by assumption) (by unfold R4; decide), ⟨hAdd (num (vI a)) (num (vI (1 : Int))), hAdd_R (R4_num _) (R4_num _), rfl⟩, ?_⟩
  intro x6
  intro h1
  obtain ⟨rh1_1, h1⟩ := h1
  try simp only [num_vI (n := a) (by assumption), num_vI (n := (1 : Int)) (by unfold R4; decide)] at h1
  have h1 := h1
  refine ⟨rfl, rfl, rfl, rfl, rfl, rfl, rfl, rfl, ?_⟩
  refine ⟨rfl, rfl, rfl, rfl, rfl, rfl, rfl, rfl, rfl, rfl, rfl, rfl, rfl, rfl, rfl, rfl, huge_Add b (1 : Int) (by assumption) (by unfold R4; decide), ⟨hAdd (num (vI b)) (num (vI (1 : Int))), hAdd_R (R4_num _) (R4_num _), rfl⟩, ?_⟩
  intro x7
  intro h2
  obtain ⟨rh2_1, h2⟩ := h2
  try simp only [num_vI (n := b) (by assumption), num_vI (n := (1 : Int)) (by unfold R4; decide)] at h2
  have h2 := h2
  refine ⟨rfl, rfl, rfl, rfl, rfl, rfl, rfl, rfl, ?_⟩
  refine ⟨rfl, rfl, rfl, rfl, rfl, rfl, rfl, rfl, rfl, rfl, rfl, rfl, rfl, rfl, rfl, rfl, rfl, rfl, rfl, rfl, rfl, rfl, rfl, rfl, rfl, rfl, rfl, rfl, rfl, rfl, rfl, rfl, ?_⟩
  refine ⟨rfl, rfl, rfl, rfl, rfl, rfl, rfl, rfl, rfl, rfl, rfl, rfl, rfl, rfl, rfl, rfl, ?_⟩
  exact ⟨sMore a b, ⟨(sMore_R r_a r_b).1, (sMore_R r_a r_b).2, by rw [num_vI r_a, num_vI r_b]⟩, by subst h1 h2; rfl, trivial⟩

def share_In_C : List Value → List Slot → Ctr := fun vs hs => ⟨Int × Int, fun zx => .tuple #[vI zx.1, .int .i64 zx.2], fun _ => hs, fun zx => R4 zx.1 ∧ zx = sIn (num (varg vs 1)) (num (varg vs 2)) (num (varg vs 3))⟩
set_option maxRecDepth 100000 in
set_option maxHeartbeats 1000000 in
theorem share_In_vc (A : Int) (S : Int) (n : Int) : codeW Try.prog 66 none 2000 none (bodyOf Try.f50) (.reg [.sem [.nw 0], .sem [.nw 1], .sem [.nw 2], .sem [.nw 3], .sem []] (.reg [.sem [.rd 2, .rd 2, .rd 2, .rd 2], .sem [], .eq (f_eq)] (.cond (.reg [.sem [.rd 2, .rd 2, .rd 2, .rd 2], .sem [.wr 3, .wr 3, .wr 3, .wr 3], .sem []] (.done)) (.reg [.sem [.rd 0, .rd 0, .rd 0, .rd 0], .sem [.rd 1, .rd 1, .rd 1, .rd 1], .callr [] share_more_C, .sem [], .sem [], .sem [], .sem [], .sem [.nw 4], .sem [.nw 5], .sem [.wr 4, .wr 4, .wr 4, .wr 4], .sem [.wr 5, .wr 5, .wr 5, .wr 5], .sem []] (.reg [.sem [], .sem []] (.cond (.reg [.sem [], .sem [], .sem [.wr 3, .wr 3, .wr 3, .wr 3], .sem []] (.done)) (.reg [.sem [.rd 2, .rd 2, .rd 2, .rd 2], .sem [.rd 5, .rd 5, .rd 5, .rd 5], .sem [.rd 4, .rd 4, .rd 4, .rd 4], .callr [] wide_MulDiv_C, .sem [], .sem [], .sem [], .sem [.nw 6], .sem [.wr 6, .wr 6, .wr 6, .wr 6], .sem []] (.reg [.sem [], .sem [], .sem []] (.cond (.reg [.sem [], .sem [], .sem [.wr 3, .wr 3, .wr 3, .wr 3], .sem []] (.done)) (.reg [.sem [.rd 6, .rd 6, .rd 6, .rd 6], .sem [], .eq (f_eq), .sem []] (.cond (.reg [.sem [.rd 6, .rd 6, .rd 6, .rd 6], .sem [.wr 3, .wr 3, .wr 3, .wr 3], .sem []] (.done)) (.reg [.sem [.rd 0, .rd 0, .rd 0, .rd 0], .sem [.rd 2, .rd 2, .rd 2, .rd 2], .callr [] huge_Add_C, .sem [], .sem [], .sem [], .sem []] (.reg [.sem [.rd 1, .rd 1, .rd 1, .rd 1], .sem [.rd 6, .rd 6, .rd 6, .rd 6], .callr [] huge_Add_C, .sem [], .sem [], .sem [], .sem [.nw 7], .sem [.wr 7, .wr 7, .wr 7, .wr 7], .sem []] (.caseP (fun s => (ci (s.fr 10)) != (0 : Int)) (.reg [.sem [], .gen [] (one (.bool true)), .sem [], .no, .no, .sem []] (.condT (.reg [.sem [], .sem [.wr 3, .wr 3, .wr 3, .wr 3], .sem []] (.done)))) (.reg [.sem [], .gen [] (one (.bool false)), .sem [], .sem [], .sem [], .sem []] (.cond (.reg [.sem [], .sem [.wr 3, .wr 3, .wr 3, .wr 3], .sem []] (.done)) (.reg [.sem [.rd 6, .rd 6, .rd 6, .rd 6], .sem [.wr 3, .wr 3, .wr 3, .wr 3], .sem []] (.done))))))))))))))))))
    (init #[vI A, vI S, vI n] []) (finW Try.prog Try.f50 [.rd 3, .rd 3, .rd 3, .rd 3] [] (X := Int × Int) (fun zx => .tuple #[vI zx.1, .int .i64 zx.2]) (fun zx => []) (fun zx => (R4 zx.1 ∧ zx = sIn (num (vI A)) (num (vI S)) (num (vI n))))) =
    (∀ b1 : Nat, ∀ b2 : Nat, ∀ b3 : Nat, ∀ b4 : Nat, b3 = b3 ∧ (none : Option Nat) = none ∧ b3 = b3 ∧ (none : Option Nat) = none ∧ b3 = b3 ∧ (none : Option Nat) = none ∧ b3 = b3 ∧ (none : Option Nat) = none ∧ (PureRun Try.prog (xBin .eql 44 (vI n) (vI 0)) (.bool (num (vI n) == num (vI 0)))) ∧ ((num (vI n) == num (vI 0)) = true → b3 = b3 ∧ (none : Option Nat) = none ∧ b3 = b3 ∧ (none : Option Nat) = none ∧ b3 = b3 ∧ (none : Option Nat) = none ∧ b3 = b3 ∧ (none : Option Nat) = none ∧ b4 = b4 ∧ (none : Option Nat) = none ∧ b4 = b4 ∧ (none : Option Nat) = none ∧ b4 = b4 ∧ (none : Option Nat) = none ∧ b4 = b4 ∧ (none : Option Nat) = none ∧ b4 = b4 ∧ (none : Option Nat) = none ∧ b4 = b4 ∧ (none : Option Nat) = none ∧ b4 = b4 ∧ (none : Option Nat) = none ∧ b4 = b4 ∧ (none : Option Nat) = none ∧ ∃ zx : Int × Int, (R4 zx.1 ∧ zx = sIn (num (vI A)) (num (vI S)) (num (vI n))) ∧ Value.tuple #[vI n, .int .i64 3] = .tuple #[vI zx.1, .int .i64 zx.2] ∧ True) ∧ ((num (vI n) == num (vI 0)) = false → b1 = b1 ∧ (none : Option Nat) = none ∧ b1 = b1 ∧ (none : Option Nat) = none ∧ b1 = b1 ∧ (none : Option Nat) = none ∧ b1 = b1 ∧ (none : Option Nat) = none ∧ b2 = b2 ∧ (none : Option Nat) = none ∧ b2 = b2 ∧ (none : Option Nat) = none ∧ b2 = b2 ∧ (none : Option Nat) = none ∧ b2 = b2 ∧ (none : Option Nat) = none ∧ (CallT Try.prog 87 #[vI A, vI S] [] (Int × Int × Int) (fun zx => .tuple #[vI zx.1, vI zx.2.1, .int .i64 zx.2.2]) (fun _ => []) (fun zx => R4 zx.1 ∧ R4 zx.2.1 ∧ zx = sMore (num (vI A)) (num (vI S)))) ∧ (∃ zx : Int × Int × Int, (fun zx => R4 zx.1 ∧ R4 zx.2.1 ∧ zx = sMore (num (vI A)) (num (vI S))) zx) ∧ ∀ x5 : Int × Int × Int, (R4 x5.1 ∧ R4 x5.2.1 ∧ x5 = sMore (num (vI A)) (num (vI S))) → ∀ b6 : Nat, ∀ b7 : Nat, b6 = b6 ∧ (none : Option Nat) = none ∧ b6 = b6 ∧ (none : Option Nat) = none ∧ b6 = b6 ∧ (none : Option Nat) = none ∧ b6 = b6 ∧ (none : Option Nat) = none ∧ b7 = b7 ∧ (none : Option Nat) = none ∧ b7 = b7 ∧ (none : Option Nat) = none ∧ b7 = b7 ∧ (none : Option Nat) = none ∧ b7 = b7 ∧ (none : Option Nat) = none ∧ ((x5.2.2 != (0 : Int)) = true → b4 = b4 ∧ (none : Option Nat) = none ∧ b4 = b4 ∧ (none : Option Nat) = none ∧ b4 = b4 ∧ (none : Option Nat) = none ∧ b4 = b4 ∧ (none : Option Nat) = none ∧ b4 = b4 ∧ (none : Option Nat) = none ∧ b4 = b4 ∧ (none : Option Nat) = none ∧ b4 = b4 ∧ (none : Option Nat) = none ∧ b4 = b4 ∧ (none : Option Nat) = none ∧ ∃ zx : Int × Int, (R4 zx.1 ∧ zx = sIn (num (vI A)) (num (vI S)) (num (vI n))) ∧ Value.tuple #[.agg #[.int .u64 0, .int .u64 0, .int .u64 0, .int .u64 0], .int .i64 x5.2.2] = .tuple #[vI zx.1, .int .i64 zx.2] ∧ True) ∧ ((x5.2.2 != (0 : Int)) = false → b3 = b3 ∧ (none : Option Nat) = none ∧ b3 = b3 ∧ (none : Option Nat) = none ∧ b3 = b3 ∧ (none : Option Nat) = none ∧ b3 = b3 ∧ (none : Option Nat) = none ∧ b7 = b7 ∧ (none : Option Nat) = none ∧ b7 = b7 ∧ (none : Option Nat) = none ∧ b7 = b7 ∧ (none : Option Nat) = none ∧ b7 = b7 ∧ (none : Option Nat) = none ∧ b6 = b6 ∧ (none : Option Nat) = none ∧ b6 = b6 ∧ (none : Option Nat) = none ∧ b6 = b6 ∧ (none : Option Nat) = none ∧ b6 = b6 ∧ (none : Option Nat) = none ∧ (CallT Try.prog 34 #[vI n, vI x5.2.1, vI x5.1] [] (Int × Int) (fun zx => .tuple #[vI zx.1, .int .i64 zx.2]) (fun _ => []) (fun zx => R4 zx.1 ∧ zx = wMulDiv (num (vI n)) (num (vI x5.2.1)) (num (vI x5.1)))) ∧ (∃ zx : Int × Int, (fun zx => R4 zx.1 ∧ zx = wMulDiv (num (vI n)) (num (vI x5.2.1)) (num (vI x5.1))) zx) ∧ ∀ x8 : Int × Int, (R4 x8.1 ∧ x8 = wMulDiv (num (vI n)) (num (vI x5.2.1)) (num (vI x5.1))) → ∀ b9 : Nat, b9 = b9 ∧ (none : Option Nat) = none ∧ b9 = b9 ∧ (none : Option Nat) = none ∧ b9 = b9 ∧ (none : Option Nat) = none ∧ b9 = b9 ∧ (none : Option Nat) = none ∧ ((x8.2 != (0 : Int)) = true → b4 = b4 ∧ (none : Option Nat) = none ∧ b4 = b4 ∧ (none : Option Nat) = none ∧ b4 = b4 ∧ (none : Option Nat) = none ∧ b4 = b4 ∧ (none : Option Nat) = none ∧ b4 = b4 ∧ (none : Option Nat) = none ∧ b4 = b4 ∧ (none : Option Nat) = none ∧ b4 = b4 ∧ (none : Option Nat) = none ∧ b4 = b4 ∧ (none : Option Nat) = none ∧ ∃ zx : Int × Int, (R4 zx.1 ∧ zx = sIn (num (vI A)) (num (vI S)) (num (vI n))) ∧ Value.tuple #[.agg #[.int .u64 0, .int .u64 0, .int .u64 0, .int .u64 0], .int .i64 x8.2] = .tuple #[vI zx.1, .int .i64 zx.2] ∧ True) ∧ ((x8.2 != (0 : Int)) = false → b9 = b9 ∧ (none : Option Nat) = none ∧ b9 = b9 ∧ (none : Option Nat) = none ∧ b9 = b9 ∧ (none : Option Nat) = none ∧ b9 = b9 ∧ (none : Option Nat) = none ∧ (PureRun Try.prog (xBin .eql 44 (vI x8.1) (vI 0)) (.bool (num (vI x8.1) == num (vI 0)))) ∧ ((num (vI x8.1) == num (vI 0)) = true → b9 = b9 ∧ (none : Option Nat) = none ∧ b9 = b9 ∧ (none : Option Nat) = none ∧ b9 = b9 ∧ (none : Option Nat) = none ∧ b9 = b9 ∧ (none : Option Nat) = none ∧ b4 = b4 ∧ (none : Option Nat) = none ∧ b4 = b4 ∧ (none : Option Nat) = none ∧ b4 = b4 ∧ (none : Option Nat) = none ∧ b4 = b4 ∧ (none : Option Nat) = none ∧ b4 = b4 ∧ (none : Option Nat) = none ∧ b4 = b4 ∧ (none : Option Nat) = none ∧ b4 = b4 ∧ (none : Option Nat) = none ∧ b4 = b4 ∧ (none : Option Nat) = none ∧ ∃ zx : Int × Int, (R4 zx.1 ∧ zx = sIn (num (vI A)) (num (vI S)) (num (vI n))) ∧ Value.tuple #[vI x8.1, .int .i64 3] = .tuple #[vI zx.1, .int .i64 zx.2] ∧ True) ∧ ((num (vI x8.1) == num (vI 0)) = false → b1 = b1 ∧ (none : Option Nat) = none ∧ b1 = b1 ∧ (none : Option Nat) = none ∧ b1 = b1 ∧ (none : Option Nat) = none ∧ b1 = b1 ∧ (none : Option Nat) = none ∧ b3 = b3 ∧ (none : Option Nat) = none ∧ b3 = b3 ∧ (none : Option Nat) = none ∧ b3 = b3 ∧ (none : Option Nat) = none ∧ b3 = b3 ∧ (none : Option Nat) = none ∧ (CallT Try.prog 47 #[vI A, vI n] [] (Int × Int) (fun zx => .tuple #[vI zx.1, .int .i64 zx.2]) (fun _ => []) (fun zx => R4 zx.1 ∧ zx = hAdd (num (vI A)) (num (vI n)))) ∧ (∃ zx : Int × Int, (fun zx => R4 zx.1 ∧ zx = hAdd (num (vI A)) (num (vI n))) zx) ∧ ∀ x10 : Int × Int, (R4 x10.1 ∧ x10 = hAdd (num (vI A)) (num (vI n))) → b2 = b2 ∧ (none : Option Nat) = none ∧ b2 = b2 ∧ (none : Option Nat) = none ∧ b2 = b2 ∧ (none : Option Nat) = none ∧ b2 = b2 ∧ (none : Option Nat) = none ∧ b9 = b9 ∧ (none : Option Nat) = none ∧ b9 = b9 ∧ (none : Option Nat) = none ∧ b9 = b9 ∧ (none : Option Nat) = none ∧ b9 = b9 ∧ (none : Option Nat) = none ∧ (CallT Try.prog 47 #[vI S, vI x8.1] [] (Int × Int) (fun zx => .tuple #[vI zx.1, .int .i64 zx.2]) (fun _ => []) (fun zx => R4 zx.1 ∧ zx = hAdd (num (vI S)) (num (vI x8.1)))) ∧ (∃ zx : Int × Int, (fun zx => R4 zx.1 ∧ zx = hAdd (num (vI S)) (num (vI x8.1))) zx) ∧ ∀ x11 : Int × Int, (R4 x11.1 ∧ x11 = hAdd (num (vI S)) (num (vI x8.1))) → ∀ b12 : Nat, b12 = b12 ∧ (none : Option Nat) = none ∧ b12 = b12 ∧ (none : Option Nat) = none ∧ b12 = b12 ∧ (none : Option Nat) = none ∧ b12 = b12 ∧ (none : Option Nat) = none ∧ ((x10.2 != (0 : Int)) = true → (∃ _ : Unit, True ∧ Value.bool (x10.2 != (0 : Int)) = .bool true) ∧ ∀ _ : Unit, (True) → true = !false ∧ true = !false ∧ (true = true) ∧ b4 = b4 ∧ (none : Option Nat) = none ∧ b4 = b4 ∧ (none : Option Nat) = none ∧ b4 = b4 ∧ (none : Option Nat) = none ∧ b4 = b4 ∧ (none : Option Nat) = none ∧ b4 = b4 ∧ (none : Option Nat) = none ∧ b4 = b4 ∧ (none : Option Nat) = none ∧ b4 = b4 ∧ (none : Option Nat) = none ∧ b4 = b4 ∧ (none : Option Nat) = none ∧ ∃ zx : Int × Int, (R4 zx.1 ∧ zx = sIn (num (vI A)) (num (vI S)) (num (vI n))) ∧ Value.tuple #[.agg #[.int .u64 0, .int .u64 0, .int .u64 0, .int .u64 0], .int .i64 2] = .tuple #[vI zx.1, .int .i64 zx.2] ∧ True) ∧ ((x10.2 != (0 : Int)) = false → (∃ _ : Unit, True ∧ Value.bool (x10.2 != (0 : Int)) = .bool false) ∧ ∀ _ : Unit, (True) → false = false ∧ false = false ∧ ((x11.2 != (0 : Int)) = true → b4 = b4 ∧ (none : Option Nat) = none ∧ b4 = b4 ∧ (none : Option Nat) = none ∧ b4 = b4 ∧ (none : Option Nat) = none ∧ b4 = b4 ∧ (none : Option Nat) = none ∧ b4 = b4 ∧ (none : Option Nat) = none ∧ b4 = b4 ∧ (none : Option Nat) = none ∧ b4 = b4 ∧ (none : Option Nat) = none ∧ b4 = b4 ∧ (none : Option Nat) = none ∧ ∃ zx : Int × Int, (R4 zx.1 ∧ zx = sIn (num (vI A)) (num (vI S)) (num (vI n))) ∧ Value.tuple #[.agg #[.int .u64 0, .int .u64 0, .int .u64 0, .int .u64 0], .int .i64 2] = .tuple #[vI zx.1, .int .i64 zx.2] ∧ True) ∧ ((x11.2 != (0 : Int)) = false → b9 = b9 ∧ (none : Option Nat) = none ∧ b9 = b9 ∧ (none : Option Nat) = none ∧ b9 = b9 ∧ (none : Option Nat) = none ∧ b9 = b9 ∧ (none : Option Nat) = none ∧ b4 = b4 ∧ (none : Option Nat) = none ∧ b4 = b4 ∧ (none : Option Nat) = none ∧ b4 = b4 ∧ (none : Option Nat) = none ∧ b4 = b4 ∧ (none : Option Nat) = none ∧ b4 = b4 ∧ (none : Option Nat) = none ∧ b4 = b4 ∧ (none : Option Nat) = none ∧ b4 = b4 ∧ (none : Option Nat) = none ∧ b4 = b4 ∧ (none : Option Nat) = none ∧ ∃ zx : Int × Int, (R4 zx.1 ∧ zx = sIn (num (vI A)) (num (vI S)) (num (vI n))) ∧ Value.tuple #[vI x8.1, .int .i64 0] = .tuple #[vI zx.1, .int .i64 zx.2] ∧ True))))))) := by kernel_rfl
set_option maxRecDepth 100000 in
set_option maxHeartbeats 1000000 in
theorem share_In (A : Int) (S : Int) (n : Int) (r_A : R4 A) (r_S : R4 S) (r_n : R4 n) : CallT Try.prog 50 #[vI A, vI S, vI n] [] (Int × Int) (fun zx => .tuple #[vI zx.1, .int .i64 zx.2]) (fun zx => []) (fun zx => (R4 zx.1 ∧ zx = sIn (num (vI A)) (num (vI S)) (num (vI n)))) := by
  refine call_of (c := bodyOf Try.f50) (n := 66) (fn := Try.f50) Try.mixed Try.func50 (by kernel_rfl) (by kernel_rfl) (by kernel_rfl) 2000 _ [.rd 3, .rd 3, .rd 3, .rd 3] [] rfl rfl (Eq.mpr (share_In_vc A S n) ?_)
  have g0 := r_A.1; have g1 := r_S.1; have g2 := r_n.1
  have qn := quo_nonneg r_n.1 r_S.1 r_A.1
  intro b1
  intro b2
  intro b3
  intro b4
  refine ⟨rfl, rfl, rfl, rfl, rfl, rfl, rfl, rfl, Try.xeq44 n 0, ?_⟩
  refine ⟨fun h1 => ?_, fun h1 => ?_⟩
  · refine ⟨rfl, rfl, rfl, rfl, rfl, rfl, rfl, rfl, rfl, rfl, rfl, rfl, rfl, rfl, rfl, rfl, ?_⟩
    refine ⟨rfl, rfl, rfl, rfl, rfl, rfl, rfl, rfl, ?_⟩
    try simp (disch := first | assumption | exact R4_zero | exact R4_one) only [num_vI, hCmp_pos, hCmp_neg, hCmp_le0, hCmp_ge0, decide_eq_true_eq, decide_eq_false_iff_not, gt_iff_lt, ge_iff_le, beq_iff_eq, beq_eq_false_iff_ne, bne_iff_ne, bne_eq_false_iff_eq, ne_eq] at *
    have ha : n = 0 := by omega
    have hs : sIn A S n = (0, 3) := by
      unfold sIn
      (repeat' split) <;> first | rfl | (exfalso; omega)
    exact ⟨(0, 3), ⟨R4_zero, by first | exact hs.symm | (rw [num_vI r_A, num_vI r_S, num_vI r_n]; exact hs.symm)⟩, by rw [ha], trivial⟩
  · refine ⟨rfl, rfl, rfl, rfl, rfl, rfl, rfl, rfl, rfl, rfl, rfl, rfl, rfl, rfl, rfl, rfl, share_more A S (by assumption) (by assumption), ⟨_, (sMore_R (by first | exact R4_num _ | exact by assumption) (by first | exact R4_num _ | exact by assumption)).1, (sMore_R (by first | exact R4_num _ | exact by assumption) (by first | exact R4_num _ | exact by assumption)).2, rfl⟩, ?_⟩
    intro x5
    intro h2
    obtain ⟨rh2_1, h2⟩ := h2
    obtain ⟨rh2_21, h2⟩ := h2
    try simp only [num_vI (n := A) (by assumption), num_vI (n := S) (by assumption)] at h2
    have cm := sMore_cases h2
    intro b6
    intro b7
    refine ⟨rfl, rfl, rfl, rfl, rfl, rfl, rfl, rfl, rfl, rfl, rfl, rfl, rfl, rfl, rfl, rfl, ?_⟩
    refine ⟨fun h3 => ?_, fun h3 => ?_⟩
    · refine ⟨rfl, rfl, rfl, rfl, rfl, rfl, rfl, rfl, ?_⟩
      refine ⟨rfl, rfl, rfl, rfl, rfl, rfl, rfl, rfl, ?_⟩
      try simp (disch := first | assumption | exact R4_zero | exact R4_one) only [num_vI, hCmp_pos, hCmp_neg, hCmp_le0, hCmp_ge0, decide_eq_true_eq, decide_eq_false_iff_not, gt_iff_lt, ge_iff_le, beq_iff_eq, beq_eq_false_iff_ne, bne_iff_ne, bne_eq_false_iff_eq, ne_eq] at *
      have he : x5.2.2 = 2 := by omega
      have hs : sIn A S n = (0, 2) := by
        unfold sIn
        (repeat' split) <;> first | rfl | (exfalso; omega)
      exact ⟨(0, 2), ⟨R4_zero, by first | exact hs.symm | (rw [num_vI r_A, num_vI r_S, num_vI r_n]; exact hs.symm)⟩, by rw [he, vI_zero], trivial⟩
    · refine ⟨rfl, rfl, rfl, rfl, rfl, rfl, rfl, rfl, rfl, rfl, rfl, rfl, rfl, rfl, rfl, rfl, rfl, rfl, rfl, rfl, rfl, rfl, rfl, rfl, wide_MulDiv n x5.2.1 x5.1 (by assumption) (by assumption) (by assumption), ⟨_, wMulDiv_R (R4_num _) (R4_num _) (R4_num _), rfl⟩, ?_⟩
      intro x8
      intro h4
      obtain ⟨rh4_1, h4⟩ := h4
      try simp only [num_vI (n := n) (by assumption), num_vI (n := x5.2.1) (by assumption), num_vI (n := x5.1) (by assumption)] at h4
      have cq := wMulDiv_cases h4 (by try simp (disch := first | assumption | exact R4_zero | exact R4_one) only [num_vI, hCmp_pos, hCmp_neg, hCmp_le0, hCmp_ge0, decide_eq_true_eq, decide_eq_false_iff_not, gt_iff_lt, ge_iff_le, beq_iff_eq, beq_eq_false_iff_ne, bne_iff_ne, bne_eq_false_iff_eq, ne_eq] at *; omega)
      rw [show x5.2.1 = S + 1 from by try simp (disch := first | assumption | exact R4_zero | exact R4_one) only [num_vI, hCmp_pos, hCmp_neg, hCmp_le0, hCmp_ge0, decide_eq_true_eq, decide_eq_false_iff_not, gt_iff_lt, ge_iff_le, beq_iff_eq, beq_eq_false_iff_ne, bne_iff_ne, bne_eq_false_iff_eq, ne_eq] at *; omega, show x5.1 = A + 1 from by try simp (disch := first | assumption | exact R4_zero | exact R4_one) only [num_vI, hCmp_pos, hCmp_neg, hCmp_le0, hCmp_ge0, decide_eq_true_eq, decide_eq_false_iff_not, gt_iff_lt, ge_iff_le, beq_iff_eq, beq_eq_false_iff_ne, bne_iff_ne, bne_eq_false_iff_eq, ne_eq] at *; omega] at cq
      intro b9
      refine ⟨rfl, rfl, rfl, rfl, rfl, rfl, rfl, rfl, ?_⟩
      refine ⟨fun h5 => ?_, fun h5 => ?_⟩
      · refine ⟨rfl, rfl, rfl, rfl, rfl, rfl, rfl, rfl, ?_⟩
        refine ⟨rfl, rfl, rfl, rfl, rfl, rfl, rfl, rfl, ?_⟩
        try simp (disch := first | assumption | exact R4_zero | exact R4_one) only [num_vI, hCmp_pos, hCmp_neg, hCmp_le0, hCmp_ge0, decide_eq_true_eq, decide_eq_false_iff_not, gt_iff_lt, ge_iff_le, beq_iff_eq, beq_eq_false_iff_ne, bne_iff_ne, bne_eq_false_iff_eq, ne_eq] at *
        have he : x8.2 = 2 := by omega
        have hs : sIn A S n = (0, 2) := by
          unfold sIn
          (repeat' split) <;> first | rfl | (exfalso; omega)
        exact ⟨(0, 2), ⟨R4_zero, by first | exact hs.symm | (rw [num_vI r_A, num_vI r_S, num_vI r_n]; exact hs.symm)⟩, by rw [he, vI_zero], trivial⟩
      · refine ⟨rfl, rfl, rfl, rfl, rfl, rfl, rfl, rfl, Try.xeq44 x8.1 0, ?_⟩
        refine ⟨fun h6 => ?_, fun h6 => ?_⟩
        · refine ⟨rfl, rfl, rfl, rfl, rfl, rfl, rfl, rfl, rfl, rfl, rfl, rfl, rfl, rfl, rfl, rfl, ?_⟩
          refine ⟨rfl, rfl, rfl, rfl, rfl, rfl, rfl, rfl, ?_⟩
          try simp (disch := first | assumption | exact R4_zero | exact R4_one) only [num_vI, hCmp_pos, hCmp_neg, hCmp_le0, hCmp_ge0, decide_eq_true_eq, decide_eq_false_iff_not, gt_iff_lt, ge_iff_le, beq_iff_eq, beq_eq_false_iff_ne, bne_iff_ne, bne_eq_false_iff_eq, ne_eq] at *
          have ha : x8.1 = 0 := by omega
          have hs : sIn A S n = (0, 3) := by
            unfold sIn
            (repeat' split) <;> first | rfl | (exfalso; omega)
          exact ⟨(0, 3), ⟨R4_zero, by first | exact hs.symm | (rw [num_vI r_A, num_vI r_S, num_vI r_n]; exact hs.symm)⟩, by rw [ha], trivial⟩
        · refine ⟨rfl, rfl, rfl, rfl, rfl, rfl, rfl, rfl, rfl, rfl, rfl, rfl, rfl, rfl, rfl, rfl, huge_Add A n (by assumption) (by assumption), ⟨hAdd (num (vI A)) (num (vI n)), hAdd_R (R4_num _) (R4_num _), rfl⟩, ?_⟩
          intro x10
          intro h7
          obtain ⟨rh7_1, h7⟩ := h7
          try simp only [num_vI (n := A) (by assumption), num_vI (n := n) (by assumption)] at h7
          have ha := h7
          have cha := hAdd_cases h7
          refine ⟨rfl, rfl, rfl, rfl, rfl, rfl, rfl, rfl, rfl, rfl, rfl, rfl, rfl, rfl, rfl, rfl, huge_Add S x8.1 (by assumption) (by assumption), ⟨hAdd (num (vI S)) (num (vI x8.1)), hAdd_R (R4_num _) (R4_num _), rfl⟩, ?_⟩
          intro x11
          intro h8
          obtain ⟨rh8_1, h8⟩ := h8
          try simp only [num_vI (n := S) (by assumption), num_vI (n := x8.1) (by assumption)] at h8
          have hb := h8
          have chb := hAdd_cases h8
          intro b12
          refine ⟨rfl, rfl, rfl, rfl, rfl, rfl, rfl, rfl, ?_⟩
          refine ⟨fun h9 => ?_, fun h9 => ?_⟩
          · refine ⟨⟨(), trivial, congrArg Value.bool h9⟩, ?_⟩
            intro _
            intro _
            refine ⟨rfl, rfl, ?_⟩
            refine ⟨rfl, ?_⟩
            refine ⟨rfl, rfl, rfl, rfl, rfl, rfl, rfl, rfl, ?_⟩
            refine ⟨rfl, rfl, rfl, rfl, rfl, rfl, rfl, rfl, ?_⟩
            try simp (disch := first | assumption | exact R4_zero | exact R4_one) only [num_vI, hCmp_pos, hCmp_neg, hCmp_le0, hCmp_ge0, decide_eq_true_eq, decide_eq_false_iff_not, gt_iff_lt, ge_iff_le, beq_iff_eq, beq_eq_false_iff_ne, bne_iff_ne, bne_eq_false_iff_eq, ne_eq] at *
            have hs : sIn A S n = (0, 2) := by
              unfold sIn
              (repeat' split) <;> first | rfl | (exfalso; omega)
            exact ⟨(0, 2), ⟨R4_zero, by first | exact hs.symm | (rw [num_vI r_A, num_vI r_S, num_vI r_n]; exact hs.symm)⟩, by rw [vI_zero], trivial⟩
          · refine ⟨⟨(), trivial, congrArg Value.bool h9⟩, ?_⟩
            intro _
            intro _
            refine ⟨rfl, rfl, ?_⟩
            refine ⟨fun h10 => ?_, fun h10 => ?_⟩
            · refine ⟨rfl, rfl, rfl, rfl, rfl, rfl, rfl, rfl, ?_⟩
              refine ⟨rfl, rfl, rfl, rfl, rfl, rfl, rfl, rfl, ?_⟩
              try simp (disch := first | assumption | exact R4_zero | exact R4_one) only [num_vI, hCmp_pos, hCmp_neg, hCmp_le0, hCmp_ge0, decide_eq_true_eq, decide_eq_false_iff_not, gt_iff_lt, ge_iff_le, beq_iff_eq, beq_eq_false_iff_ne, bne_iff_ne, bne_eq_false_iff_eq, ne_eq] at *
              have hs : sIn A S n = (0, 2) := by
                unfold sIn
                (repeat' split) <;> first | rfl | (exfalso; omega)
              exact ⟨(0, 2), ⟨R4_zero, by first | exact hs.symm | (rw [num_vI r_A, num_vI r_S, num_vI r_n]; exact hs.symm)⟩, by rw [vI_zero], trivial⟩
            · refine ⟨rfl, rfl, rfl, rfl, rfl, rfl, rfl, rfl, rfl, rfl, rfl, rfl, rfl, rfl, rfl, rfl, ?_⟩
              refine ⟨rfl, rfl, rfl, rfl, rfl, rfl, rfl, rfl, ?_⟩
              try simp (disch := first | assumption | exact R4_zero | exact R4_one) only [num_vI, hCmp_pos, hCmp_neg, hCmp_le0, hCmp_ge0, decide_eq_true_eq, decide_eq_false_iff_not, gt_iff_lt, ge_iff_le, beq_iff_eq, beq_eq_false_iff_ne, bne_iff_ne, bne_eq_false_iff_eq, ne_eq] at *
              have ha : x8.1 = n * (S + 1) / (A + 1) := by omega
              have hs : sIn A S n = (n * (S + 1) / (A + 1), 0) := by
                unfold sIn
                (repeat' split) <;> first | rfl | (exfalso; omega)
              exact ⟨(n * (S + 1) / (A + 1), 0), ⟨ha ▸ (by assumption), by first | exact hs.symm | (rw [num_vI r_A, num_vI r_S, num_vI r_n]; exact hs.symm)⟩, by rw [ha], trivial⟩

def share_Out_C : List Value → List Slot → Ctr := fun vs hs => ⟨Int × Int, fun zx => .tuple #[vI zx.1, .int .i64 zx.2], fun _ => hs, fun zx => R4 zx.1 ∧ zx = sOut (num (varg vs 1)) (num (varg vs 2)) (num (varg vs 3))⟩
set_option maxRecDepth 100000 in
set_option maxHeartbeats 1000000 in
theorem share_Out_vc (A : Int) (S : Int) (n : Int) : codeW Try.prog 53 none 2000 none (bodyOf Try.f52) (.reg [.sem [.nw 0], .sem [.nw 1], .sem [.nw 2], .sem [.nw 3], .sem []] (.reg [.sem [.rd 2, .rd 2, .rd 2, .rd 2], .sem [], .eq (f_eq), .sem []] (.cond (.reg [.sem [.rd 2, .rd 2, .rd 2, .rd 2], .sem [.wr 3, .wr 3, .wr 3, .wr 3], .sem []] (.done)) (.reg [.sem [.rd 2, .rd 2, .rd 2, .rd 2], .sem [.rd 1, .rd 1, .rd 1, .rd 1], .callr [] huge_Cmp_C, .sem [], .sem []] (.cond (.reg [.sem [], .sem [.wr 3, .wr 3, .wr 3, .wr 3], .sem []] (.done)) (.reg [.sem [.rd 0, .rd 0, .rd 0, .rd 0], .sem [.rd 1, .rd 1, .rd 1, .rd 1], .callr [] share_more_C, .sem [], .sem [], .sem [], .sem [], .sem [.nw 4], .sem [.nw 5], .sem [.wr 4, .wr 4, .wr 4, .wr 4], .sem [.wr 5, .wr 5, .wr 5, .wr 5], .sem []] (.reg [.sem [], .sem []] (.cond (.reg [.sem [], .sem [], .sem [.wr 3, .wr 3, .wr 3, .wr 3], .sem []] (.done)) (.reg [.sem [.rd 2, .rd 2, .rd 2, .rd 2], .sem [.rd 4, .rd 4, .rd 4, .rd 4], .sem [.rd 5, .rd 5, .rd 5, .rd 5], .callr [] wide_MulDiv_C, .sem [], .sem [], .sem [], .sem [.nw 6], .sem [.wr 6, .wr 6, .wr 6, .wr 6], .sem []] (.reg [.sem [], .sem [], .sem []] (.cond (.reg [.sem [], .sem [], .sem [.wr 3, .wr 3, .wr 3, .wr 3], .sem []] (.done)) (.reg [.sem [.rd 6, .rd 6, .rd 6, .rd 6], .sem [.rd 0, .rd 0, .rd 0, .rd 0], .callr [] huge_Cmp_C, .sem [], .sem []] (.cond (.reg [.sem [], .sem [.wr 3, .wr 3, .wr 3, .wr 3], .sem []] (.done)) (.reg [.sem [.rd 6, .rd 6, .rd 6, .rd 6], .sem [.wr 3, .wr 3, .wr 3, .wr 3], .sem []] (.done)))))))))))))))
    (init #[vI A, vI S, vI n] []) (finW Try.prog Try.f52 [.rd 3, .rd 3, .rd 3, .rd 3] [] (X := Int × Int) (fun zx => .tuple #[vI zx.1, .int .i64 zx.2]) (fun zx => []) (fun zx => (R4 zx.1 ∧ zx = sOut (num (vI A)) (num (vI S)) (num (vI n))))) =
    (∀ b1 : Nat, ∀ b2 : Nat, ∀ b3 : Nat, ∀ b4 : Nat, b3 = b3 ∧ (none : Option Nat) = none ∧ b3 = b3 ∧ (none : Option Nat) = none ∧ b3 = b3 ∧ (none : Option Nat) = none ∧ b3 = b3 ∧ (none : Option Nat) = none ∧ (PureRun Try.prog (xBin .eql 44 (vI n) (vI 0)) (.bool (num (vI n) == num (vI 0)))) ∧ ((num (vI n) == num (vI 0)) = true → b3 = b3 ∧ (none : Option Nat) = none ∧ b3 = b3 ∧ (none : Option Nat) = none ∧ b3 = b3 ∧ (none : Option Nat) = none ∧ b3 = b3 ∧ (none : Option Nat) = none ∧ b4 = b4 ∧ (none : Option Nat) = none ∧ b4 = b4 ∧ (none : Option Nat) = none ∧ b4 = b4 ∧ (none : Option Nat) = none ∧ b4 = b4 ∧ (none : Option Nat) = none ∧ b4 = b4 ∧ (none : Option Nat) = none ∧ b4 = b4 ∧ (none : Option Nat) = none ∧ b4 = b4 ∧ (none : Option Nat) = none ∧ b4 = b4 ∧ (none : Option Nat) = none ∧ ∃ zx : Int × Int, (R4 zx.1 ∧ zx = sOut (num (vI A)) (num (vI S)) (num (vI n))) ∧ Value.tuple #[vI n, .int .i64 3] = .tuple #[vI zx.1, .int .i64 zx.2] ∧ True) ∧ ((num (vI n) == num (vI 0)) = false → b3 = b3 ∧ (none : Option Nat) = none ∧ b3 = b3 ∧ (none : Option Nat) = none ∧ b3 = b3 ∧ (none : Option Nat) = none ∧ b3 = b3 ∧ (none : Option Nat) = none ∧ b2 = b2 ∧ (none : Option Nat) = none ∧ b2 = b2 ∧ (none : Option Nat) = none ∧ b2 = b2 ∧ (none : Option Nat) = none ∧ b2 = b2 ∧ (none : Option Nat) = none ∧ (CallT Try.prog 48 #[vI n, vI S] [] Unit (fun _ => .int .i64 (hCmp (num (vI n)) (num (vI S)))) (fun _ => []) (fun _ => True)) ∧ (∃ zx : Unit, (fun _ => True) zx) ∧ ∀ _ : Unit, (True) → ((decide ((hCmp (num (vI n)) (num (vI S))) > (0 : Int))) = true → b4 = b4 ∧ (none : Option Nat) = none ∧ b4 = b4 ∧ (none : Option Nat) = none ∧ b4 = b4 ∧ (none : Option Nat) = none ∧ b4 = b4 ∧ (none : Option Nat) = none ∧ b4 = b4 ∧ (none : Option Nat) = none ∧ b4 = b4 ∧ (none : Option Nat) = none ∧ b4 = b4 ∧ (none : Option Nat) = none ∧ b4 = b4 ∧ (none : Option Nat) = none ∧ ∃ zx : Int × Int, (R4 zx.1 ∧ zx = sOut (num (vI A)) (num (vI S)) (num (vI n))) ∧ Value.tuple #[.agg #[.int .u64 0, .int .u64 0, .int .u64 0, .int .u64 0], .int .i64 8] = .tuple #[vI zx.1, .int .i64 zx.2] ∧ True) ∧ ((decide ((hCmp (num (vI n)) (num (vI S))) > (0 : Int))) = false → b1 = b1 ∧ (none : Option Nat) = none ∧ b1 = b1 ∧ (none : Option Nat) = none ∧ b1 = b1 ∧ (none : Option Nat) = none ∧ b1 = b1 ∧ (none : Option Nat) = none ∧ b2 = b2 ∧ (none : Option Nat) = none ∧ b2 = b2 ∧ (none : Option Nat) = none ∧ b2 = b2 ∧ (none : Option Nat) = none ∧ b2 = b2 ∧ (none : Option Nat) = none ∧ (CallT Try.prog 87 #[vI A, vI S] [] (Int × Int × Int) (fun zx => .tuple #[vI zx.1, vI zx.2.1, .int .i64 zx.2.2]) (fun _ => []) (fun zx => R4 zx.1 ∧ R4 zx.2.1 ∧ zx = sMore (num (vI A)) (num (vI S)))) ∧ (∃ zx : Int × Int × Int, (fun zx => R4 zx.1 ∧ R4 zx.2.1 ∧ zx = sMore (num (vI A)) (num (vI S))) zx) ∧ ∀ x5 : Int × Int × Int, (R4 x5.1 ∧ R4 x5.2.1 ∧ x5 = sMore (num (vI A)) (num (vI S))) → ∀ b6 : Nat, ∀ b7 : Nat, b6 = b6 ∧ (none : Option Nat) = none ∧ b6 = b6 ∧ (none : Option Nat) = none ∧ b6 = b6 ∧ (none : Option Nat) = none ∧ b6 = b6 ∧ (none : Option Nat) = none ∧ b7 = b7 ∧ (none : Option Nat) = none ∧ b7 = b7 ∧ (none : Option Nat) = none ∧ b7 = b7 ∧ (none : Option Nat) = none ∧ b7 = b7 ∧ (none : Option Nat) = none ∧ ((x5.2.2 != (0 : Int)) = true → b4 = b4 ∧ (none : Option Nat) = none ∧ b4 = b4 ∧ (none : Option Nat) = none ∧ b4 = b4 ∧ (none : Option Nat) = none ∧ b4 = b4 ∧ (none : Option Nat) = none ∧ b4 = b4 ∧ (none : Option Nat) = none ∧ b4 = b4 ∧ (none : Option Nat) = none ∧ b4 = b4 ∧ (none : Option Nat) = none ∧ b4 = b4 ∧ (none : Option Nat) = none ∧ ∃ zx : Int × Int, (R4 zx.1 ∧ zx = sOut (num (vI A)) (num (vI S)) (num (vI n))) ∧ Value.tuple #[.agg #[.int .u64 0, .int .u64 0, .int .u64 0, .int .u64 0], .int .i64 x5.2.2] = .tuple #[vI zx.1, .int .i64 zx.2] ∧ True) ∧ ((x5.2.2 != (0 : Int)) = false → b3 = b3 ∧ (none : Option Nat) = none ∧ b3 = b3 ∧ (none : Option Nat) = none ∧ b3 = b3 ∧ (none : Option Nat) = none ∧ b3 = b3 ∧ (none : Option Nat) = none ∧ b6 = b6 ∧ (none : Option Nat) = none ∧ b6 = b6 ∧ (none : Option Nat) = none ∧ b6 = b6 ∧ (none : Option Nat) = none ∧ b6 = b6 ∧ (none : Option Nat) = none ∧ b7 = b7 ∧ (none : Option Nat) = none ∧ b7 = b7 ∧ (none : Option Nat) = none ∧ b7 = b7 ∧ (none : Option Nat) = none ∧ b7 = b7 ∧ (none : Option Nat) = none ∧ (CallT Try.prog 34 #[vI n, vI x5.1, vI x5.2.1] [] (Int × Int) (fun zx => .tuple #[vI zx.1, .int .i64 zx.2]) (fun _ => []) (fun zx => R4 zx.1 ∧ zx = wMulDiv (num (vI n)) (num (vI x5.1)) (num (vI x5.2.1)))) ∧ (∃ zx : Int × Int, (fun zx => R4 zx.1 ∧ zx = wMulDiv (num (vI n)) (num (vI x5.1)) (num (vI x5.2.1))) zx) ∧ ∀ x8 : Int × Int, (R4 x8.1 ∧ x8 = wMulDiv (num (vI n)) (num (vI x5.1)) (num (vI x5.2.1))) → ∀ b9 : Nat, b9 = b9 ∧ (none : Option Nat) = none ∧ b9 = b9 ∧ (none : Option Nat) = none ∧ b9 = b9 ∧ (none : Option Nat) = none ∧ b9 = b9 ∧ (none : Option Nat) = none ∧ ((x8.2 != (0 : Int)) = true → b4 = b4 ∧ (none : Option Nat) = none ∧ b4 = b4 ∧ (none : Option Nat) = none ∧ b4 = b4 ∧ (none : Option Nat) = none ∧ b4 = b4 ∧ (none : Option Nat) = none ∧ b4 = b4 ∧ (none : Option Nat) = none ∧ b4 = b4 ∧ (none : Option Nat) = none ∧ b4 = b4 ∧ (none : Option Nat) = none ∧ b4 = b4 ∧ (none : Option Nat) = none ∧ ∃ zx : Int × Int, (R4 zx.1 ∧ zx = sOut (num (vI A)) (num (vI S)) (num (vI n))) ∧ Value.tuple #[.agg #[.int .u64 0, .int .u64 0, .int .u64 0, .int .u64 0], .int .i64 x8.2] = .tuple #[vI zx.1, .int .i64 zx.2] ∧ True) ∧ ((x8.2 != (0 : Int)) = false → b9 = b9 ∧ (none : Option Nat) = none ∧ b9 = b9 ∧ (none : Option Nat) = none ∧ b9 = b9 ∧ (none : Option Nat) = none ∧ b9 = b9 ∧ (none : Option Nat) = none ∧ b1 = b1 ∧ (none : Option Nat) = none ∧ b1 = b1 ∧ (none : Option Nat) = none ∧ b1 = b1 ∧ (none : Option Nat) = none ∧ b1 = b1 ∧ (none : Option Nat) = none ∧ (CallT Try.prog 48 #[vI x8.1, vI A] [] Unit (fun _ => .int .i64 (hCmp (num (vI x8.1)) (num (vI A)))) (fun _ => []) (fun _ => True)) ∧ (∃ zx : Unit, (fun _ => True) zx) ∧ ∀ _ : Unit, (True) → ((decide ((hCmp (num (vI x8.1)) (num (vI A))) > (0 : Int))) = true → b4 = b4 ∧ (none : Option Nat) = none ∧ b4 = b4 ∧ (none : Option Nat) = none ∧ b4 = b4 ∧ (none : Option Nat) = none ∧ b4 = b4 ∧ (none : Option Nat) = none ∧ b4 = b4 ∧ (none : Option Nat) = none ∧ b4 = b4 ∧ (none : Option Nat) = none ∧ b4 = b4 ∧ (none : Option Nat) = none ∧ b4 = b4 ∧ (none : Option Nat) = none ∧ ∃ zx : Int × Int, (R4 zx.1 ∧ zx = sOut (num (vI A)) (num (vI S)) (num (vI n))) ∧ Value.tuple #[.agg #[.int .u64 0, .int .u64 0, .int .u64 0, .int .u64 0], .int .i64 8] = .tuple #[vI zx.1, .int .i64 zx.2] ∧ True) ∧ ((decide ((hCmp (num (vI x8.1)) (num (vI A))) > (0 : Int))) = false → b9 = b9 ∧ (none : Option Nat) = none ∧ b9 = b9 ∧ (none : Option Nat) = none ∧ b9 = b9 ∧ (none : Option Nat) = none ∧ b9 = b9 ∧ (none : Option Nat) = none ∧ b4 = b4 ∧ (none : Option Nat) = none ∧ b4 = b4 ∧ (none : Option Nat) = none ∧ b4 = b4 ∧ (none : Option Nat) = none ∧ b4 = b4 ∧ (none : Option Nat) = none ∧ b4 = b4 ∧ (none : Option Nat) = none ∧ b4 = b4 ∧ (none : Option Nat) = none ∧ b4 = b4 ∧ (none : Option Nat) = none ∧ b4 = b4 ∧ (none : Option Nat) = none ∧ ∃ zx : Int × Int, (R4 zx.1 ∧ zx = sOut (num (vI A)) (num (vI S)) (num (vI n))) ∧ Value.tuple #[vI x8.1, .int .i64 0] = .tuple #[vI zx.1, .int .i64 zx.2] ∧ True)))))) := by kernel_rfl
set_option maxRecDepth 100000 in
set_option maxHeartbeats 1000000 in
theorem share_Out (A : Int) (S : Int) (n : Int) (r_A : R4 A) (r_S : R4 S) (r_n : R4 n) : CallT Try.prog 52 #[vI A, vI S, vI n] [] (Int × Int) (fun zx => .tuple #[vI zx.1, .int .i64 zx.2]) (fun zx => []) (fun zx => (R4 zx.1 ∧ zx = sOut (num (vI A)) (num (vI S)) (num (vI n)))) := by
  refine call_of (c := bodyOf Try.f52) (n := 53) (fn := Try.f52) Try.mixed Try.func52 (by kernel_rfl) (by kernel_rfl) (by kernel_rfl) 2000 _ [.rd 3, .rd 3, .rd 3, .rd 3] [] rfl rfl (Eq.mpr (share_Out_vc A S n) ?_)
  have g0 := r_A.1; have g1 := r_S.1; have g2 := r_n.1
  have qn := quo_nonneg r_n.1 r_A.1 r_S.1
  intro b1
  intro b2
  intro b3
  intro b4
  refine ⟨rfl, rfl, rfl, rfl, rfl, rfl, rfl, rfl, Try.xeq44 n 0, ?_⟩
  refine ⟨fun h1 => ?_, fun h1 => ?_⟩
  · refine ⟨rfl, rfl, rfl, rfl, rfl, rfl, rfl, rfl, rfl, rfl, rfl, rfl, rfl, rfl, rfl, rfl, ?_⟩
    refine ⟨rfl, rfl, rfl, rfl, rfl, rfl, rfl, rfl, ?_⟩
    try simp (disch := first | assumption | exact R4_zero | exact R4_one) only [num_vI, hCmp_pos, hCmp_neg, hCmp_le0, hCmp_ge0, decide_eq_true_eq, decide_eq_false_iff_not, gt_iff_lt, ge_iff_le, beq_iff_eq, beq_eq_false_iff_ne, bne_iff_ne, bne_eq_false_iff_eq, ne_eq] at *
    have ha : n = 0 := by omega
    have hs : sOut A S n = (0, 3) := by
      unfold sOut
      (repeat' split) <;> first | rfl | (exfalso; omega)
    exact ⟨(0, 3), ⟨R4_zero, by first | exact hs.symm | (rw [num_vI r_A, num_vI r_S, num_vI r_n]; exact hs.symm)⟩, by rw [ha], trivial⟩
  · refine ⟨rfl, rfl, rfl, rfl, rfl, rfl, rfl, rfl, rfl, rfl, rfl, rfl, rfl, rfl, rfl, rfl, huge_Cmp n S (by assumption) (by assumption), ⟨(), trivial⟩, ?_⟩
    intro _
    intro _
    refine ⟨fun h2 => ?_, fun h2 => ?_⟩
    · refine ⟨rfl, rfl, rfl, rfl, rfl, rfl, rfl, rfl, ?_⟩
      refine ⟨rfl, rfl, rfl, rfl, rfl, rfl, rfl, rfl, ?_⟩
      try simp (disch := first | assumption | exact R4_zero | exact R4_one) only [num_vI, hCmp_pos, hCmp_neg, hCmp_le0, hCmp_ge0, decide_eq_true_eq, decide_eq_false_iff_not, gt_iff_lt, ge_iff_le, beq_iff_eq, beq_eq_false_iff_ne, bne_iff_ne, bne_eq_false_iff_eq, ne_eq] at *
      have hs : sOut A S n = (0, 8) := by
        unfold sOut
        (repeat' split) <;> first | rfl | (exfalso; omega)
      exact ⟨(0, 8), ⟨R4_zero, by first | exact hs.symm | (rw [num_vI r_A, num_vI r_S, num_vI r_n]; exact hs.symm)⟩, by rw [vI_zero], trivial⟩
    · refine ⟨rfl, rfl, rfl, rfl, rfl, rfl, rfl, rfl, rfl, rfl, rfl, rfl, rfl, rfl, rfl, rfl, share_more A S (by assumption) (by assumption), ⟨_, (sMore_R (by first | exact R4_num _ | exact by assumption) (by first | exact R4_num _ | exact by assumption)).1, (sMore_R (by first | exact R4_num _ | exact by assumption) (by first | exact R4_num _ | exact by assumption)).2, rfl⟩, ?_⟩
      intro x5
      intro h3
      obtain ⟨rh3_1, h3⟩ := h3
      obtain ⟨rh3_21, h3⟩ := h3
      try simp only [num_vI (n := A) (by assumption), num_vI (n := S) (by assumption)] at h3
      have cm := sMore_cases h3
      intro b6
      intro b7
      refine ⟨rfl, rfl, rfl, rfl, rfl, rfl, rfl, rfl, rfl, rfl, rfl, rfl, rfl, rfl, rfl, rfl, ?_⟩
      refine ⟨fun h4 => ?_, fun h4 => ?_⟩
      · refine ⟨rfl, rfl, rfl, rfl, rfl, rfl, rfl, rfl, ?_⟩
        refine ⟨rfl, rfl, rfl, rfl, rfl, rfl, rfl, rfl, ?_⟩
        try simp (disch := first | assumption | exact R4_zero | exact R4_one) only [num_vI, hCmp_pos, hCmp_neg, hCmp_le0, hCmp_ge0, decide_eq_true_eq, decide_eq_false_iff_not, gt_iff_lt, ge_iff_le, beq_iff_eq, beq_eq_false_iff_ne, bne_iff_ne, bne_eq_false_iff_eq, ne_eq] at *
        have he : x5.2.2 = 2 := by omega
        have hs : sOut A S n = (0, 2) := by
          unfold sOut
          (repeat' split) <;> first | rfl | (exfalso; omega)
        exact ⟨(0, 2), ⟨R4_zero, by first | exact hs.symm | (rw [num_vI r_A, num_vI r_S, num_vI r_n]; exact hs.symm)⟩, by rw [he, vI_zero], trivial⟩
      · refine ⟨rfl, rfl, rfl, rfl, rfl, rfl, rfl, rfl, rfl, rfl, rfl, rfl, rfl, rfl, rfl, rfl, rfl, rfl, rfl, rfl, rfl, rfl, rfl, rfl, wide_MulDiv n x5.1 x5.2.1 (by assumption) (by assumption) (by assumption), ⟨_, wMulDiv_R (R4_num _) (R4_num _) (R4_num _), rfl⟩, ?_⟩
        intro x8
        intro h5
        obtain ⟨rh5_1, h5⟩ := h5
        try simp only [num_vI (n := n) (by assumption), num_vI (n := x5.1) (by assumption), num_vI (n := x5.2.1) (by assumption)] at h5
        have cq := wMulDiv_cases h5 (by try simp (disch := first | assumption | exact R4_zero | exact R4_one) only [num_vI, hCmp_pos, hCmp_neg, hCmp_le0, hCmp_ge0, decide_eq_true_eq, decide_eq_false_iff_not, gt_iff_lt, ge_iff_le, beq_iff_eq, beq_eq_false_iff_ne, bne_iff_ne, bne_eq_false_iff_eq, ne_eq] at *; omega)
        rw [show x5.1 = A + 1 from by try simp (disch := first | assumption | exact R4_zero | exact R4_one) only [num_vI, hCmp_pos, hCmp_neg, hCmp_le0, hCmp_ge0, decide_eq_true_eq, decide_eq_false_iff_not, gt_iff_lt, ge_iff_le, beq_iff_eq, beq_eq_false_iff_ne, bne_iff_ne, bne_eq_false_iff_eq, ne_eq] at *; omega, show x5.2.1 = S + 1 from by try simp (disch := first | assumption | exact R4_zero | exact R4_one) only [num_vI, hCmp_pos, hCmp_neg, hCmp_le0, hCmp_ge0, decide_eq_true_eq, decide_eq_false_iff_not, gt_iff_lt, ge_iff_le, beq_iff_eq, beq_eq_false_iff_ne, bne_iff_ne, bne_eq_false_iff_eq, ne_eq] at *; omega] at cq
        intro b9
        refine ⟨rfl, rfl, rfl, rfl, rfl, rfl, rfl, rfl, ?_⟩
        refine ⟨fun h6 => ?_, fun h6 => ?_⟩
        · refine ⟨rfl, rfl, rfl, rfl, rfl, rfl, rfl, rfl, ?_⟩
          refine ⟨rfl, rfl, rfl, rfl, rfl, rfl, rfl, rfl, ?_⟩
          try simp (disch := first | assumption | exact R4_zero | exact R4_one) only [num_vI, hCmp_pos, hCmp_neg, hCmp_le0, hCmp_ge0, decide_eq_true_eq, decide_eq_false_iff_not, gt_iff_lt, ge_iff_le, beq_iff_eq, beq_eq_false_iff_ne, bne_iff_ne, bne_eq_false_iff_eq, ne_eq] at *
          have he : x8.2 = 2 := by omega
          have hs : sOut A S n = (0, 2) := by
            unfold sOut
            (repeat' split) <;> first | rfl | (exfalso; omega)
          exact ⟨(0, 2), ⟨R4_zero, by first | exact hs.symm | (rw [num_vI r_A, num_vI r_S, num_vI r_n]; exact hs.symm)⟩, by rw [he, vI_zero], trivial⟩
        · refine ⟨rfl, rfl, rfl, rfl, rfl, rfl, rfl, rfl, rfl, rfl, rfl, rfl, rfl, rfl, rfl, rfl, huge_Cmp x8.1 A (by assumption) (by assumption), ⟨(), trivial⟩, ?_⟩
          intro _
          intro _
          refine ⟨fun h7 => ?_, fun h7 => ?_⟩
          · refine ⟨rfl, rfl, rfl, rfl, rfl, rfl, rfl, rfl, ?_⟩
            refine ⟨rfl, rfl, rfl, rfl, rfl, rfl, rfl, rfl, ?_⟩
            try simp (disch := first | assumption | exact R4_zero | exact R4_one) only [num_vI, hCmp_pos, hCmp_neg, hCmp_le0, hCmp_ge0, decide_eq_true_eq, decide_eq_false_iff_not, gt_iff_lt, ge_iff_le, beq_iff_eq, beq_eq_false_iff_ne, bne_iff_ne, bne_eq_false_iff_eq, ne_eq] at *
            have hs : sOut A S n = (0, 8) := by
              unfold sOut
              (repeat' split) <;> first | rfl | (exfalso; omega)
            exact ⟨(0, 8), ⟨R4_zero, by first | exact hs.symm | (rw [num_vI r_A, num_vI r_S, num_vI r_n]; exact hs.symm)⟩, by rw [vI_zero], trivial⟩
          · refine ⟨rfl, rfl, rfl, rfl, rfl, rfl, rfl, rfl, rfl, rfl, rfl, rfl, rfl, rfl, rfl, rfl, ?_⟩
            refine ⟨rfl, rfl, rfl, rfl, rfl, rfl, rfl, rfl, ?_⟩
            try simp (disch := first | assumption | exact R4_zero | exact R4_one) only [num_vI, hCmp_pos, hCmp_neg, hCmp_le0, hCmp_ge0, decide_eq_true_eq, decide_eq_false_iff_not, gt_iff_lt, ge_iff_le, beq_iff_eq, beq_eq_false_iff_ne, bne_iff_ne, bne_eq_false_iff_eq, ne_eq] at *
            have ha : x8.1 = n * (A + 1) / (S + 1) := by omega
            have hs : sOut A S n = (n * (A + 1) / (S + 1), 0) := by
              unfold sOut
              (repeat' split) <;> first | rfl | (exfalso; omega)
            exact ⟨(n * (A + 1) / (S + 1), 0), ⟨ha ▸ (by assumption), by first | exact hs.symm | (rw [num_vI r_A, num_vI r_S, num_vI r_n]; exact hs.symm)⟩, by rw [ha], trivial⟩

def law16_lives_C : List Value → List Slot → Ctr := fun vs hs => ⟨Unit, fun _ => .bool true, fun _ => hs, fun _ => True⟩
set_option maxRecDepth 100000 in
theorem law16_lives_vc  : codeW Try.prog 30 none 2000 none (bodyOf Try.f49) (.reg [.sem []] (.reg [.sem [], .sem [], .callr [] huge_Of_C, .callr [] share_In_C, .sem [], .sem [], .sem [], .sem [.nw 0], .sem [.wr 0, .wr 0, .wr 0, .wr 0], .sem []] (.reg [.callr [] huge_Of_C, .sem [], .callr [] huge_Of_C, .callr [] share_In_C, .sem [], .sem [], .sem [], .sem [.nw 1], .sem [.wr 1, .wr 1, .wr 1, .wr 1], .sem []] (.reg [.sem [], .gen [] (one (.bool true)), .sem [], .sem [.rd 0, .rd 0, .rd 0, .rd 0], .callr [] huge_Of_C, .specr [] (fun _ hs => ⟨Unit, fun _ => .bool true, fun _ => hs, fun _ => True⟩), .sem [], .sem [], .sem [], .gen [] (one (.bool true)), .sem [], .sem []] (.done)))))
    (init #[] []) (finW Try.prog Try.f49 [] [] (X := Unit) (fun _ => .bool true) (fun _ => []) (fun _ => True)) =
    ((CallT Try.prog 75 #[.int .u64 5] [] Unit (fun _ => vI (5 : Int)) (fun _ => []) (fun _ => True)) ∧ (∃ zx : Unit, (fun _ => True) zx) ∧ ∀ _ : Unit, (True) → (CallT Try.prog 50 #[.agg #[.int .u64 0, .int .u64 0, .int .u64 0, .int .u64 0], .agg #[.int .u64 0, .int .u64 0, .int .u64 0, .int .u64 0], vI (5 : Int)] [] (Int × Int) (fun zx => .tuple #[vI zx.1, .int .i64 zx.2]) (fun _ => []) (fun zx => R4 zx.1 ∧ zx = sIn (num (vI (0 : Int))) (num (vI (0 : Int))) (num (vI (5 : Int))))) ∧ (∃ zx : Int × Int, (fun zx => R4 zx.1 ∧ zx = sIn (num (vI (0 : Int))) (num (vI (0 : Int))) (num (vI (5 : Int)))) zx) ∧ ∀ x1 : Int × Int, (R4 x1.1 ∧ x1 = sIn (num (vI (0 : Int))) (num (vI (0 : Int))) (num (vI (5 : Int)))) → ∀ b2 : Nat, b2 = b2 ∧ (none : Option Nat) = none ∧ b2 = b2 ∧ (none : Option Nat) = none ∧ b2 = b2 ∧ (none : Option Nat) = none ∧ b2 = b2 ∧ (none : Option Nat) = none ∧ (CallT Try.prog 75 #[.int .u64 100] [] Unit (fun _ => vI (100 : Int)) (fun _ => []) (fun _ => True)) ∧ (∃ zx : Unit, (fun _ => True) zx) ∧ ∀ _ : Unit, (True) → (CallT Try.prog 75 #[.int .u64 50] [] Unit (fun _ => vI (50 : Int)) (fun _ => []) (fun _ => True)) ∧ (∃ zx : Unit, (fun _ => True) zx) ∧ ∀ _ : Unit, (True) → (CallT Try.prog 50 #[vI (100 : Int), .agg #[.int .u64 0, .int .u64 0, .int .u64 0, .int .u64 0], vI (50 : Int)] [] (Int × Int) (fun zx => .tuple #[vI zx.1, .int .i64 zx.2]) (fun _ => []) (fun zx => R4 zx.1 ∧ zx = sIn (num (vI (100 : Int))) (num (vI (0 : Int))) (num (vI (50 : Int))))) ∧ (∃ zx : Int × Int, (fun zx => R4 zx.1 ∧ zx = sIn (num (vI (100 : Int))) (num (vI (0 : Int))) (num (vI (50 : Int)))) zx) ∧ ∀ x3 : Int × Int, (R4 x3.1 ∧ x3 = sIn (num (vI (100 : Int))) (num (vI (0 : Int))) (num (vI (50 : Int)))) → ∀ b4 : Nat, b4 = b4 ∧ (none : Option Nat) = none ∧ b4 = b4 ∧ (none : Option Nat) = none ∧ b4 = b4 ∧ (none : Option Nat) = none ∧ b4 = b4 ∧ (none : Option Nat) = none ∧ (∃ _ : Unit, True ∧ Value.bool (x1.2 == (0 : Int)) = .bool true) ∧ ∀ _ : Unit, (True) → true = true ∧ b2 = b2 ∧ (none : Option Nat) = none ∧ b2 = b2 ∧ (none : Option Nat) = none ∧ b2 = b2 ∧ (none : Option Nat) = none ∧ b2 = b2 ∧ (none : Option Nat) = none ∧ true = true ∧ (CallT Try.prog 75 #[.int .u64 5] [] Unit (fun _ => vI (5 : Int)) (fun _ => []) (fun _ => True)) ∧ (∃ zx : Unit, (fun _ => True) zx) ∧ ∀ _ : Unit, (True) → true = true ∧ (OpT Try.prog (xBin .eql 44 (vI x1.1) (vI (5 : Int))) [] Unit (fun _ => .bool true) (fun _ => []) (fun _ => True)) ∧ (∃ zx : Unit, (fun _ => True) zx) ∧ ∀ _ : Unit, (True) → true = true ∧ true = true ∧ (∃ _ : Unit, True ∧ Value.bool (x3.2 == (3 : Int)) = .bool true) ∧ ∀ _ : Unit, (True) → ∃ _ : Unit, (True) ∧ Value.bool true = .bool true ∧ True) := by kernel_rfl
set_option maxRecDepth 100000 in
theorem law16_lives   : CallT Try.prog 49 #[] [] Unit (fun _ => .bool true) (fun _ => []) (fun _ => True) := by
  refine call_of (c := bodyOf Try.f49) (n := 30) (fn := Try.f49) Try.mixed Try.func49 (by kernel_rfl) (by kernel_rfl) (by kernel_rfl) 2000 _ [] [] rfl rfl (Eq.mpr (law16_lives_vc ) ?_)
  refine ⟨huge_Of (5 : Int) (by first | assumption | exact W_lim _ _ | (unfold W; decide)), ⟨(), trivial⟩, ?_⟩
  intro _
  intro _
  refine ⟨share_In (0 : Int) (0 : Int) (5 : Int) (by unfold R4; decide) (by unfold R4; decide) (by unfold R4; decide), ⟨_, sIn_R (by first | exact R4_num _ | exact by unfold R4; decide) (by first | exact R4_num _ | exact by unfold R4; decide) (by first | exact R4_num _ | exact by unfold R4; decide), rfl⟩, ?_⟩
  intro x1
  intro h1
  obtain ⟨rh1_1, h1⟩ := h1
  try simp only [num_vI (n := (0 : Int)) (by unfold R4; decide), num_vI (n := (0 : Int)) (by unfold R4; decide), num_vI (n := (5 : Int)) (by unfold R4; decide)] at h1
  have h1 := h1
  replace h1 := h1.trans (show sIn 0 0 5 = (5, 0) from by decide +kernel)
  intro b2
  refine ⟨rfl, rfl, rfl, rfl, rfl, rfl, rfl, rfl, ?_⟩
  refine ⟨huge_Of (100 : Int) (by first | assumption | exact W_lim _ _ | (unfold W; decide)), ⟨(), trivial⟩, ?_⟩
  intro _
  intro _
  refine ⟨huge_Of (50 : Int) (by first | assumption | exact W_lim _ _ | (unfold W; decide)), ⟨(), trivial⟩, ?_⟩
  intro _
  intro _
  refine ⟨share_In (100 : Int) (0 : Int) (50 : Int) (by unfold R4; decide) (by unfold R4; decide) (by unfold R4; decide), ⟨_, sIn_R (by first | exact R4_num _ | exact by unfold R4; decide) (by first | exact R4_num _ | exact by unfold R4; decide) (by first | exact R4_num _ | exact by unfold R4; decide), rfl⟩, ?_⟩
  intro x3
  intro h2
  obtain ⟨rh2_1, h2⟩ := h2
  try simp only [num_vI (n := (100 : Int)) (by unfold R4; decide), num_vI (n := (0 : Int)) (by unfold R4; decide), num_vI (n := (50 : Int)) (by unfold R4; decide)] at h2
  have h2 := h2
  replace h2 := h2.trans (show sIn 100 0 50 = (0, 3) from by decide +kernel)
  intro b4
  refine ⟨rfl, rfl, rfl, rfl, rfl, rfl, rfl, rfl, ?_⟩
  refine ⟨⟨(), trivial, congrArg Value.bool (by rw [h1]; rfl)⟩, ?_⟩
  intro _
  intro _
  refine ⟨rfl, rfl, rfl, rfl, rfl, rfl, rfl, rfl, rfl, rfl, huge_Of (5 : Int) (by first | assumption | exact W_lim _ _ | (unfold W; decide)), ⟨(), trivial⟩, ?_⟩
  intro _
  intro _
  refine ⟨rfl, OpT.ofPure (Try.xeq44 x1.1 (5 : Int)) (congrArg Value.bool ((by rw [h1]; exact beq_self_eq_true _))), ⟨(), trivial⟩, ?_⟩
  intro _
  intro _
  refine ⟨rfl, rfl, ⟨(), trivial, congrArg Value.bool (by rw [h2]; rfl)⟩, ?_⟩
  intro _
  intro _
  exact ⟨(), trivial, rfl, trivial⟩

set_option maxRecDepth 100000 in
set_option maxHeartbeats 1000000 in
theorem law16_ShareBack_vc (A : Int) (S : Int) (n : Int) : codeW Try.prog 62 none 2000 none (bodyOf Try.f11) (.reg [.sem [.nw 0], .sem [.nw 1], .sem [.nw 2], .sem []] (.reg [.callr [] law16_lives_C, .sem []] (.condF (.reg [.sem [.rd 0, .rd 0, .rd 0, .rd 0], .sem [.rd 1, .rd 1, .rd 1, .rd 1], .sem [.rd 2, .rd 2, .rd 2, .rd 2], .callr [] share_In_C, .sem [], .sem [], .sem [], .sem [.nw 3], .sem [.wr 3, .wr 3, .wr 3, .wr 3], .sem []] (.reg [.sem [], .sem []] (.cond (.reg [.sem [.rd 3, .rd 3, .rd 3, .rd 3], .sem [], .specr [] (fun _ hs => ⟨Unit, fun _ => .bool true, fun _ => hs, fun _ => True⟩), .sem []] (.done)) (.reg [.sem [.rd 0, .rd 0, .rd 0, .rd 0], .sem [.rd 2, .rd 2, .rd 2, .rd 2], .callr [] huge_Add_C, .sem [], .sem [], .sem [], .sem [.nw 4], .sem [.wr 4, .wr 4, .wr 4, .wr 4], .sem []] (.reg [.sem [.rd 1, .rd 1, .rd 1, .rd 1], .sem [.rd 3, .rd 3, .rd 3, .rd 3], .callr [] huge_Add_C, .sem [], .sem [], .sem [], .sem [.nw 5], .sem [.wr 5, .wr 5, .wr 5, .wr 5], .sem []] (.reg [.sem [], .gen [] (one (.bool false)), .sem [], .sem [], .gen [] (one (.bool false)), .sem []] (.condF (.reg [.sem [.rd 4, .rd 4, .rd 4, .rd 4], .sem [.rd 5, .rd 5, .rd 5, .rd 5], .sem [.rd 3, .rd 3, .rd 3, .rd 3], .callr [] share_Out_C, .sem [], .sem [], .sem [], .sem [.nw 6], .sem [.wr 6, .wr 6, .wr 6, .wr 6], .sem []] (.reg [.sem [], .sem []] (.cond (.reg [.sem [], .gen [] (one (.bool true)), .sem []] (.done)) (.reg [.sem [.rd 6, .rd 6, .rd 6, .rd 6], .sem [.rd 2, .rd 2, .rd 2, .rd 2], .callr [] huge_Cmp_C, .gen [] (one (.bool true)), .sem []] (.done)))))))))))))))
    (init #[vI A, vI S, vI n] []) (finW Try.prog Try.f11 [] [] (X := Unit) (fun _ => .bool true) (fun _ => []) (fun _ => True)) =
    (∀ b1 : Nat, ∀ b2 : Nat, ∀ b3 : Nat, (CallT Try.prog 49 #[] [] Unit (fun _ => .bool true) (fun _ => []) (fun _ => True)) ∧ (∃ zx : Unit, (fun _ => True) zx) ∧ ∀ _ : Unit, (True) → (false = false) ∧ b1 = b1 ∧ (none : Option Nat) = none ∧ b1 = b1 ∧ (none : Option Nat) = none ∧ b1 = b1 ∧ (none : Option Nat) = none ∧ b1 = b1 ∧ (none : Option Nat) = none ∧ b2 = b2 ∧ (none : Option Nat) = none ∧ b2 = b2 ∧ (none : Option Nat) = none ∧ b2 = b2 ∧ (none : Option Nat) = none ∧ b2 = b2 ∧ (none : Option Nat) = none ∧ b3 = b3 ∧ (none : Option Nat) = none ∧ b3 = b3 ∧ (none : Option Nat) = none ∧ b3 = b3 ∧ (none : Option Nat) = none ∧ b3 = b3 ∧ (none : Option Nat) = none ∧ (CallT Try.prog 50 #[vI A, vI S, vI n] [] (Int × Int) (fun zx => .tuple #[vI zx.1, .int .i64 zx.2]) (fun _ => []) (fun zx => R4 zx.1 ∧ zx = sIn (num (vI A)) (num (vI S)) (num (vI n)))) ∧ (∃ zx : Int × Int, (fun zx => R4 zx.1 ∧ zx = sIn (num (vI A)) (num (vI S)) (num (vI n))) zx) ∧ ∀ x4 : Int × Int, (R4 x4.1 ∧ x4 = sIn (num (vI A)) (num (vI S)) (num (vI n))) → ∀ b5 : Nat, b5 = b5 ∧ (none : Option Nat) = none ∧ b5 = b5 ∧ (none : Option Nat) = none ∧ b5 = b5 ∧ (none : Option Nat) = none ∧ b5 = b5 ∧ (none : Option Nat) = none ∧ ((x4.2 != (0 : Int)) = true → b5 = b5 ∧ (none : Option Nat) = none ∧ b5 = b5 ∧ (none : Option Nat) = none ∧ b5 = b5 ∧ (none : Option Nat) = none ∧ b5 = b5 ∧ (none : Option Nat) = none ∧ (OpT Try.prog (xBin .eql 44 (vI x4.1) (vI 0)) [] Unit (fun _ => .bool true) (fun _ => []) (fun _ => True)) ∧ (∃ zx : Unit, (fun _ => True) zx) ∧ ∀ _ : Unit, (True) → ∃ _ : Unit, (True) ∧ Value.bool true = .bool true ∧ True) ∧ ((x4.2 != (0 : Int)) = false → b1 = b1 ∧ (none : Option Nat) = none ∧ b1 = b1 ∧ (none : Option Nat) = none ∧ b1 = b1 ∧ (none : Option Nat) = none ∧ b1 = b1 ∧ (none : Option Nat) = none ∧ b3 = b3 ∧ (none : Option Nat) = none ∧ b3 = b3 ∧ (none : Option Nat) = none ∧ b3 = b3 ∧ (none : Option Nat) = none ∧ b3 = b3 ∧ (none : Option Nat) = none ∧ (CallT Try.prog 47 #[vI A, vI n] [] (Int × Int) (fun zx => .tuple #[vI zx.1, .int .i64 zx.2]) (fun _ => []) (fun zx => R4 zx.1 ∧ zx = hAdd (num (vI A)) (num (vI n)))) ∧ (∃ zx : Int × Int, (fun zx => R4 zx.1 ∧ zx = hAdd (num (vI A)) (num (vI n))) zx) ∧ ∀ x6 : Int × Int, (R4 x6.1 ∧ x6 = hAdd (num (vI A)) (num (vI n))) → ∀ b7 : Nat, b7 = b7 ∧ (none : Option Nat) = none ∧ b7 = b7 ∧ (none : Option Nat) = none ∧ b7 = b7 ∧ (none : Option Nat) = none ∧ b7 = b7 ∧ (none : Option Nat) = none ∧ b2 = b2 ∧ (none : Option Nat) = none ∧ b2 = b2 ∧ (none : Option Nat) = none ∧ b2 = b2 ∧ (none : Option Nat) = none ∧ b2 = b2 ∧ (none : Option Nat) = none ∧ b5 = b5 ∧ (none : Option Nat) = none ∧ b5 = b5 ∧ (none : Option Nat) = none ∧ b5 = b5 ∧ (none : Option Nat) = none ∧ b5 = b5 ∧ (none : Option Nat) = none ∧ (CallT Try.prog 47 #[vI S, vI x4.1] [] (Int × Int) (fun zx => .tuple #[vI zx.1, .int .i64 zx.2]) (fun _ => []) (fun zx => R4 zx.1 ∧ zx = hAdd (num (vI S)) (num (vI x4.1)))) ∧ (∃ zx : Int × Int, (fun zx => R4 zx.1 ∧ zx = hAdd (num (vI S)) (num (vI x4.1))) zx) ∧ ∀ x8 : Int × Int, (R4 x8.1 ∧ x8 = hAdd (num (vI S)) (num (vI x4.1))) → ∀ b9 : Nat, b9 = b9 ∧ (none : Option Nat) = none ∧ b9 = b9 ∧ (none : Option Nat) = none ∧ b9 = b9 ∧ (none : Option Nat) = none ∧ b9 = b9 ∧ (none : Option Nat) = none ∧ (∃ _ : Unit, True ∧ Value.bool (x6.2 != (0 : Int)) = .bool false) ∧ ∀ _ : Unit, (True) → false = false ∧ false = false ∧ (∃ _ : Unit, True ∧ Value.bool (x8.2 != (0 : Int)) = .bool false) ∧ ∀ _ : Unit, (True) → (false = false) ∧ b7 = b7 ∧ (none : Option Nat) = none ∧ b7 = b7 ∧ (none : Option Nat) = none ∧ b7 = b7 ∧ (none : Option Nat) = none ∧ b7 = b7 ∧ (none : Option Nat) = none ∧ b9 = b9 ∧ (none : Option Nat) = none ∧ b9 = b9 ∧ (none : Option Nat) = none ∧ b9 = b9 ∧ (none : Option Nat) = none ∧ b9 = b9 ∧ (none : Option Nat) = none ∧ b5 = b5 ∧ (none : Option Nat) = none ∧ b5 = b5 ∧ (none : Option Nat) = none ∧ b5 = b5 ∧ (none : Option Nat) = none ∧ b5 = b5 ∧ (none : Option Nat) = none ∧ (CallT Try.prog 52 #[vI x6.1, vI x8.1, vI x4.1] [] (Int × Int) (fun zx => .tuple #[vI zx.1, .int .i64 zx.2]) (fun _ => []) (fun zx => R4 zx.1 ∧ zx = sOut (num (vI x6.1)) (num (vI x8.1)) (num (vI x4.1)))) ∧ (∃ zx : Int × Int, (fun zx => R4 zx.1 ∧ zx = sOut (num (vI x6.1)) (num (vI x8.1)) (num (vI x4.1))) zx) ∧ ∀ x10 : Int × Int, (R4 x10.1 ∧ x10 = sOut (num (vI x6.1)) (num (vI x8.1)) (num (vI x4.1))) → ∀ b11 : Nat, b11 = b11 ∧ (none : Option Nat) = none ∧ b11 = b11 ∧ (none : Option Nat) = none ∧ b11 = b11 ∧ (none : Option Nat) = none ∧ b11 = b11 ∧ (none : Option Nat) = none ∧ ((x10.2 != (0 : Int)) = true → (∃ _ : Unit, True ∧ Value.bool (x10.2 == (2 : Int)) = .bool true) ∧ ∀ _ : Unit, (True) → ∃ _ : Unit, (True) ∧ Value.bool true = .bool true ∧ True) ∧ ((x10.2 != (0 : Int)) = false → b11 = b11 ∧ (none : Option Nat) = none ∧ b11 = b11 ∧ (none : Option Nat) = none ∧ b11 = b11 ∧ (none : Option Nat) = none ∧ b11 = b11 ∧ (none : Option Nat) = none ∧ b3 = b3 ∧ (none : Option Nat) = none ∧ b3 = b3 ∧ (none : Option Nat) = none ∧ b3 = b3 ∧ (none : Option Nat) = none ∧ b3 = b3 ∧ (none : Option Nat) = none ∧ (CallT Try.prog 48 #[vI x10.1, vI n] [] Unit (fun _ => .int .i64 (hCmp (num (vI x10.1)) (num (vI n)))) (fun _ => []) (fun _ => True)) ∧ (∃ zx : Unit, (fun _ => True) zx) ∧ ∀ _ : Unit, (True) → (∃ _ : Unit, True ∧ Value.bool (decide ((hCmp (num (vI x10.1)) (num (vI n))) ≤ (0 : Int))) = .bool true) ∧ ∀ _ : Unit, (True) → ∃ _ : Unit, (True) ∧ Value.bool true = .bool true ∧ True))) := by kernel_rfl
set_option maxRecDepth 100000 in
set_option maxHeartbeats 1000000 in
theorem law16_ShareBack (A : Int) (S : Int) (n : Int) (r_A : R4 A) (r_S : R4 S) (r_n : R4 n) : CallT Try.prog 11 #[vI A, vI S, vI n] [] Unit (fun _ => .bool true) (fun _ => []) (fun _ => True) := by
  refine call_of (c := bodyOf Try.f11) (n := 62) (fn := Try.f11) Try.mixed Try.func11 (by kernel_rfl) (by kernel_rfl) (by kernel_rfl) 2000 _ [] [] rfl rfl (Eq.mpr (law16_ShareBack_vc A S n) ?_)
  have g0 := r_A.1; have g1 := r_S.1; have g2 := r_n.1
  intro b1
  intro b2
  intro b3
  refine ⟨law16_lives, ⟨(), trivial⟩, ?_⟩
  intro _
  intro _
  refine ⟨rfl, ?_⟩
  refine ⟨rfl, rfl, rfl, rfl, rfl, rfl, rfl, rfl, rfl, rfl, rfl, rfl, rfl, rfl, rfl, rfl, rfl, rfl, rfl, rfl, rfl, rfl, rfl, rfl, share_In A S n (by assumption) (by assumption) (by assumption), ⟨_, sIn_R (by first | exact R4_num _ | exact by assumption) (by first | exact R4_num _ | exact by assumption) (by first | exact R4_num _ | exact by assumption), rfl⟩, ?_⟩
  intro x4
  intro h1
  obtain ⟨rh1_1, h1⟩ := h1
  try simp only [num_vI (n := A) (by assumption), num_vI (n := S) (by assumption), num_vI (n := n) (by assumption)] at h1
  have c1 := sIn_cases h1
  have R1 : R4 x4.1 := by assumption
  intro b5
  refine ⟨rfl, rfl, rfl, rfl, rfl, rfl, rfl, rfl, ?_⟩
  refine ⟨fun h2 => ?_, fun h2 => ?_⟩
  · refine ⟨rfl, rfl, rfl, rfl, rfl, rfl, rfl, rfl, OpT.ofPure (Try.xeq44 x4.1 0) (congrArg Value.bool ((by have hne := bne_iff_ne.1 (by assumption); rw [beq_iff_eq, num_vI R1, num_vI R4_zero]; omega))), ⟨(), trivial⟩, ?_⟩
    intro _
    intro _
    exact ⟨(), trivial, rfl, trivial⟩
  · refine ⟨rfl, rfl, rfl, rfl, rfl, rfl, rfl, rfl, rfl, rfl, rfl, rfl, rfl, rfl, rfl, rfl, huge_Add A n (by assumption) (by assumption), ⟨hAdd (num (vI A)) (num (vI n)), hAdd_R (R4_num _) (R4_num _), rfl⟩, ?_⟩
    intro x6
    intro h3
    obtain ⟨rh3_1, h3⟩ := h3
    try simp only [num_vI (n := A) (by assumption), num_vI (n := n) (by assumption)] at h3
    have ca := hAdd_cases h3
    intro b7
    refine ⟨rfl, rfl, rfl, rfl, rfl, rfl, rfl, rfl, ?_⟩
    refine ⟨rfl, rfl, rfl, rfl, rfl, rfl, rfl, rfl, rfl, rfl, rfl, rfl, rfl, rfl, rfl, rfl, huge_Add S x4.1 (by assumption) (by assumption), ⟨hAdd (num (vI S)) (num (vI x4.1)), hAdd_R (R4_num _) (R4_num _), rfl⟩, ?_⟩
    intro x8
    intro h4
    obtain ⟨rh4_1, h4⟩ := h4
    try simp only [num_vI (n := S) (by assumption), num_vI (n := x4.1) (by assumption)] at h4
    have cs := hAdd_cases h4
    intro b9
    refine ⟨rfl, rfl, rfl, rfl, rfl, rfl, rfl, rfl, ?_⟩
    refine ⟨⟨(), trivial, congrArg Value.bool (by refine bne_eq_false_iff_eq.2 ?_; (try simp (disch := first | assumption | exact R4_zero | exact R4_one) only [num_vI, hCmp_pos, hCmp_neg, hCmp_le0, hCmp_ge0, decide_eq_true_eq, decide_eq_false_iff_not, gt_iff_lt, ge_iff_le, beq_iff_eq, beq_eq_false_iff_ne, bne_iff_ne, bne_eq_false_iff_eq, ne_eq] at *); omega)⟩, ?_⟩
    intro _
    intro _
    refine ⟨rfl, rfl, ⟨(), trivial, congrArg Value.bool (by refine bne_eq_false_iff_eq.2 ?_; (try simp (disch := first | assumption | exact R4_zero | exact R4_one) only [num_vI, hCmp_pos, hCmp_neg, hCmp_le0, hCmp_ge0, decide_eq_true_eq, decide_eq_false_iff_not, gt_iff_lt, ge_iff_le, beq_iff_eq, beq_eq_false_iff_ne, bne_iff_ne, bne_eq_false_iff_eq, ne_eq] at *); omega)⟩, ?_⟩
    intro _
    intro _
    refine ⟨rfl, ?_⟩
    refine ⟨rfl, rfl, rfl, rfl, rfl, rfl, rfl, rfl, rfl, rfl, rfl, rfl, rfl, rfl, rfl, rfl, rfl, rfl, rfl, rfl, rfl, rfl, rfl, rfl, share_Out x6.1 x8.1 x4.1 (by assumption) (by assumption) (by assumption), ⟨_, sOut_R (by first | exact R4_num _ | exact by assumption) (by first | exact R4_num _ | exact by assumption) (by first | exact R4_num _ | exact by assumption), rfl⟩, ?_⟩
    intro x10
    intro h5
    obtain ⟨rh5_1, h5⟩ := h5
    try simp only [num_vI (n := x6.1) (by assumption), num_vI (n := x8.1) (by assumption), num_vI (n := x4.1) (by assumption)] at h5
    have c0 : x4.1 = n * (S + 1) / (A + 1) ∧ x4.1 ≠ 0 := by (try simp (disch := first | assumption | exact R4_zero | exact R4_one) only [num_vI, hCmp_pos, hCmp_neg, hCmp_le0, hCmp_ge0, decide_eq_true_eq, decide_eq_false_iff_not, gt_iff_lt, ge_iff_le, beq_iff_eq, beq_eq_false_iff_ne, bne_iff_ne, bne_eq_false_iff_eq, ne_eq] at *); omega
    have cA : x6.1 = A + n := by (try simp (disch := first | assumption | exact R4_zero | exact R4_one) only [num_vI, hCmp_pos, hCmp_neg, hCmp_le0, hCmp_ge0, decide_eq_true_eq, decide_eq_false_iff_not, gt_iff_lt, ge_iff_le, beq_iff_eq, beq_eq_false_iff_ne, bne_iff_ne, bne_eq_false_iff_eq, ne_eq] at *); omega
    have cS : x8.1 = S + x4.1 := by (try simp (disch := first | assumption | exact R4_zero | exact R4_one) only [num_vI, hCmp_pos, hCmp_neg, hCmp_le0, hCmp_ge0, decide_eq_true_eq, decide_eq_false_iff_not, gt_iff_lt, ge_iff_le, beq_iff_eq, beq_eq_false_iff_ne, bne_iff_ne, bne_eq_false_iff_eq, ne_eq] at *); omega
    have cO := sOut_cases h5
    rw [cA, cS] at cO
    obtain ⟨b0, b1, b2⟩ := share_back r_A.1 r_S.1 r_n.1 c0.1
    intro b11
    refine ⟨rfl, rfl, rfl, rfl, rfl, rfl, rfl, rfl, ?_⟩
    refine ⟨fun h6 => ?_, fun h6 => ?_⟩
    · refine ⟨⟨(), trivial, congrArg Value.bool (by refine beq_iff_eq.2 ?_; (try simp (disch := first | assumption | exact R4_zero | exact R4_one) only [num_vI, hCmp_pos, hCmp_neg, hCmp_le0, hCmp_ge0, decide_eq_true_eq, decide_eq_false_iff_not, gt_iff_lt, ge_iff_le, beq_iff_eq, beq_eq_false_iff_ne, bne_iff_ne, bne_eq_false_iff_eq, ne_eq] at *); omega)⟩, ?_⟩
      intro _
      intro _
      exact ⟨(), trivial, rfl, trivial⟩
    · refine ⟨rfl, rfl, rfl, rfl, rfl, rfl, rfl, rfl, rfl, rfl, rfl, rfl, rfl, rfl, rfl, rfl, huge_Cmp x10.1 n (by assumption) (by assumption), ⟨(), trivial⟩, ?_⟩
      intro _
      intro _
      refine ⟨⟨(), trivial, congrArg Value.bool (by rw [decide_eq_true_eq, hCmp_le0]; (try simp (disch := first | assumption | exact R4_zero | exact R4_one) only [num_vI, hCmp_pos, hCmp_neg, hCmp_le0, hCmp_ge0, decide_eq_true_eq, decide_eq_false_iff_not, gt_iff_lt, ge_iff_le, beq_iff_eq, beq_eq_false_iff_ne, bne_iff_ne, bne_eq_false_iff_eq, ne_eq] at *); omega)⟩, ?_⟩
      intro _
      intro _
      exact ⟨(), trivial, rfl, trivial⟩

end Go.Proofs
