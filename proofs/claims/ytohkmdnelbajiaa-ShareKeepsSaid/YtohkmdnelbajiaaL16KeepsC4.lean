/- Contracts of this program's functions, and their proofs, printed by a program of the prover's own (see the claim's other texts for what the words mean). -/
import Derived.Test.YtohkmdnelbajiaaL16KeepsC3
set_option linter.unusedVariables false
set_option linter.unusedSimpArgs false
namespace Go.Proofs
open Go.Sx
set_option maxRecDepth 100000 in
set_option maxHeartbeats 4000000 in
theorem law16_ShareKeeps (w : World) (l : Value) (o : Value) (ls : List Int) (os : List Bool) (h_l : SlX w 4 (X := Int) vI R4 l ls) (h_o : SlX w 1 (X := Bool) Value.bool (fun _ => True) o os) (ml : ls.length ≤ 9223372036854775807) (mo : os.length ≤ 9223372036854775807) : CallT Try.prog 12 #[l, o] [(old w)] Unit (fun _ => .bool true) (fun _ => [(old w)]) (fun _ => True) := by
  refine call_of (c := bodyOf Try.f12) (n := 126) (fn := Try.f12) Try.mixed Try.func12 (by kernel_rfl) (by kernel_rfl) (by kernel_rfl) 2000 _ [] [0] rfl rfl (Eq.mpr (law16_ShareKeeps_vc w l o ls os) ?_)
  have vl := h_l.vlen; have vo := h_o.vlen
  refine ⟨fun h1 => ?_, fun h1 => ?_⟩
  · refine ⟨law16_lives, ⟨(), trivial⟩, ?_⟩
    intro _
    intro _
    refine ⟨rfl, rfl, xolen Try.elt87 h_l.sl 3, rfl, ⟨(), trivial, congrArg Value.bool h1⟩, ?_⟩
    intro _
    intro _
    refine ⟨rfl, rfl, rfl, rfl, rfl, ?_⟩
    refine ⟨rfl, ?_⟩
    refine ⟨law16_lives, ⟨(), trivial⟩, ?_⟩
    intro _
    intro _
    exact ⟨(), trivial, rfl, rfl, trivial⟩
  · refine ⟨law16_lives, ⟨(), trivial⟩, ?_⟩
    intro _
    intro _
    refine ⟨rfl, rfl, xolen Try.elt87 h_l.sl 3, rfl, ⟨(), trivial, congrArg Value.bool h1⟩, ?_⟩
    intro _
    intro _
    refine ⟨rfl, rfl, xolen Try.elt70 h_o.sl 3, rfl, rfl, xolen Try.elt87 h_l.sl 3, rfl, ?_⟩
    refine ⟨fun h2 => ?_, fun h2 => ?_⟩
    · refine ⟨law16_lives, ⟨(), trivial⟩, ?_⟩
      intro _
      intro _
      exact ⟨(), trivial, rfl, rfl, trivial⟩
    · intro b1
      intro b2
      refine ⟨xolen Try.elt87 h_l.sl 3, ?_⟩
      refine ⟨?_, fun x3 jx3 h3 => ?_⟩
      · exact ⟨(0, 0, 0, b1, b2), ⟨by dsimp only; omega, R4_zero, R4_zero, Int.le_refl _⟩, rfl, rfl, rfl, rfl, rfl, rfl, rfl, rfl, rfl, rfl, trivial⟩
      · obtain ⟨Li, LA, LS, Lle⟩ := h3
        have g0 := LA.1; have g1 := LS.1
        refine ⟨fun h4 => ?_, fun h4 => ?_⟩
        · refine ⟨xoidx Try.elt87 h_l.sl .i64 ((x3.1 : Nat) : Int) (by omega) (by rw [List.length_map]; (try simp (disch := first | assumption | exact R4_zero | exact R4_one) only [num_vI, hCmp_pos, hCmp_neg, hCmp_le0, hCmp_ge0, decide_eq_true_eq, decide_eq_false_iff_not, gt_iff_lt, ge_iff_le, beq_iff_eq, beq_eq_false_iff_ne, bne_iff_ne, bne_eq_false_iff_eq, ne_eq] at *); omega), xold Try.elk44 h_l (Int.toNat ((x3.1 : Nat) : Int)) (gx_some (xs := ls) (i := (Int.toNat ((x3.1 : Nat) : Int))) (by (try simp (disch := first | assumption | exact R4_zero | exact R4_one) only [num_vI, hCmp_pos, hCmp_neg, hCmp_le0, hCmp_ge0, decide_eq_true_eq, decide_eq_false_iff_not, gt_iff_lt, ge_iff_le, beq_iff_eq, beq_eq_false_iff_ne, bne_iff_ne, bne_eq_false_iff_eq, ne_eq] at *); omega)), wold h_l (Int.toNat ((x3.1 : Nat) : Int)) (gx_some (xs := ls) (i := (Int.toNat ((x3.1 : Nat) : Int))) (by (try simp (disch := first | assumption | exact R4_zero | exact R4_one) only [num_vI, hCmp_pos, hCmp_neg, hCmp_le0, hCmp_ge0, decide_eq_true_eq, decide_eq_false_iff_not, gt_iff_lt, ge_iff_le, beq_iff_eq, beq_eq_false_iff_ne, bne_iff_ne, bne_eq_false_iff_eq, ne_eq] at *); omega)), ?_⟩
          intro x4
          intro h5
          have kh5 := h5.1
          replace h5 := eold Try.elk44 h_l (Int.toNat ((x3.1 : Nat) : Int)) (gx_some (xs := ls) (i := (Int.toNat ((x3.1 : Nat) : Int))) (by (try simp (disch := first | assumption | exact R4_zero | exact R4_one) only [num_vI, hCmp_pos, hCmp_neg, hCmp_le0, hCmp_ge0, decide_eq_true_eq, decide_eq_false_iff_not, gt_iff_lt, ge_iff_le, beq_iff_eq, beq_eq_false_iff_ne, bne_iff_ne, bne_eq_false_iff_eq, ne_eq] at *); omega)) h5
          have gn := kh5.1
          intro b5
          refine ⟨rfl, rfl, rfl, rfl, rfl, rfl, rfl, rfl, ?_⟩
          refine ⟨rfl, rfl, rfl, rfl, rfl, rfl, rfl, rfl, rfl, rfl, rfl, rfl, rfl, rfl, rfl, rfl, ?_⟩
          intro b6
          intro b7
          refine ⟨rfl, rfl, rfl, rfl, rfl, rfl, rfl, rfl, rfl, rfl, rfl, rfl, rfl, rfl, rfl, rfl, ?_⟩
          refine ⟨xoidx Try.elt70 h_o.sl .i64 ((x3.1 : Nat) : Int) (by omega) (by rw [List.length_map]; (try simp (disch := first | assumption | exact R4_zero | exact R4_one) only [num_vI, hCmp_pos, hCmp_neg, hCmp_le0, hCmp_ge0, decide_eq_true_eq, decide_eq_false_iff_not, gt_iff_lt, ge_iff_le, beq_iff_eq, beq_eq_false_iff_ne, bne_iff_ne, bne_eq_false_iff_eq, ne_eq] at *); omega), xold Try.elk4 h_o (Int.toNat ((x3.1 : Nat) : Int)) (gx_some (xs := os) (i := (Int.toNat ((x3.1 : Nat) : Int))) (by (try simp (disch := first | assumption | exact R4_zero | exact R4_one) only [num_vI, hCmp_pos, hCmp_neg, hCmp_le0, hCmp_ge0, decide_eq_true_eq, decide_eq_false_iff_not, gt_iff_lt, ge_iff_le, beq_iff_eq, beq_eq_false_iff_ne, bne_iff_ne, bne_eq_false_iff_eq, ne_eq] at *); omega)), wold h_o (Int.toNat ((x3.1 : Nat) : Int)) (gx_some (xs := os) (i := (Int.toNat ((x3.1 : Nat) : Int))) (by (try simp (disch := first | assumption | exact R4_zero | exact R4_one) only [num_vI, hCmp_pos, hCmp_neg, hCmp_le0, hCmp_ge0, decide_eq_true_eq, decide_eq_false_iff_not, gt_iff_lt, ge_iff_le, beq_iff_eq, beq_eq_false_iff_ne, bne_iff_ne, bne_eq_false_iff_eq, ne_eq] at *); omega)), ?_⟩
          intro x8
          intro h6
          have kh6 := h6.1
          replace h6 := eold Try.elk4 h_o (Int.toNat ((x3.1 : Nat) : Int)) (gx_some (xs := os) (i := (Int.toNat ((x3.1 : Nat) : Int))) (by (try simp (disch := first | assumption | exact R4_zero | exact R4_one) only [num_vI, hCmp_pos, hCmp_neg, hCmp_le0, hCmp_ge0, decide_eq_true_eq, decide_eq_false_iff_not, gt_iff_lt, ge_iff_le, beq_iff_eq, beq_eq_false_iff_ne, bne_iff_ne, bne_eq_false_iff_eq, ne_eq] at *); omega)) h6
          refine ⟨fun h7 => ?_, fun h7 => ?_⟩
          · refine ⟨rfl, rfl, rfl, rfl, rfl, rfl, rfl, rfl, rfl, rfl, rfl, rfl, rfl, rfl, rfl, rfl, rfl, rfl, rfl, rfl, rfl, rfl, rfl, rfl, share_Out x3.2.1 x3.2.2.1 x4 (by assumption) (by assumption) (by assumption), ⟨_, sOut_R (by first | exact R4_num _ | exact by assumption) (by first | exact R4_num _ | exact by assumption) (by first | exact R4_num _ | exact by assumption), rfl⟩, ?_⟩
            intro x9
            intro h8
            obtain ⟨rh8_1, h8⟩ := h8
            try simp only [num_vI (n := x3.2.1) (by assumption), num_vI (n := x3.2.2.1) (by assumption), num_vI (n := x4) (by assumption)] at h8
            have cO := sOut_cases h8
            have hp : x9.2 = 0 → x9.1 = x4 * (x3.2.1 + 1) / (x3.2.2.1 + 1) ∧ x4 ≤ x3.2.2.1 := by omega
            intro b10
            refine ⟨rfl, rfl, rfl, rfl, rfl, rfl, rfl, rfl, ?_⟩
            refine ⟨fun h9 => ?_, fun h9 => ?_⟩
            · refine ⟨⟨(), trivial, congrArg (Value.int .i64) (wrap_i64 _ (by omega) (by (try simp (disch := first | assumption | exact R4_zero | exact R4_one) only [num_vI, hCmp_pos, hCmp_neg, hCmp_le0, hCmp_ge0, decide_eq_true_eq, decide_eq_false_iff_not, gt_iff_lt, ge_iff_le, beq_iff_eq, beq_eq_false_iff_ne, bne_iff_ne, bne_eq_false_iff_eq, ne_eq] at *); omega))⟩, ?_⟩
              intro _
              intro _
              have hlt : x3.1 < ls.length := by (try simp (disch := first | assumption | exact R4_zero | exact R4_one) only [num_vI, hCmp_pos, hCmp_neg, hCmp_le0, hCmp_ge0, decide_eq_true_eq, decide_eq_false_iff_not, gt_iff_lt, ge_iff_le, beq_iff_eq, beq_eq_false_iff_ne, bne_iff_ne, bne_eq_false_iff_eq, ne_eq] at *); omega
              exact ⟨(x3.1 + 1, x3.2.1, x3.2.2.1, x3.2.2.2.1, x3.2.2.2.2), ⟨by dsimp only; omega, by dsimp only; assumption, by dsimp only; assumption, by dsimp only; (try simp (disch := first | assumption | exact R4_zero | exact R4_one) only [num_vI, hCmp_pos, hCmp_neg, hCmp_le0, hCmp_ge0, decide_eq_true_eq, decide_eq_false_iff_not, gt_iff_lt, ge_iff_le, beq_iff_eq, beq_eq_false_iff_ne, bne_iff_ne, bne_eq_false_iff_eq, ne_eq] at *); omega⟩, by dsimp only; omega, rfl, rfl, rfl, rfl, rfl, rfl, congrArg (Value.int .i64) (by dsimp only; omega), rfl, rfl, rfl, trivial⟩
            · obtain ⟨hp1, hp2⟩ := hp (by (try simp (disch := first | assumption | exact R4_zero | exact R4_one) only [num_vI, hCmp_pos, hCmp_neg, hCmp_le0, hCmp_ge0, decide_eq_true_eq, decide_eq_false_iff_not, gt_iff_lt, ge_iff_le, beq_iff_eq, beq_eq_false_iff_ne, bne_iff_ne, bne_eq_false_iff_eq, ne_eq] at *); omega)
              obtain ⟨m1, m2, m3⟩ := keep_out g0 g1 gn Lle hp2 hp1
              refine ⟨rfl, rfl, rfl, rfl, rfl, rfl, rfl, rfl, rfl, rfl, rfl, rfl, rfl, rfl, rfl, rfl, huge_Sub x3.2.1 x9.1 (by assumption) (by assumption), ⟨hSub (num (vI x3.2.1)) (num (vI x9.1)), hSub_R (R4_num _) (R4_num _), rfl⟩, ?_⟩
              intro x11
              intro h10
              obtain ⟨rh10_1, h10⟩ := h10
              try simp only [num_vI (n := x3.2.1) (by assumption), num_vI (n := x9.1) (by assumption)] at h10
              have c1 := hSub_cases h10
              refine ⟨rfl, rfl, rfl, rfl, rfl, rfl, rfl, rfl, ?_⟩
              refine ⟨⟨(), trivial, congrArg Value.bool (by refine bne_eq_false_iff_eq.2 ?_; (try simp (disch := first | assumption | exact R4_zero | exact R4_one) only [num_vI, hCmp_pos, hCmp_neg, hCmp_le0, hCmp_ge0, decide_eq_true_eq, decide_eq_false_iff_not, gt_iff_lt, ge_iff_le, beq_iff_eq, beq_eq_false_iff_ne, bne_iff_ne, bne_eq_false_iff_eq, ne_eq] at *); omega)⟩, ?_⟩
              intro _
              intro _
              refine ⟨rfl, ?_⟩
              refine ⟨rfl, rfl, rfl, rfl, rfl, rfl, rfl, rfl, rfl, rfl, rfl, rfl, rfl, rfl, rfl, rfl, huge_Sub x3.2.2.1 x4 (by assumption) (by assumption), ⟨hSub (num (vI x3.2.2.1)) (num (vI x4)), hSub_R (R4_num _) (R4_num _), rfl⟩, ?_⟩
              intro x12
              intro h11
              obtain ⟨rh11_1, h11⟩ := h11
              try simp only [num_vI (n := x3.2.2.1) (by assumption), num_vI (n := x4) (by assumption)] at h11
              have c2 := hSub_cases h11
              refine ⟨rfl, rfl, rfl, rfl, rfl, rfl, rfl, rfl, ?_⟩
              have ea : x11.1 = x3.2.1 - x9.1 := by (try simp (disch := first | assumption | exact R4_zero | exact R4_one) only [num_vI, hCmp_pos, hCmp_neg, hCmp_le0, hCmp_ge0, decide_eq_true_eq, decide_eq_false_iff_not, gt_iff_lt, ge_iff_le, beq_iff_eq, beq_eq_false_iff_ne, bne_iff_ne, bne_eq_false_iff_eq, ne_eq] at *); omega
              have es : x12.1 = x3.2.2.1 - x4 := by (try simp (disch := first | assumption | exact R4_zero | exact R4_one) only [num_vI, hCmp_pos, hCmp_neg, hCmp_le0, hCmp_ge0, decide_eq_true_eq, decide_eq_false_iff_not, gt_iff_lt, ge_iff_le, beq_iff_eq, beq_eq_false_iff_ne, bne_iff_ne, bne_eq_false_iff_eq, ne_eq] at *); omega
              have Ra : R4 x11.1 := by assumption
              have Rs : R4 x12.1 := by assumption
              have ga := Ra.1; have gs := Rs.1
              have hall := share_all ga gs
              refine ⟨rfl, rfl, rfl, rfl, rfl, rfl, rfl, rfl, rfl, rfl, rfl, rfl, rfl, rfl, rfl, rfl, huge_Cmp x12.1 x11.1 (by assumption) (by assumption), ⟨(), trivial⟩, ?_⟩
              intro _
              intro _
              refine ⟨⟨(), trivial, congrArg Value.bool (by refine decide_eq_false ?_; rw [gt_iff_lt, hCmp_pos]; (try simp (disch := first | assumption | exact R4_zero | exact R4_one) only [num_vI, hCmp_pos, hCmp_neg, hCmp_le0, hCmp_ge0, decide_eq_true_eq, decide_eq_false_iff_not, gt_iff_lt, ge_iff_le, beq_iff_eq, beq_eq_false_iff_ne, bne_iff_ne, bne_eq_false_iff_eq, ne_eq] at *); omega)⟩, ?_⟩
              intro _
              intro _
              refine ⟨rfl, rfl, rfl, rfl, rfl, rfl, rfl, rfl, rfl, rfl, rfl, rfl, rfl, rfl, rfl, rfl, rfl, rfl, rfl, rfl, rfl, rfl, rfl, rfl, rfl, rfl, rfl, rfl, rfl, rfl, rfl, rfl, rfl, rfl, rfl, rfl, rfl, law16_noLess x11.1 x12.1 x3.2.1 x3.2.2.1 (by assumption) (by assumption) (by assumption) (by assumption), ⟨_, rfl⟩, ?_⟩
              intro x13
              intro h12
              try simp only [num_vI (n := x11.1) (by assumption), num_vI (n := x12.1) (by assumption), num_vI (n := x3.2.1) (by assumption), num_vI (n := x3.2.2.1) (by assumption)] at h12
              have hN := h12
              have hN1 : x13 = true := by rw [hN, decide_eq_true_eq, ea, es]; exact m3
              refine ⟨rfl, ⟨(), trivial, congrArg Value.bool (by rw [hN1]; rfl)⟩, ?_⟩
              intro _
              intro _
              refine ⟨rfl, ?_⟩
              refine ⟨rfl, rfl, rfl, rfl, rfl, rfl, rfl, rfl, Try.xeq44 x12.1 0, ?_⟩
              refine ⟨fun h13 => ?_, fun h13 => ?_⟩
              · refine ⟨⟨(), trivial, congrArg (Value.int .i64) (wrap_i64 _ (by omega) (by (try simp (disch := first | assumption | exact R4_zero | exact R4_one) only [num_vI, hCmp_pos, hCmp_neg, hCmp_le0, hCmp_ge0, decide_eq_true_eq, decide_eq_false_iff_not, gt_iff_lt, ge_iff_le, beq_iff_eq, beq_eq_false_iff_ne, bne_iff_ne, bne_eq_false_iff_eq, ne_eq] at *); omega))⟩, ?_⟩
                intro _
                intro _
                have hlt : x3.1 < ls.length := by (try simp (disch := first | assumption | exact R4_zero | exact R4_one) only [num_vI, hCmp_pos, hCmp_neg, hCmp_le0, hCmp_ge0, decide_eq_true_eq, decide_eq_false_iff_not, gt_iff_lt, ge_iff_le, beq_iff_eq, beq_eq_false_iff_ne, bne_iff_ne, bne_eq_false_iff_eq, ne_eq] at *); omega
                exact ⟨(x3.1 + 1, x11.1, x12.1, x3.2.2.2.1, x3.2.2.2.2), ⟨by dsimp only; omega, by dsimp only; assumption, by dsimp only; assumption, by dsimp only; (try simp (disch := first | assumption | exact R4_zero | exact R4_one) only [num_vI, hCmp_pos, hCmp_neg, hCmp_le0, hCmp_ge0, decide_eq_true_eq, decide_eq_false_iff_not, gt_iff_lt, ge_iff_le, beq_iff_eq, beq_eq_false_iff_ne, bne_iff_ne, bne_eq_false_iff_eq, ne_eq] at *); omega⟩, by dsimp only; omega, rfl, rfl, rfl, rfl, rfl, rfl, congrArg (Value.int .i64) (by dsimp only; omega), rfl, rfl, rfl, trivial⟩
              · refine ⟨rfl, rfl, rfl, rfl, rfl, rfl, rfl, rfl, rfl, rfl, rfl, rfl, rfl, rfl, rfl, rfl, rfl, rfl, rfl, rfl, rfl, rfl, rfl, rfl, share_Out x11.1 x12.1 x12.1 (by assumption) (by assumption) (by assumption), ⟨_, sOut_R (by first | exact R4_num _ | exact by assumption) (by first | exact R4_num _ | exact by assumption) (by first | exact R4_num _ | exact by assumption), rfl⟩, ?_⟩
                intro x14
                intro h14
                obtain ⟨rh14_1, h14⟩ := h14
                try simp only [num_vI (n := x11.1) (by assumption), num_vI (n := x12.1) (by assumption), num_vI (n := x12.1) (by assumption)] at h14
                have cL := sOut_cases h14
                intro b15
                refine ⟨rfl, rfl, rfl, rfl, rfl, rfl, rfl, rfl, ?_⟩
                refine ⟨fun h15 => ?_, fun h15 => ?_⟩
                · refine ⟨⟨(), trivial, congrArg Value.bool h15⟩, ?_⟩
                  intro _
                  intro _
                  refine ⟨rfl, rfl, ⟨(), trivial, congrArg Value.bool (by refine bne_eq_false_iff_eq.2 ?_; (try simp (disch := first | assumption | exact R4_zero | exact R4_one) only [num_vI, hCmp_pos, hCmp_neg, hCmp_le0, hCmp_ge0, decide_eq_true_eq, decide_eq_false_iff_not, gt_iff_lt, ge_iff_le, beq_iff_eq, beq_eq_false_iff_ne, bne_iff_ne, bne_eq_false_iff_eq, ne_eq] at *); omega)⟩, ?_⟩
                  intro _
                  intro _
                  refine ⟨rfl, rfl, rfl, rfl, rfl, rfl, rfl, rfl, rfl, rfl, rfl, rfl, rfl, rfl, rfl, rfl, rfl, rfl, rfl, rfl, huge_Cmp x14.1 x11.1 (by assumption) (by assumption), ⟨(), trivial⟩, ?_⟩
                  intro _
                  intro _
                  refine ⟨rfl, ⟨(), trivial, congrArg Value.bool (by refine decide_eq_false ?_; rw [gt_iff_lt, hCmp_pos]; (try simp (disch := first | assumption | exact R4_zero | exact R4_one) only [num_vI, hCmp_pos, hCmp_neg, hCmp_le0, hCmp_ge0, decide_eq_true_eq, decide_eq_false_iff_not, gt_iff_lt, ge_iff_le, beq_iff_eq, beq_eq_false_iff_ne, bne_iff_ne, bne_eq_false_iff_eq, ne_eq] at *); omega)⟩, ?_⟩
                  intro _
                  intro _
                  refine ⟨rfl, ?_⟩
                  refine ⟨rfl, ?_⟩
                  refine ⟨⟨(), trivial, congrArg (Value.int .i64) (wrap_i64 _ (by omega) (by (try simp (disch := first | assumption | exact R4_zero | exact R4_one) only [num_vI, hCmp_pos, hCmp_neg, hCmp_le0, hCmp_ge0, decide_eq_true_eq, decide_eq_false_iff_not, gt_iff_lt, ge_iff_le, beq_iff_eq, beq_eq_false_iff_ne, bne_iff_ne, bne_eq_false_iff_eq, ne_eq] at *); omega))⟩, ?_⟩
                  intro _
                  intro _
                  have hlt : x3.1 < ls.length := by (try simp (disch := first | assumption | exact R4_zero | exact R4_one) only [num_vI, hCmp_pos, hCmp_neg, hCmp_le0, hCmp_ge0, decide_eq_true_eq, decide_eq_false_iff_not, gt_iff_lt, ge_iff_le, beq_iff_eq, beq_eq_false_iff_ne, bne_iff_ne, bne_eq_false_iff_eq, ne_eq] at *); omega
                  exact ⟨(x3.1 + 1, x11.1, x12.1, x3.2.2.2.1, x3.2.2.2.2), ⟨by dsimp only; omega, by dsimp only; assumption, by dsimp only; assumption, by dsimp only; (try simp (disch := first | assumption | exact R4_zero | exact R4_one) only [num_vI, hCmp_pos, hCmp_neg, hCmp_le0, hCmp_ge0, decide_eq_true_eq, decide_eq_false_iff_not, gt_iff_lt, ge_iff_le, beq_iff_eq, beq_eq_false_iff_ne, bne_iff_ne, bne_eq_false_iff_eq, ne_eq] at *); omega⟩, by dsimp only; omega, rfl, rfl, rfl, rfl, rfl, rfl, congrArg (Value.int .i64) (by dsimp only; omega), rfl, rfl, rfl, trivial⟩
                · refine ⟨⟨(), trivial, congrArg Value.bool h15⟩, ?_⟩
                  intro _
                  intro _
                  refine ⟨rfl, rfl, rfl, rfl, ?_⟩
                  refine ⟨rfl, ?_⟩
                  refine ⟨⟨(), trivial, congrArg (Value.int .i64) (wrap_i64 _ (by omega) (by (try simp (disch := first | assumption | exact R4_zero | exact R4_one) only [num_vI, hCmp_pos, hCmp_neg, hCmp_le0, hCmp_ge0, decide_eq_true_eq, decide_eq_false_iff_not, gt_iff_lt, ge_iff_le, beq_iff_eq, beq_eq_false_iff_ne, bne_iff_ne, bne_eq_false_iff_eq, ne_eq] at *); omega))⟩, ?_⟩
                  intro _
                  intro _
                  have hlt : x3.1 < ls.length := by (try simp (disch := first | assumption | exact R4_zero | exact R4_one) only [num_vI, hCmp_pos, hCmp_neg, hCmp_le0, hCmp_ge0, decide_eq_true_eq, decide_eq_false_iff_not, gt_iff_lt, ge_iff_le, beq_iff_eq, beq_eq_false_iff_ne, bne_iff_ne, bne_eq_false_iff_eq, ne_eq] at *); omega
                  exact ⟨(x3.1 + 1, x11.1, x12.1, x3.2.2.2.1, x3.2.2.2.2), ⟨by dsimp only; omega, by dsimp only; assumption, by dsimp only; assumption, by dsimp only; (try simp (disch := first | assumption | exact R4_zero | exact R4_one) only [num_vI, hCmp_pos, hCmp_neg, hCmp_le0, hCmp_ge0, decide_eq_true_eq, decide_eq_false_iff_not, gt_iff_lt, ge_iff_le, beq_iff_eq, beq_eq_false_iff_ne, bne_iff_ne, bne_eq_false_iff_eq, ne_eq] at *); omega⟩, by dsimp only; omega, rfl, rfl, rfl, rfl, rfl, rfl, congrArg (Value.int .i64) (by dsimp only; omega), rfl, rfl, rfl, trivial⟩
          · refine ⟨rfl, rfl, rfl, rfl, rfl, rfl, rfl, rfl, rfl, rfl, rfl, rfl, rfl, rfl, rfl, rfl, rfl, rfl, rfl, rfl, rfl, rfl, rfl, rfl, share_In x3.2.1 x3.2.2.1 x4 (by assumption) (by assumption) (by assumption), ⟨_, sIn_R (by first | exact R4_num _ | exact by assumption) (by first | exact R4_num _ | exact by assumption) (by first | exact R4_num _ | exact by assumption), rfl⟩, ?_⟩
            intro x16
            intro h16
            obtain ⟨rh16_1, h16⟩ := h16
            try simp only [num_vI (n := x3.2.1) (by assumption), num_vI (n := x3.2.2.1) (by assumption), num_vI (n := x4) (by assumption)] at h16
            have cI := sIn_cases h16
            have hp : x16.2 = 0 → x16.1 = x4 * (x3.2.2.1 + 1) / (x3.2.1 + 1) := by omega
            intro b17
            refine ⟨rfl, rfl, rfl, rfl, rfl, rfl, rfl, rfl, ?_⟩
            refine ⟨fun h17 => ?_, fun h17 => ?_⟩
            · refine ⟨⟨(), trivial, congrArg (Value.int .i64) (wrap_i64 _ (by omega) (by (try simp (disch := first | assumption | exact R4_zero | exact R4_one) only [num_vI, hCmp_pos, hCmp_neg, hCmp_le0, hCmp_ge0, decide_eq_true_eq, decide_eq_false_iff_not, gt_iff_lt, ge_iff_le, beq_iff_eq, beq_eq_false_iff_ne, bne_iff_ne, bne_eq_false_iff_eq, ne_eq] at *); omega))⟩, ?_⟩
              intro _
              intro _
              have hlt : x3.1 < ls.length := by (try simp (disch := first | assumption | exact R4_zero | exact R4_one) only [num_vI, hCmp_pos, hCmp_neg, hCmp_le0, hCmp_ge0, decide_eq_true_eq, decide_eq_false_iff_not, gt_iff_lt, ge_iff_le, beq_iff_eq, beq_eq_false_iff_ne, bne_iff_ne, bne_eq_false_iff_eq, ne_eq] at *); omega
              exact ⟨(x3.1 + 1, x3.2.1, x3.2.2.1, x3.2.2.2.1, x3.2.2.2.2), ⟨by dsimp only; omega, by dsimp only; assumption, by dsimp only; assumption, by dsimp only; (try simp (disch := first | assumption | exact R4_zero | exact R4_one) only [num_vI, hCmp_pos, hCmp_neg, hCmp_le0, hCmp_ge0, decide_eq_true_eq, decide_eq_false_iff_not, gt_iff_lt, ge_iff_le, beq_iff_eq, beq_eq_false_iff_ne, bne_iff_ne, bne_eq_false_iff_eq, ne_eq] at *); omega⟩, by dsimp only; omega, rfl, rfl, rfl, rfl, rfl, rfl, congrArg (Value.int .i64) (by dsimp only; omega), rfl, rfl, rfl, trivial⟩
            · have hp1 := hp (by (try simp (disch := first | assumption | exact R4_zero | exact R4_one) only [num_vI, hCmp_pos, hCmp_neg, hCmp_le0, hCmp_ge0, decide_eq_true_eq, decide_eq_false_iff_not, gt_iff_lt, ge_iff_le, beq_iff_eq, beq_eq_false_iff_ne, bne_iff_ne, bne_eq_false_iff_eq, ne_eq] at *); omega)
              obtain ⟨m1, m2, m3⟩ := keep_in g0 g1 gn Lle hp1
              refine ⟨rfl, rfl, rfl, rfl, rfl, rfl, rfl, rfl, rfl, rfl, rfl, rfl, rfl, rfl, rfl, rfl, huge_Add x3.2.1 x4 (by assumption) (by assumption), ⟨hAdd (num (vI x3.2.1)) (num (vI x4)), hAdd_R (R4_num _) (R4_num _), rfl⟩, ?_⟩
              intro x18
              intro h18
              obtain ⟨rh18_1, h18⟩ := h18
              try simp only [num_vI (n := x3.2.1) (by assumption), num_vI (n := x4) (by assumption)] at h18
              have c1 := hAdd_cases h18
              refine ⟨rfl, rfl, rfl, rfl, rfl, rfl, rfl, rfl, ?_⟩
              refine ⟨⟨(), trivial, congrArg Value.bool (by refine bne_eq_false_iff_eq.2 ?_; (try simp (disch := first | assumption | exact R4_zero | exact R4_one) only [num_vI, hCmp_pos, hCmp_neg, hCmp_le0, hCmp_ge0, decide_eq_true_eq, decide_eq_false_iff_not, gt_iff_lt, ge_iff_le, beq_iff_eq, beq_eq_false_iff_ne, bne_iff_ne, bne_eq_false_iff_eq, ne_eq] at *); omega)⟩, ?_⟩
              intro _
              intro _
              refine ⟨rfl, ?_⟩
              refine ⟨rfl, rfl, rfl, rfl, rfl, rfl, rfl, rfl, rfl, rfl, rfl, rfl, rfl, rfl, rfl, rfl, huge_Add x3.2.2.1 x16.1 (by assumption) (by assumption), ⟨hAdd (num (vI x3.2.2.1)) (num (vI x16.1)), hAdd_R (R4_num _) (R4_num _), rfl⟩, ?_⟩
              intro x19
              intro h19
              obtain ⟨rh19_1, h19⟩ := h19
              try simp only [num_vI (n := x3.2.2.1) (by assumption), num_vI (n := x16.1) (by assumption)] at h19
              have c2 := hAdd_cases h19
              refine ⟨rfl, rfl, rfl, rfl, rfl, rfl, rfl, rfl, ?_⟩
              have ea : x18.1 = x3.2.1 + x4 := by (try simp (disch := first | assumption | exact R4_zero | exact R4_one) only [num_vI, hCmp_pos, hCmp_neg, hCmp_le0, hCmp_ge0, decide_eq_true_eq, decide_eq_false_iff_not, gt_iff_lt, ge_iff_le, beq_iff_eq, beq_eq_false_iff_ne, bne_iff_ne, bne_eq_false_iff_eq, ne_eq] at *); omega
              have es : x19.1 = x3.2.2.1 + x16.1 := by (try simp (disch := first | assumption | exact R4_zero | exact R4_one) only [num_vI, hCmp_pos, hCmp_neg, hCmp_le0, hCmp_ge0, decide_eq_true_eq, decide_eq_false_iff_not, gt_iff_lt, ge_iff_le, beq_iff_eq, beq_eq_false_iff_ne, bne_iff_ne, bne_eq_false_iff_eq, ne_eq] at *); omega
              have Ra : R4 x18.1 := by assumption
              have Rs : R4 x19.1 := by assumption
              have ga := Ra.1; have gs := Rs.1
              have hall := share_all ga gs
              refine ⟨rfl, rfl, rfl, rfl, rfl, rfl, rfl, rfl, rfl, rfl, rfl, rfl, rfl, rfl, rfl, rfl, huge_Cmp x19.1 x18.1 (by assumption) (by assumption), ⟨(), trivial⟩, ?_⟩
              intro _
              intro _
              refine ⟨⟨(), trivial, congrArg Value.bool (by refine decide_eq_false ?_; rw [gt_iff_lt, hCmp_pos]; (try simp (disch := first | assumption | exact R4_zero | exact R4_one) only [num_vI, hCmp_pos, hCmp_neg, hCmp_le0, hCmp_ge0, decide_eq_true_eq, decide_eq_false_iff_not, gt_iff_lt, ge_iff_le, beq_iff_eq, beq_eq_false_iff_ne, bne_iff_ne, bne_eq_false_iff_eq, ne_eq] at *); omega)⟩, ?_⟩
              intro _
              intro _
              refine ⟨rfl, rfl, rfl, rfl, rfl, rfl, rfl, rfl, rfl, rfl, rfl, rfl, rfl, rfl, rfl, rfl, rfl, rfl, rfl, rfl, rfl, rfl, rfl, rfl, rfl, rfl, rfl, rfl, rfl, rfl, rfl, rfl, rfl, rfl, rfl, rfl, rfl, law16_noLess x18.1 x19.1 x3.2.1 x3.2.2.1 (by assumption) (by assumption) (by assumption) (by assumption), ⟨_, rfl⟩, ?_⟩
              intro x20
              intro h20
              try simp only [num_vI (n := x18.1) (by assumption), num_vI (n := x19.1) (by assumption), num_vI (n := x3.2.1) (by assumption), num_vI (n := x3.2.2.1) (by assumption)] at h20
              have hN := h20
              have hN1 : x20 = true := by rw [hN, decide_eq_true_eq, ea, es]; exact m3
              refine ⟨rfl, ⟨(), trivial, congrArg Value.bool (by rw [hN1]; rfl)⟩, ?_⟩
              intro _
              intro _
              refine ⟨rfl, ?_⟩
              refine ⟨rfl, rfl, rfl, rfl, rfl, rfl, rfl, rfl, Try.xeq44 x19.1 0, ?_⟩
              refine ⟨fun h21 => ?_, fun h21 => ?_⟩
              · refine ⟨⟨(), trivial, congrArg (Value.int .i64) (wrap_i64 _ (by omega) (by (try simp (disch := first | assumption | exact R4_zero | exact R4_one) only [num_vI, hCmp_pos, hCmp_neg, hCmp_le0, hCmp_ge0, decide_eq_true_eq, decide_eq_false_iff_not, gt_iff_lt, ge_iff_le, beq_iff_eq, beq_eq_false_iff_ne, bne_iff_ne, bne_eq_false_iff_eq, ne_eq] at *); omega))⟩, ?_⟩
                intro _
                intro _
                have hlt : x3.1 < ls.length := by (try simp (disch := first | assumption | exact R4_zero | exact R4_one) only [num_vI, hCmp_pos, hCmp_neg, hCmp_le0, hCmp_ge0, decide_eq_true_eq, decide_eq_false_iff_not, gt_iff_lt, ge_iff_le, beq_iff_eq, beq_eq_false_iff_ne, bne_iff_ne, bne_eq_false_iff_eq, ne_eq] at *); omega
                exact ⟨(x3.1 + 1, x18.1, x19.1, x3.2.2.2.1, x3.2.2.2.2), ⟨by dsimp only; omega, by dsimp only; assumption, by dsimp only; assumption, by dsimp only; (try simp (disch := first | assumption | exact R4_zero | exact R4_one) only [num_vI, hCmp_pos, hCmp_neg, hCmp_le0, hCmp_ge0, decide_eq_true_eq, decide_eq_false_iff_not, gt_iff_lt, ge_iff_le, beq_iff_eq, beq_eq_false_iff_ne, bne_iff_ne, bne_eq_false_iff_eq, ne_eq] at *); omega⟩, by dsimp only; omega, rfl, rfl, rfl, rfl, rfl, rfl, congrArg (Value.int .i64) (by dsimp only; omega), rfl, rfl, rfl, trivial⟩
              · refine ⟨rfl, rfl, rfl, rfl, rfl, rfl, rfl, rfl, rfl, rfl, rfl, rfl, rfl, rfl, rfl, rfl, rfl, rfl, rfl, rfl, rfl, rfl, rfl, rfl, share_Out x18.1 x19.1 x19.1 (by assumption) (by assumption) (by assumption), ⟨_, sOut_R (by first | exact R4_num _ | exact by assumption) (by first | exact R4_num _ | exact by assumption) (by first | exact R4_num _ | exact by assumption), rfl⟩, ?_⟩
                intro x21
                intro h22
                obtain ⟨rh22_1, h22⟩ := h22
                try simp only [num_vI (n := x18.1) (by assumption), num_vI (n := x19.1) (by assumption), num_vI (n := x19.1) (by assumption)] at h22
                have cL := sOut_cases h22
                intro b22
                refine ⟨rfl, rfl, rfl, rfl, rfl, rfl, rfl, rfl, ?_⟩
                refine ⟨fun h23 => ?_, fun h23 => ?_⟩
                · refine ⟨⟨(), trivial, congrArg Value.bool h23⟩, ?_⟩
                  intro _
                  intro _
                  refine ⟨rfl, rfl, ⟨(), trivial, congrArg Value.bool (by refine bne_eq_false_iff_eq.2 ?_; (try simp (disch := first | assumption | exact R4_zero | exact R4_one) only [num_vI, hCmp_pos, hCmp_neg, hCmp_le0, hCmp_ge0, decide_eq_true_eq, decide_eq_false_iff_not, gt_iff_lt, ge_iff_le, beq_iff_eq, beq_eq_false_iff_ne, bne_iff_ne, bne_eq_false_iff_eq, ne_eq] at *); omega)⟩, ?_⟩
                  intro _
                  intro _
                  refine ⟨rfl, rfl, rfl, rfl, rfl, rfl, rfl, rfl, rfl, rfl, rfl, rfl, rfl, rfl, rfl, rfl, rfl, rfl, rfl, rfl, huge_Cmp x21.1 x18.1 (by assumption) (by assumption), ⟨(), trivial⟩, ?_⟩
                  intro _
                  intro _
                  refine ⟨rfl, ⟨(), trivial, congrArg Value.bool (by refine decide_eq_false ?_; rw [gt_iff_lt, hCmp_pos]; (try simp (disch := first | assumption | exact R4_zero | exact R4_one) only [num_vI, hCmp_pos, hCmp_neg, hCmp_le0, hCmp_ge0, decide_eq_true_eq, decide_eq_false_iff_not, gt_iff_lt, ge_iff_le, beq_iff_eq, beq_eq_false_iff_ne, bne_iff_ne, bne_eq_false_iff_eq, ne_eq] at *); omega)⟩, ?_⟩
                  intro _
                  intro _
                  refine ⟨rfl, ?_⟩
                  refine ⟨rfl, ?_⟩
                  refine ⟨⟨(), trivial, congrArg (Value.int .i64) (wrap_i64 _ (by omega) (by (try simp (disch := first | assumption | exact R4_zero | exact R4_one) only [num_vI, hCmp_pos, hCmp_neg, hCmp_le0, hCmp_ge0, decide_eq_true_eq, decide_eq_false_iff_not, gt_iff_lt, ge_iff_le, beq_iff_eq, beq_eq_false_iff_ne, bne_iff_ne, bne_eq_false_iff_eq, ne_eq] at *); omega))⟩, ?_⟩
                  intro _
                  intro _
                  have hlt : x3.1 < ls.length := by (try simp (disch := first | assumption | exact R4_zero | exact R4_one) only [num_vI, hCmp_pos, hCmp_neg, hCmp_le0, hCmp_ge0, decide_eq_true_eq, decide_eq_false_iff_not, gt_iff_lt, ge_iff_le, beq_iff_eq, beq_eq_false_iff_ne, bne_iff_ne, bne_eq_false_iff_eq, ne_eq] at *); omega
                  exact ⟨(x3.1 + 1, x18.1, x19.1, x3.2.2.2.1, x3.2.2.2.2), ⟨by dsimp only; omega, by dsimp only; assumption, by dsimp only; assumption, by dsimp only; (try simp (disch := first | assumption | exact R4_zero | exact R4_one) only [num_vI, hCmp_pos, hCmp_neg, hCmp_le0, hCmp_ge0, decide_eq_true_eq, decide_eq_false_iff_not, gt_iff_lt, ge_iff_le, beq_iff_eq, beq_eq_false_iff_ne, bne_iff_ne, bne_eq_false_iff_eq, ne_eq] at *); omega⟩, by dsimp only; omega, rfl, rfl, rfl, rfl, rfl, rfl, congrArg (Value.int .i64) (by dsimp only; omega), rfl, rfl, rfl, trivial⟩
                · refine ⟨⟨(), trivial, congrArg Value.bool h23⟩, ?_⟩
                  intro _
                  intro _
                  refine ⟨rfl, rfl, rfl, rfl, ?_⟩
                  refine ⟨rfl, ?_⟩
                  refine ⟨⟨(), trivial, congrArg (Value.int .i64) (wrap_i64 _ (by omega) (by (try simp (disch := first | assumption | exact R4_zero | exact R4_one) only [num_vI, hCmp_pos, hCmp_neg, hCmp_le0, hCmp_ge0, decide_eq_true_eq, decide_eq_false_iff_not, gt_iff_lt, ge_iff_le, beq_iff_eq, beq_eq_false_iff_ne, bne_iff_ne, bne_eq_false_iff_eq, ne_eq] at *); omega))⟩, ?_⟩
                  intro _
                  intro _
                  have hlt : x3.1 < ls.length := by (try simp (disch := first | assumption | exact R4_zero | exact R4_one) only [num_vI, hCmp_pos, hCmp_neg, hCmp_le0, hCmp_ge0, decide_eq_true_eq, decide_eq_false_iff_not, gt_iff_lt, ge_iff_le, beq_iff_eq, beq_eq_false_iff_ne, bne_iff_ne, bne_eq_false_iff_eq, ne_eq] at *); omega
                  exact ⟨(x3.1 + 1, x18.1, x19.1, x3.2.2.2.1, x3.2.2.2.2), ⟨by dsimp only; omega, by dsimp only; assumption, by dsimp only; assumption, by dsimp only; (try simp (disch := first | assumption | exact R4_zero | exact R4_one) only [num_vI, hCmp_pos, hCmp_neg, hCmp_le0, hCmp_ge0, decide_eq_true_eq, decide_eq_false_iff_not, gt_iff_lt, ge_iff_le, beq_iff_eq, beq_eq_false_iff_ne, bne_iff_ne, bne_eq_false_iff_eq, ne_eq] at *); omega⟩, by dsimp only; omega, rfl, rfl, rfl, rfl, rfl, rfl, congrArg (Value.int .i64) (by dsimp only; omega), rfl, rfl, rfl, trivial⟩
        · exact ⟨(), trivial, rfl, rfl, trivial⟩

end Go.Proofs
