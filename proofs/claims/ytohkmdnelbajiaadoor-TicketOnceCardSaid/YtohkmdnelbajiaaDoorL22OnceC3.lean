/- Contracts of this program's functions, and their proofs, printed by a program of the prover's own (see the claim's other texts for what the words mean). -/
import Derived.Test.YtohkmdnelbajiaaDoorL22OnceC2
set_option linter.unusedVariables false
set_option linter.unusedSimpArgs false
namespace Go.Proofs
open Go.Sx
set_option maxRecDepth 100000 in
set_option maxHeartbeats 8000000 in
theorem law22_TicketOnce (w : World) (l : Value) (xi : Int) (xt : Int) (xo : Int) (xa : Int) (ls : List (Int × Int × Int × Int × Int × Int × Int × Int)) (r_xa : R4 xa) (hB : Tab w 2 .u32 shaH) (hK : Tab w 3 .u32 shaK) (h_l : SlX w 11 (X := Int × Int × Int × Int × Int × Int × Int × Int) Tryd.el37 Tryd.el37_ok l ls) (ml : ls.length ≤ 9223372036854775807) : CallT Tryd.prog 3 #[l, .agg #[.int .u32 xi, .int .u8 xt, .int .u8 xo, .int .u64 (lim xa 0), .int .u64 (lim xa 1), .int .u64 (lim xa 2), .int .u64 (lim xa 3)]] [(old w)] Unit (fun _ => .bool true) (fun _ => [(old w)]) (fun _ => True) := by
  refine call_of (c := bodyOf Tryd.f3) (n := 115) (fn := Tryd.f3) Tryd.mixed Tryd.func3 (by kernel_rfl) (by kernel_rfl) (by kernel_rfl) 2000 _ [] [0] rfl rfl (Eq.mpr (law22_TicketOnce_vc w l xi xt xo xa ls) ?_)
  have vl := h_l.vlen
  intro b1
  refine ⟨law22_lives w (by assumption) (by assumption), ⟨(), trivial⟩, ?_⟩
  intro _
  intro _
  refine ⟨rfl, rfl, xolen Tryd.elt22 h_l.sl 3, rfl, ?_⟩
  refine ⟨fun h1 => ?_, fun h1 => ?_⟩
  · refine ⟨law22_lives w (by assumption) (by assumption), ⟨(), trivial⟩, ?_⟩
    intro _
    intro _
    exact ⟨(), trivial, rfl, rfl, trivial⟩
  · refine ⟨xnewj (K := Tryd.jk) (Eq.mpr (by kernel_rfl : symW Tryd.prog (do pure (Next.value (← Instr.box 35 (.agg #[.slice none 0 0])))) [.nw 0] (ofList []) (fun nx H _ => ∃ b, nx = Next.value (ptr b) ∧ H = upd (ofList []) 0 (.blk b (.cells #[.slice none 0 0] (JK.tj Tryd.jk) (0, 0)))) = (∀ b, ∃ b', Next.value (ptr b) = .value (ptr b') ∧ upd (ofList []) 0 (.blk b (.cells #[.slice none 0 0] 35 (0, 0))) = upd (ofList []) 0 (.blk b' (.cells #[.slice none 0 0] (JK.tj Tryd.jk) (0, 0))))) fun b => ⟨b, rfl, rfl⟩), ⟨0, trivial⟩, ?_⟩
    intro x2
    intro h2
    refine ⟨tk_New x2, ⟨(0, 0), trivial⟩, ?_⟩
    intro x3
    intro h3
    refine ⟨xolen Tryd.elt22 h_l.sl 3, ?_⟩
    refine ⟨?_, fun x4 jx4 h4 => ?_⟩
    · exact ⟨(0, false, [], [], x3.1, x3.2, x2, b1), ⟨Nat.zero_le _, Nat.zero_le _, OnceJ.start⟩, rfl, rfl, rfl, rfl, rfl, rfl, rfl, rfl, rfl, rfl, rfl, rfl,  trivial⟩
    · obtain ⟨hi0, hl0, J⟩ := h4
      refine ⟨fun h5 => ?_, fun h5 => ?_⟩
      · refine ⟨xoidx Tryd.elt22 h_l.sl .i64 ((x4.1 : Nat) : Int) (by omega) (by rw [List.length_map]; (try simp (disch := first | assumption | exact R4_zero | exact R4_one) only [num_vI, decide_eq_true_eq, decide_eq_false_iff_not, gt_iff_lt, ge_iff_le, beq_iff_eq, beq_eq_false_iff_ne, bne_iff_ne, bne_eq_false_iff_eq, ne_eq] at *); omega), xold Tryd.elk37 h_l (Int.toNat ((x4.1 : Nat) : Int)) (gx_some (xs := ls) (i := (Int.toNat ((x4.1 : Nat) : Int))) (by (try simp (disch := first | assumption | exact R4_zero | exact R4_one) only [num_vI, decide_eq_true_eq, decide_eq_false_iff_not, gt_iff_lt, ge_iff_le, beq_iff_eq, beq_eq_false_iff_ne, bne_iff_ne, bne_eq_false_iff_eq, ne_eq] at *); omega)), wold h_l (Int.toNat ((x4.1 : Nat) : Int)) (gx_some (xs := ls) (i := (Int.toNat ((x4.1 : Nat) : Int))) (by (try simp (disch := first | assumption | exact R4_zero | exact R4_one) only [num_vI, decide_eq_true_eq, decide_eq_false_iff_not, gt_iff_lt, ge_iff_le, beq_iff_eq, beq_eq_false_iff_ne, bne_iff_ne, bne_eq_false_iff_eq, ne_eq] at *); omega)), ?_⟩
        intro x5
        intro h6
        have kh6 := h6.1
        replace h6 := eold Tryd.elk37 h_l (Int.toNat ((x4.1 : Nat) : Int)) (gx_some (xs := ls) (i := (Int.toNat ((x4.1 : Nat) : Int))) (by (try simp (disch := first | assumption | exact R4_zero | exact R4_one) only [num_vI, decide_eq_true_eq, decide_eq_false_iff_not, gt_iff_lt, ge_iff_le, beq_iff_eq, beq_eq_false_iff_ne, bne_iff_ne, bne_eq_false_iff_eq, ne_eq] at *); omega)) h6
        have hlt0 : x4.1 < ls.length := by (try simp (disch := first | assumption | exact R4_zero | exact R4_one) only [num_vI, decide_eq_true_eq, decide_eq_false_iff_not, gt_iff_lt, ge_iff_le, beq_iff_eq, beq_eq_false_iff_ne, bne_iff_ne, bne_eq_false_iff_eq, ne_eq] at *); omega
        have h40 : ls.length ≤ 40 := by (try simp (disch := first | assumption | exact R4_zero | exact R4_one) only [num_vI, decide_eq_true_eq, decide_eq_false_iff_not, gt_iff_lt, ge_iff_le, beq_iff_eq, beq_eq_false_iff_ne, bne_iff_ne, bne_eq_false_iff_eq, ne_eq] at *); omega
        intro b6
        refine ⟨rfl, rfl, rfl, rfl, rfl, rfl, rfl, rfl, rfl, rfl, rfl, rfl, rfl, rfl, rfl, rfl, rfl, rfl, rfl, rfl, rfl, rfl, ?_⟩
        refine ⟨rfl, rfl, rfl, rfl, rfl, rfl, rfl, rfl, rfl, rfl, rfl, rfl, rfl, rfl, tk_Owner x4.2.2.2.2.1 x4.2.2.2.2.2.1 x4.2.2.2.2.2.2.1 x4.2.2.1 w xi xt xo (lim xa 0) (lim xa 1) (lim xa 2) (lim xa 3) (by assumption) (by assumption), ⟨(), trivial⟩, ?_⟩
        intro _
        intro _
        refine ⟨rfl, rfl, rfl, rfl, rfl, rfl, rfl, rfl, rfl, rfl, rfl, rfl, rfl, rfl, tk_State x4.2.2.2.2.1 x4.2.2.2.2.2.1 x4.2.2.2.2.2.2.1 x4.2.2.1 w xi xt xo (lim xa 0) (lim xa 1) (lim xa 2) (lim xa 3) (by assumption) (by assumption), ⟨(), trivial⟩, ?_⟩
        intro _
        intro _
        refine ⟨rfl, rfl, ?_⟩
        refine ⟨fun h7 => ?_, fun h7 => ?_⟩
        · refine ⟨rfl, rfl, rfl, rfl, rfl, rfl, rfl, rfl, rfl, rfl, rfl, rfl, rfl, rfl, rfl, rfl, tk_Pay x4.2.2.2.2.1 x4.2.2.2.2.2.1 x4.2.2.2.2.2.2.1 x4.2.2.1 w xi xt xo (lim xa 0) (lim xa 1) (lim xa 2) (lim xa 3) x4.2.2.2.1 x5.2.2.2.2.2.2.2 (by assumption) (by assumption) (by first | omega | exact Nat.zero_le _ | exact Nat.le_trans addIf_len (by first | omega | simp)), ⟨(), trivial⟩, ?_⟩
          intro _
          intro _
          skip
          refine ⟨fun h8 => ?_, fun h8 => ?_⟩
          · have hc := bne_iff_ne.1 h8
            have eT : (tkF (setIf (pyC (inBad xt xo (lim xa 0) (lim xa 1) (lim xa 2) (lim xa 3)) (x5.2.2.2.2.2.2.2 == 1 || x5.2.2.2.2.2.2.2 == 2) (tkF x4.2.2.1 (hV (idF xi xt xo (lim xa 0) (lim xa 1) (lim xa 2) (lim xa 3))) xo)) x4.2.2.1 (hV (idF xi xt xo (lim xa 0) (lim xa 1) (lim xa 2) (lim xa 3))) (tV ((tkF x4.2.2.1 (hV (idF xi xt xo (lim xa 0) (lim xa 1) (lim xa 2) (lim xa 3))) xo).1, x5.2.2.2.2.2.2.2))) (hV (idF xi xt xo (lim xa 0) (lim xa 1) (lim xa 2) (lim xa 3))) xo) = (tkF x4.2.2.1 (hV (idF xi xt xo (lim xa 0) (lim xa 1) (lim xa 2) (lim xa 3))) xo) := tkF_setN hc
            have JN : OnceJ (inBad xt xo (lim xa 0) (lim xa 1) (lim xa 2) (lim xa 3)) (tkF (setIf (pyC (inBad xt xo (lim xa 0) (lim xa 1) (lim xa 2) (lim xa 3)) (x5.2.2.2.2.2.2.2 == 1 || x5.2.2.2.2.2.2.2 == 2) (tkF x4.2.2.1 (hV (idF xi xt xo (lim xa 0) (lim xa 1) (lim xa 2) (lim xa 3))) xo)) x4.2.2.1 (hV (idF xi xt xo (lim xa 0) (lim xa 1) (lim xa 2) (lim xa 3))) (tV ((tkF x4.2.2.1 (hV (idF xi xt xo (lim xa 0) (lim xa 1) (lim xa 2) (lim xa 3))) xo).1, x5.2.2.2.2.2.2.2))) (hV (idF xi xt xo (lim xa 0) (lim xa 1) (lim xa 2) (lim xa 3))) xo) x4.2.1 := by rw [eT]; exact J
            refine ⟨rfl, rfl, rfl, rfl, rfl, rfl, rfl, rfl, rfl, rfl, rfl, rfl, rfl, rfl, tk_Owner x4.2.2.2.2.1 x4.2.2.2.2.2.1 x4.2.2.2.2.2.2.1 (setIf (pyC (inBad xt xo (lim xa 0) (lim xa 1) (lim xa 2) (lim xa 3)) (x5.2.2.2.2.2.2.2 == 1 || x5.2.2.2.2.2.2.2 == 2) (tkF x4.2.2.1 (hV (idF xi xt xo (lim xa 0) (lim xa 1) (lim xa 2) (lim xa 3))) xo)) x4.2.2.1 (hV (idF xi xt xo (lim xa 0) (lim xa 1) (lim xa 2) (lim xa 3))) (tV ((tkF x4.2.2.1 (hV (idF xi xt xo (lim xa 0) (lim xa 1) (lim xa 2) (lim xa 3))) xo).1, x5.2.2.2.2.2.2.2))) w xi xt xo (lim xa 0) (lim xa 1) (lim xa 2) (lim xa 3) (by assumption) (by assumption), ⟨(), trivial⟩, ?_⟩
            intro _
            intro _
            refine ⟨⟨(), trivial, congrArg Value.bool (bne_eq_false_iff_eq.2 (by rw [eT]))⟩, ?_⟩
            intro _
            intro _
            refine ⟨rfl, rfl, rfl, rfl, rfl, rfl, rfl, rfl, rfl, rfl, rfl, rfl, rfl, rfl, rfl, rfl, rfl, tk_State x4.2.2.2.2.1 x4.2.2.2.2.2.1 x4.2.2.2.2.2.2.1 (setIf (pyC (inBad xt xo (lim xa 0) (lim xa 1) (lim xa 2) (lim xa 3)) (x5.2.2.2.2.2.2.2 == 1 || x5.2.2.2.2.2.2.2 == 2) (tkF x4.2.2.1 (hV (idF xi xt xo (lim xa 0) (lim xa 1) (lim xa 2) (lim xa 3))) xo)) x4.2.2.1 (hV (idF xi xt xo (lim xa 0) (lim xa 1) (lim xa 2) (lim xa 3))) (tV ((tkF x4.2.2.1 (hV (idF xi xt xo (lim xa 0) (lim xa 1) (lim xa 2) (lim xa 3))) xo).1, x5.2.2.2.2.2.2.2))) w xi xt xo (lim xa 0) (lim xa 1) (lim xa 2) (lim xa 3) (by assumption) (by assumption), ⟨(), trivial⟩, ?_⟩
            intro _
            intro _
            refine ⟨rfl, rfl, ⟨(), trivial, congrArg Value.bool (bne_eq_false_iff_eq.2 (by rw [eT]))⟩, ?_⟩
            intro _
            intro _
            refine ⟨rfl, ?_⟩
            refine ⟨rfl, rfl, rfl, rfl, rfl, rfl, rfl, rfl, rfl, rfl, rfl, rfl, rfl, rfl, tk_State x4.2.2.2.2.1 x4.2.2.2.2.2.1 x4.2.2.2.2.2.2.1 (setIf (pyC (inBad xt xo (lim xa 0) (lim xa 1) (lim xa 2) (lim xa 3)) (x5.2.2.2.2.2.2.2 == 1 || x5.2.2.2.2.2.2.2 == 2) (tkF x4.2.2.1 (hV (idF xi xt xo (lim xa 0) (lim xa 1) (lim xa 2) (lim xa 3))) xo)) x4.2.2.1 (hV (idF xi xt xo (lim xa 0) (lim xa 1) (lim xa 2) (lim xa 3))) (tV ((tkF x4.2.2.1 (hV (idF xi xt xo (lim xa 0) (lim xa 1) (lim xa 2) (lim xa 3))) xo).1, x5.2.2.2.2.2.2.2))) w xi xt xo (lim xa 0) (lim xa 1) (lim xa 2) (lim xa 3) (by assumption) (by assumption), ⟨(), trivial⟩, ?_⟩
            intro _
            intro _
            refine ⟨⟨(), trivial, congrArg Value.bool (bne_eq_false_iff_eq.2 (JN.p))⟩, ?_⟩
            intro _
            intro _
            refine ⟨rfl, ?_⟩
            refine ⟨⟨(), trivial, congrArg (Value.int .i64) (wrap_i64 _ (by omega) (by omega))⟩, ?_⟩
            intro _
            intro _
            exact ⟨(x4.1 + 1, x4.2.1, (setIf (pyC (inBad xt xo (lim xa 0) (lim xa 1) (lim xa 2) (lim xa 3)) (x5.2.2.2.2.2.2.2 == 1 || x5.2.2.2.2.2.2.2 == 2) (tkF x4.2.2.1 (hV (idF xi xt xo (lim xa 0) (lim xa 1) (lim xa 2) (lim xa 3))) xo)) x4.2.2.1 (hV (idF xi xt xo (lim xa 0) (lim xa 1) (lim xa 2) (lim xa 3))) (tV ((tkF x4.2.2.1 (hV (idF xi xt xo (lim xa 0) (lim xa 1) (lim xa 2) (lim xa 3))) xo).1, x5.2.2.2.2.2.2.2))), (addIf (pyC (inBad xt xo (lim xa 0) (lim xa 1) (lim xa 2) (lim xa 3)) (x5.2.2.2.2.2.2.2 == 1 || x5.2.2.2.2.2.2.2 == 2) (tkF x4.2.2.1 (hV (idF xi xt xo (lim xa 0) (lim xa 1) (lim xa 2) (lim xa 3))) xo)) x4.2.2.2.1 (Tryd.ent73 x4.2.2.2.2.2.1 x4.2.2.1 (hV (idF xi xt xo (lim xa 0) (lim xa 1) (lim xa 2) (lim xa 3))))), x4.2.2.2.2.1, x4.2.2.2.2.2.1, x4.2.2.2.2.2.2.1, x4.2.2.2.2.2.2.2), ⟨by dsimp only; omega, Nat.le_trans addIf_len (by dsimp only; omega), by dsimp only; exact JN⟩, by dsimp only; omega, rfl, rfl, rfl, rfl, rfl, rfl,  congrArg (Value.int .i64) (by dsimp only; omega), rfl, rfl, rfl, rfl, rfl,  trivial⟩
          · have hc : (pyC (inBad xt xo (lim xa 0) (lim xa 1) (lim xa 2) (lim xa 3)) (x5.2.2.2.2.2.2.2 == 1 || x5.2.2.2.2.2.2.2 == 2) (tkF x4.2.2.1 (hV (idF xi xt xo (lim xa 0) (lim xa 1) (lim xa 2) (lim xa 3))) xo)) = 0 := by simpa using h8
            obtain ⟨hp, JP⟩ := J.pay hc
            have eT : (tkF (setIf (pyC (inBad xt xo (lim xa 0) (lim xa 1) (lim xa 2) (lim xa 3)) (x5.2.2.2.2.2.2.2 == 1 || x5.2.2.2.2.2.2.2 == 2) (tkF x4.2.2.1 (hV (idF xi xt xo (lim xa 0) (lim xa 1) (lim xa 2) (lim xa 3))) xo)) x4.2.2.1 (hV (idF xi xt xo (lim xa 0) (lim xa 1) (lim xa 2) (lim xa 3))) (tV ((tkF x4.2.2.1 (hV (idF xi xt xo (lim xa 0) (lim xa 1) (lim xa 2) (lim xa 3))) xo).1, x5.2.2.2.2.2.2.2))) (hV (idF xi xt xo (lim xa 0) (lim xa 1) (lim xa 2) (lim xa 3))) xo) = _ := tkF_set0 hc
            have JN : OnceJ (inBad xt xo (lim xa 0) (lim xa 1) (lim xa 2) (lim xa 3)) (tkF (setIf (pyC (inBad xt xo (lim xa 0) (lim xa 1) (lim xa 2) (lim xa 3)) (x5.2.2.2.2.2.2.2 == 1 || x5.2.2.2.2.2.2.2 == 2) (tkF x4.2.2.1 (hV (idF xi xt xo (lim xa 0) (lim xa 1) (lim xa 2) (lim xa 3))) xo)) x4.2.2.1 (hV (idF xi xt xo (lim xa 0) (lim xa 1) (lim xa 2) (lim xa 3))) (tV ((tkF x4.2.2.1 (hV (idF xi xt xo (lim xa 0) (lim xa 1) (lim xa 2) (lim xa 3))) xo).1, x5.2.2.2.2.2.2.2))) (hV (idF xi xt xo (lim xa 0) (lim xa 1) (lim xa 2) (lim xa 3))) xo) true := by rw [eT]; exact JP
            refine ⟨fun h9 => ?_, fun h9 => ?_⟩
            · exact absurd hp (by rw [h9]; decide)
            · refine ⟨rfl, rfl, ⟨(), trivial, congrArg Value.bool h7⟩, ?_⟩
              intro _
              intro _
              refine ⟨rfl, ?_⟩
              refine ⟨rfl, rfl, rfl, rfl, rfl, rfl, rfl, rfl, rfl, rfl, rfl, rfl, rfl, rfl, tk_State x4.2.2.2.2.1 x4.2.2.2.2.2.1 x4.2.2.2.2.2.2.1 (setIf (pyC (inBad xt xo (lim xa 0) (lim xa 1) (lim xa 2) (lim xa 3)) (x5.2.2.2.2.2.2.2 == 1 || x5.2.2.2.2.2.2.2 == 2) (tkF x4.2.2.1 (hV (idF xi xt xo (lim xa 0) (lim xa 1) (lim xa 2) (lim xa 3))) xo)) x4.2.2.1 (hV (idF xi xt xo (lim xa 0) (lim xa 1) (lim xa 2) (lim xa 3))) (tV ((tkF x4.2.2.1 (hV (idF xi xt xo (lim xa 0) (lim xa 1) (lim xa 2) (lim xa 3))) xo).1, x5.2.2.2.2.2.2.2))) w xi xt xo (lim xa 0) (lim xa 1) (lim xa 2) (lim xa 3) (by assumption) (by assumption), ⟨(), trivial⟩, ?_⟩
              intro _
              intro _
              refine ⟨⟨(), trivial, congrArg Value.bool (bne_eq_false_iff_eq.2 (JN.p))⟩, ?_⟩
              intro _
              intro _
              refine ⟨rfl, ?_⟩
              refine ⟨⟨(), trivial, congrArg (Value.int .i64) (wrap_i64 _ (by omega) (by omega))⟩, ?_⟩
              intro _
              intro _
              exact ⟨(x4.1 + 1, true, (setIf (pyC (inBad xt xo (lim xa 0) (lim xa 1) (lim xa 2) (lim xa 3)) (x5.2.2.2.2.2.2.2 == 1 || x5.2.2.2.2.2.2.2 == 2) (tkF x4.2.2.1 (hV (idF xi xt xo (lim xa 0) (lim xa 1) (lim xa 2) (lim xa 3))) xo)) x4.2.2.1 (hV (idF xi xt xo (lim xa 0) (lim xa 1) (lim xa 2) (lim xa 3))) (tV ((tkF x4.2.2.1 (hV (idF xi xt xo (lim xa 0) (lim xa 1) (lim xa 2) (lim xa 3))) xo).1, x5.2.2.2.2.2.2.2))), (addIf (pyC (inBad xt xo (lim xa 0) (lim xa 1) (lim xa 2) (lim xa 3)) (x5.2.2.2.2.2.2.2 == 1 || x5.2.2.2.2.2.2.2 == 2) (tkF x4.2.2.1 (hV (idF xi xt xo (lim xa 0) (lim xa 1) (lim xa 2) (lim xa 3))) xo)) x4.2.2.2.1 (Tryd.ent73 x4.2.2.2.2.2.1 x4.2.2.1 (hV (idF xi xt xo (lim xa 0) (lim xa 1) (lim xa 2) (lim xa 3))))), x4.2.2.2.2.1, x4.2.2.2.2.2.1, x4.2.2.2.2.2.2.1, x4.2.2.2.2.2.2.2), ⟨by dsimp only; omega, Nat.le_trans addIf_len (by dsimp only; omega), by dsimp only; exact JN⟩, by dsimp only; omega, rfl, rfl, rfl, rfl, rfl, rfl,  congrArg (Value.int .i64) (by dsimp only; omega), rfl, rfl, rfl, rfl, rfl,  trivial⟩
        · refine ⟨rfl, rfl, rfl, rfl, rfl, rfl, rfl, rfl, rfl, rfl, rfl, rfl, rfl, rfl, rfl, rfl, rfl, rfl, tk_Move x4.2.2.2.2.1 x4.2.2.2.2.2.1 x4.2.2.2.2.2.2.1 x4.2.2.1 w xi xt xo (lim xa 0) (lim xa 1) (lim xa 2) (lim xa 3) x4.2.2.2.1 x5.2.2.2.2.2.1 x5.2.2.2.2.2.2.1 (by assumption) (by assumption) (by first | omega | exact Nat.zero_le _ | exact Nat.le_trans addIf_len (by first | omega | simp)), ⟨(), trivial⟩, ?_⟩
          intro _
          intro _
          skip
          refine ⟨fun h10 => ?_, fun h10 => ?_⟩
          · have hc := bne_iff_ne.1 h10
            have eT : (tkF (setIf (mvC (inBad xt xo (lim xa 0) (lim xa 1) (lim xa 2) (lim xa 3)) (decide (x5.2.2.2.2.2.1 < 16) && decide (x5.2.2.2.2.2.2.1 < 16)) (tkF x4.2.2.1 (hV (idF xi xt xo (lim xa 0) (lim xa 1) (lim xa 2) (lim xa 3))) xo) x5.2.2.2.2.2.1) x4.2.2.1 (hV (idF xi xt xo (lim xa 0) (lim xa 1) (lim xa 2) (lim xa 3))) (tV (x5.2.2.2.2.2.2.1, (tkF x4.2.2.1 (hV (idF xi xt xo (lim xa 0) (lim xa 1) (lim xa 2) (lim xa 3))) xo).2))) (hV (idF xi xt xo (lim xa 0) (lim xa 1) (lim xa 2) (lim xa 3))) xo) = (tkF x4.2.2.1 (hV (idF xi xt xo (lim xa 0) (lim xa 1) (lim xa 2) (lim xa 3))) xo) := tkF_setN hc
            have JN : OnceJ (inBad xt xo (lim xa 0) (lim xa 1) (lim xa 2) (lim xa 3)) (tkF (setIf (mvC (inBad xt xo (lim xa 0) (lim xa 1) (lim xa 2) (lim xa 3)) (decide (x5.2.2.2.2.2.1 < 16) && decide (x5.2.2.2.2.2.2.1 < 16)) (tkF x4.2.2.1 (hV (idF xi xt xo (lim xa 0) (lim xa 1) (lim xa 2) (lim xa 3))) xo) x5.2.2.2.2.2.1) x4.2.2.1 (hV (idF xi xt xo (lim xa 0) (lim xa 1) (lim xa 2) (lim xa 3))) (tV (x5.2.2.2.2.2.2.1, (tkF x4.2.2.1 (hV (idF xi xt xo (lim xa 0) (lim xa 1) (lim xa 2) (lim xa 3))) xo).2))) (hV (idF xi xt xo (lim xa 0) (lim xa 1) (lim xa 2) (lim xa 3))) xo) x4.2.1 := by rw [eT]; exact J
            refine ⟨rfl, rfl, rfl, rfl, rfl, rfl, rfl, rfl, rfl, rfl, rfl, rfl, rfl, rfl, tk_Owner x4.2.2.2.2.1 x4.2.2.2.2.2.1 x4.2.2.2.2.2.2.1 (setIf (mvC (inBad xt xo (lim xa 0) (lim xa 1) (lim xa 2) (lim xa 3)) (decide (x5.2.2.2.2.2.1 < 16) && decide (x5.2.2.2.2.2.2.1 < 16)) (tkF x4.2.2.1 (hV (idF xi xt xo (lim xa 0) (lim xa 1) (lim xa 2) (lim xa 3))) xo) x5.2.2.2.2.2.1) x4.2.2.1 (hV (idF xi xt xo (lim xa 0) (lim xa 1) (lim xa 2) (lim xa 3))) (tV (x5.2.2.2.2.2.2.1, (tkF x4.2.2.1 (hV (idF xi xt xo (lim xa 0) (lim xa 1) (lim xa 2) (lim xa 3))) xo).2))) w xi xt xo (lim xa 0) (lim xa 1) (lim xa 2) (lim xa 3) (by assumption) (by assumption), ⟨(), trivial⟩, ?_⟩
            intro _
            intro _
            refine ⟨⟨(), trivial, congrArg Value.bool (bne_eq_false_iff_eq.2 (by rw [eT]))⟩, ?_⟩
            intro _
            intro _
            refine ⟨rfl, rfl, rfl, rfl, rfl, rfl, rfl, rfl, rfl, rfl, rfl, rfl, rfl, rfl, rfl, rfl, rfl, tk_State x4.2.2.2.2.1 x4.2.2.2.2.2.1 x4.2.2.2.2.2.2.1 (setIf (mvC (inBad xt xo (lim xa 0) (lim xa 1) (lim xa 2) (lim xa 3)) (decide (x5.2.2.2.2.2.1 < 16) && decide (x5.2.2.2.2.2.2.1 < 16)) (tkF x4.2.2.1 (hV (idF xi xt xo (lim xa 0) (lim xa 1) (lim xa 2) (lim xa 3))) xo) x5.2.2.2.2.2.1) x4.2.2.1 (hV (idF xi xt xo (lim xa 0) (lim xa 1) (lim xa 2) (lim xa 3))) (tV (x5.2.2.2.2.2.2.1, (tkF x4.2.2.1 (hV (idF xi xt xo (lim xa 0) (lim xa 1) (lim xa 2) (lim xa 3))) xo).2))) w xi xt xo (lim xa 0) (lim xa 1) (lim xa 2) (lim xa 3) (by assumption) (by assumption), ⟨(), trivial⟩, ?_⟩
            intro _
            intro _
            refine ⟨rfl, rfl, ⟨(), trivial, congrArg Value.bool (bne_eq_false_iff_eq.2 (by rw [eT]))⟩, ?_⟩
            intro _
            intro _
            refine ⟨rfl, ?_⟩
            refine ⟨rfl, rfl, rfl, rfl, rfl, rfl, rfl, rfl, rfl, rfl, rfl, rfl, rfl, rfl, tk_State x4.2.2.2.2.1 x4.2.2.2.2.2.1 x4.2.2.2.2.2.2.1 (setIf (mvC (inBad xt xo (lim xa 0) (lim xa 1) (lim xa 2) (lim xa 3)) (decide (x5.2.2.2.2.2.1 < 16) && decide (x5.2.2.2.2.2.2.1 < 16)) (tkF x4.2.2.1 (hV (idF xi xt xo (lim xa 0) (lim xa 1) (lim xa 2) (lim xa 3))) xo) x5.2.2.2.2.2.1) x4.2.2.1 (hV (idF xi xt xo (lim xa 0) (lim xa 1) (lim xa 2) (lim xa 3))) (tV (x5.2.2.2.2.2.2.1, (tkF x4.2.2.1 (hV (idF xi xt xo (lim xa 0) (lim xa 1) (lim xa 2) (lim xa 3))) xo).2))) w xi xt xo (lim xa 0) (lim xa 1) (lim xa 2) (lim xa 3) (by assumption) (by assumption), ⟨(), trivial⟩, ?_⟩
            intro _
            intro _
            refine ⟨⟨(), trivial, congrArg Value.bool (bne_eq_false_iff_eq.2 (JN.p))⟩, ?_⟩
            intro _
            intro _
            refine ⟨rfl, ?_⟩
            refine ⟨⟨(), trivial, congrArg (Value.int .i64) (wrap_i64 _ (by omega) (by omega))⟩, ?_⟩
            intro _
            intro _
            exact ⟨(x4.1 + 1, x4.2.1, (setIf (mvC (inBad xt xo (lim xa 0) (lim xa 1) (lim xa 2) (lim xa 3)) (decide (x5.2.2.2.2.2.1 < 16) && decide (x5.2.2.2.2.2.2.1 < 16)) (tkF x4.2.2.1 (hV (idF xi xt xo (lim xa 0) (lim xa 1) (lim xa 2) (lim xa 3))) xo) x5.2.2.2.2.2.1) x4.2.2.1 (hV (idF xi xt xo (lim xa 0) (lim xa 1) (lim xa 2) (lim xa 3))) (tV (x5.2.2.2.2.2.2.1, (tkF x4.2.2.1 (hV (idF xi xt xo (lim xa 0) (lim xa 1) (lim xa 2) (lim xa 3))) xo).2))), (addIf (mvC (inBad xt xo (lim xa 0) (lim xa 1) (lim xa 2) (lim xa 3)) (decide (x5.2.2.2.2.2.1 < 16) && decide (x5.2.2.2.2.2.2.1 < 16)) (tkF x4.2.2.1 (hV (idF xi xt xo (lim xa 0) (lim xa 1) (lim xa 2) (lim xa 3))) xo) x5.2.2.2.2.2.1) x4.2.2.2.1 (Tryd.ent73 x4.2.2.2.2.2.1 x4.2.2.1 (hV (idF xi xt xo (lim xa 0) (lim xa 1) (lim xa 2) (lim xa 3))))), x4.2.2.2.2.1, x4.2.2.2.2.2.1, x4.2.2.2.2.2.2.1, x4.2.2.2.2.2.2.2), ⟨by dsimp only; omega, Nat.le_trans addIf_len (by dsimp only; omega), by dsimp only; exact JN⟩, by dsimp only; omega, rfl, rfl, rfl, rfl, rfl, rfl,  congrArg (Value.int .i64) (by dsimp only; omega), rfl, rfl, rfl, rfl, rfl,  trivial⟩
          · have hc : (mvC (inBad xt xo (lim xa 0) (lim xa 1) (lim xa 2) (lim xa 3)) (decide (x5.2.2.2.2.2.1 < 16) && decide (x5.2.2.2.2.2.2.1 < 16)) (tkF x4.2.2.1 (hV (idF xi xt xo (lim xa 0) (lim xa 1) (lim xa 2) (lim xa 3))) xo) x5.2.2.2.2.2.1) = 0 := by simpa using h10
            obtain ⟨hp, hfr, hto, JP⟩ := J.move hc
            have eT : (tkF (setIf (mvC (inBad xt xo (lim xa 0) (lim xa 1) (lim xa 2) (lim xa 3)) (decide (x5.2.2.2.2.2.1 < 16) && decide (x5.2.2.2.2.2.2.1 < 16)) (tkF x4.2.2.1 (hV (idF xi xt xo (lim xa 0) (lim xa 1) (lim xa 2) (lim xa 3))) xo) x5.2.2.2.2.2.1) x4.2.2.1 (hV (idF xi xt xo (lim xa 0) (lim xa 1) (lim xa 2) (lim xa 3))) (tV (x5.2.2.2.2.2.2.1, (tkF x4.2.2.1 (hV (idF xi xt xo (lim xa 0) (lim xa 1) (lim xa 2) (lim xa 3))) xo).2))) (hV (idF xi xt xo (lim xa 0) (lim xa 1) (lim xa 2) (lim xa 3))) xo) = _ := tkF_set0 hc
            have JN : OnceJ (inBad xt xo (lim xa 0) (lim xa 1) (lim xa 2) (lim xa 3)) (tkF (setIf (mvC (inBad xt xo (lim xa 0) (lim xa 1) (lim xa 2) (lim xa 3)) (decide (x5.2.2.2.2.2.1 < 16) && decide (x5.2.2.2.2.2.2.1 < 16)) (tkF x4.2.2.1 (hV (idF xi xt xo (lim xa 0) (lim xa 1) (lim xa 2) (lim xa 3))) xo) x5.2.2.2.2.2.1) x4.2.2.1 (hV (idF xi xt xo (lim xa 0) (lim xa 1) (lim xa 2) (lim xa 3))) (tV (x5.2.2.2.2.2.2.1, (tkF x4.2.2.1 (hV (idF xi xt xo (lim xa 0) (lim xa 1) (lim xa 2) (lim xa 3))) xo).2))) (hV (idF xi xt xo (lim xa 0) (lim xa 1) (lim xa 2) (lim xa 3))) xo) x4.2.1 := by rw [eT]; exact JP
            refine ⟨fun h11 => ?_, fun h11 => ?_⟩
            · exact absurd hp (by rw [h11]; decide)
            · refine ⟨rfl, rfl, ⟨(), trivial, congrArg Value.bool h7⟩, ?_⟩
              intro _
              intro _
              refine ⟨rfl, ?_⟩
              refine ⟨rfl, rfl, ⟨(), trivial, congrArg Value.bool (bne_eq_false_iff_eq.2 (hfr))⟩, ?_⟩
              intro _
              intro _
              refine ⟨rfl, rfl, rfl, rfl, rfl, rfl, rfl, rfl, rfl, rfl, rfl, rfl, rfl, rfl, rfl, rfl, rfl, tk_Owner x4.2.2.2.2.1 x4.2.2.2.2.2.1 x4.2.2.2.2.2.2.1 (setIf (mvC (inBad xt xo (lim xa 0) (lim xa 1) (lim xa 2) (lim xa 3)) (decide (x5.2.2.2.2.2.1 < 16) && decide (x5.2.2.2.2.2.2.1 < 16)) (tkF x4.2.2.1 (hV (idF xi xt xo (lim xa 0) (lim xa 1) (lim xa 2) (lim xa 3))) xo) x5.2.2.2.2.2.1) x4.2.2.1 (hV (idF xi xt xo (lim xa 0) (lim xa 1) (lim xa 2) (lim xa 3))) (tV (x5.2.2.2.2.2.2.1, (tkF x4.2.2.1 (hV (idF xi xt xo (lim xa 0) (lim xa 1) (lim xa 2) (lim xa 3))) xo).2))) w xi xt xo (lim xa 0) (lim xa 1) (lim xa 2) (lim xa 3) (by assumption) (by assumption), ⟨(), trivial⟩, ?_⟩
              intro _
              intro _
              refine ⟨rfl, rfl, rfl, rfl, rfl, ⟨(), trivial, congrArg Value.bool (bne_eq_false_iff_eq.2 (by rw [eT]))⟩, ?_⟩
              intro _
              intro _
              refine ⟨rfl, rfl, rfl, rfl, rfl, ⟨(), trivial, congrArg Value.bool (decide_eq_false (by omega))⟩, ?_⟩
              intro _
              intro _
              refine ⟨rfl, ?_⟩
              refine ⟨⟨(), trivial, congrArg Value.bool h11⟩, ?_⟩
              intro _
              intro _
              refine ⟨rfl, rfl, rfl, rfl, rfl, rfl, rfl, rfl, rfl, rfl, rfl, rfl, rfl, rfl, tk_State x4.2.2.2.2.1 x4.2.2.2.2.2.1 x4.2.2.2.2.2.2.1 (setIf (mvC (inBad xt xo (lim xa 0) (lim xa 1) (lim xa 2) (lim xa 3)) (decide (x5.2.2.2.2.2.1 < 16) && decide (x5.2.2.2.2.2.2.1 < 16)) (tkF x4.2.2.1 (hV (idF xi xt xo (lim xa 0) (lim xa 1) (lim xa 2) (lim xa 3))) xo) x5.2.2.2.2.2.1) x4.2.2.1 (hV (idF xi xt xo (lim xa 0) (lim xa 1) (lim xa 2) (lim xa 3))) (tV (x5.2.2.2.2.2.2.1, (tkF x4.2.2.1 (hV (idF xi xt xo (lim xa 0) (lim xa 1) (lim xa 2) (lim xa 3))) xo).2))) w xi xt xo (lim xa 0) (lim xa 1) (lim xa 2) (lim xa 3) (by assumption) (by assumption), ⟨(), trivial⟩, ?_⟩
              intro _
              intro _
              refine ⟨⟨(), trivial, congrArg Value.bool (bne_eq_false_iff_eq.2 (hp.symm.trans JN.p))⟩, ?_⟩
              intro _
              intro _
              refine ⟨rfl, ?_⟩
              refine ⟨⟨(), trivial, congrArg (Value.int .i64) (wrap_i64 _ (by omega) (by omega))⟩, ?_⟩
              intro _
              intro _
              exact ⟨(x4.1 + 1, x4.2.1, (setIf (mvC (inBad xt xo (lim xa 0) (lim xa 1) (lim xa 2) (lim xa 3)) (decide (x5.2.2.2.2.2.1 < 16) && decide (x5.2.2.2.2.2.2.1 < 16)) (tkF x4.2.2.1 (hV (idF xi xt xo (lim xa 0) (lim xa 1) (lim xa 2) (lim xa 3))) xo) x5.2.2.2.2.2.1) x4.2.2.1 (hV (idF xi xt xo (lim xa 0) (lim xa 1) (lim xa 2) (lim xa 3))) (tV (x5.2.2.2.2.2.2.1, (tkF x4.2.2.1 (hV (idF xi xt xo (lim xa 0) (lim xa 1) (lim xa 2) (lim xa 3))) xo).2))), (addIf (mvC (inBad xt xo (lim xa 0) (lim xa 1) (lim xa 2) (lim xa 3)) (decide (x5.2.2.2.2.2.1 < 16) && decide (x5.2.2.2.2.2.2.1 < 16)) (tkF x4.2.2.1 (hV (idF xi xt xo (lim xa 0) (lim xa 1) (lim xa 2) (lim xa 3))) xo) x5.2.2.2.2.2.1) x4.2.2.2.1 (Tryd.ent73 x4.2.2.2.2.2.1 x4.2.2.1 (hV (idF xi xt xo (lim xa 0) (lim xa 1) (lim xa 2) (lim xa 3))))), x4.2.2.2.2.1, x4.2.2.2.2.2.1, x4.2.2.2.2.2.2.1, x4.2.2.2.2.2.2.2), ⟨by dsimp only; omega, Nat.le_trans addIf_len (by dsimp only; omega), by dsimp only; exact JN⟩, by dsimp only; omega, rfl, rfl, rfl, rfl, rfl, rfl,  congrArg (Value.int .i64) (by dsimp only; omega), rfl, rfl, rfl, rfl, rfl,  trivial⟩
      · refine ⟨fun h12 => ?_, fun h12 => ?_⟩
        · refine ⟨⟨(), trivial, congrArg Value.bool h12⟩, ?_⟩
          intro _
          intro _
          refine ⟨rfl, rfl, rfl, rfl, rfl, rfl, ?_⟩
          exact ⟨(), trivial, rfl, rfl, trivial⟩
        · have hpd : x4.2.1 = true := by simpa using h12
          rw [hpd] at J
          have hL := J.last
          have h40 : ls.length ≤ 40 := by (try simp (disch := first | assumption | exact R4_zero | exact R4_one) only [num_vI, decide_eq_true_eq, decide_eq_false_iff_not, gt_iff_lt, ge_iff_le, beq_iff_eq, beq_eq_false_iff_ne, bne_iff_ne, bne_eq_false_iff_eq, ne_eq] at *); omega
          refine ⟨⟨(), trivial, congrArg Value.bool h12⟩, ?_⟩
          intro _
          intro _
          refine ⟨rfl, rfl, rfl, rfl, rfl, rfl, rfl, rfl, rfl, rfl, rfl, rfl, rfl, rfl, rfl, rfl, rfl, tk_Pay x4.2.2.2.2.1 x4.2.2.2.2.2.1 x4.2.2.2.2.2.2.1 x4.2.2.1 w xi xt xo (lim xa 0) (lim xa 1) (lim xa 2) (lim xa 3) x4.2.2.2.1 (1 : Int) (by assumption) (by assumption) (by first | omega | exact Nat.zero_le _ | exact Nat.le_trans addIf_len (by first | omega | simp)), ⟨(), trivial⟩, ?_⟩
          intro _
          intro _
          refine ⟨rfl, ⟨(), trivial, congrArg Value.bool (beq_iff_eq.2 hL.1)⟩, ?_⟩
          intro _
          intro _
          refine ⟨rfl, rfl, rfl, rfl, rfl, rfl, rfl, rfl, rfl, rfl, rfl, rfl, rfl, rfl, rfl, rfl, rfl, rfl, rfl, rfl, rfl, rfl, rfl, rfl, rfl, rfl, rfl, rfl, rfl, rfl, rfl, rfl, rfl, rfl, tk_Owner x4.2.2.2.2.1 x4.2.2.2.2.2.1 x4.2.2.2.2.2.2.1 (setIf (pyC (inBad xt xo (lim xa 0) (lim xa 1) (lim xa 2) (lim xa 3)) ((1 : Int) == 1 || (1 : Int) == 2) (tkF x4.2.2.1 (hV (idF xi xt xo (lim xa 0) (lim xa 1) (lim xa 2) (lim xa 3))) xo)) x4.2.2.1 (hV (idF xi xt xo (lim xa 0) (lim xa 1) (lim xa 2) (lim xa 3))) (tV ((tkF x4.2.2.1 (hV (idF xi xt xo (lim xa 0) (lim xa 1) (lim xa 2) (lim xa 3))) xo).1, (1 : Int)))) w xi xt xo (lim xa 0) (lim xa 1) (lim xa 2) (lim xa 3) (by assumption) (by assumption), ⟨(), trivial⟩, ?_⟩
          intro _
          intro _
          refine ⟨rfl, tk_Move x4.2.2.2.2.1 x4.2.2.2.2.2.1 x4.2.2.2.2.2.2.1 (setIf (pyC (inBad xt xo (lim xa 0) (lim xa 1) (lim xa 2) (lim xa 3)) ((1 : Int) == 1 || (1 : Int) == 2) (tkF x4.2.2.1 (hV (idF xi xt xo (lim xa 0) (lim xa 1) (lim xa 2) (lim xa 3))) xo)) x4.2.2.1 (hV (idF xi xt xo (lim xa 0) (lim xa 1) (lim xa 2) (lim xa 3))) (tV ((tkF x4.2.2.1 (hV (idF xi xt xo (lim xa 0) (lim xa 1) (lim xa 2) (lim xa 3))) xo).1, (1 : Int)))) w xi xt xo (lim xa 0) (lim xa 1) (lim xa 2) (lim xa 3) (addIf (pyC (inBad xt xo (lim xa 0) (lim xa 1) (lim xa 2) (lim xa 3)) ((1 : Int) == 1 || (1 : Int) == 2) (tkF x4.2.2.1 (hV (idF xi xt xo (lim xa 0) (lim xa 1) (lim xa 2) (lim xa 3))) xo)) x4.2.2.2.1 (Tryd.ent73 x4.2.2.2.2.2.1 x4.2.2.1 (hV (idF xi xt xo (lim xa 0) (lim xa 1) (lim xa 2) (lim xa 3))))) ((tkF (setIf (pyC (inBad xt xo (lim xa 0) (lim xa 1) (lim xa 2) (lim xa 3)) ((1 : Int) == 1 || (1 : Int) == 2) (tkF x4.2.2.1 (hV (idF xi xt xo (lim xa 0) (lim xa 1) (lim xa 2) (lim xa 3))) xo)) x4.2.2.1 (hV (idF xi xt xo (lim xa 0) (lim xa 1) (lim xa 2) (lim xa 3))) (tV ((tkF x4.2.2.1 (hV (idF xi xt xo (lim xa 0) (lim xa 1) (lim xa 2) (lim xa 3))) xo).1, (1 : Int)))) (hV (idF xi xt xo (lim xa 0) (lim xa 1) (lim xa 2) (lim xa 3))) xo).1) (0 : Int) (by assumption) (by assumption) (by first | omega | exact Nat.zero_le _ | exact Nat.le_trans addIf_len (by first | omega | simp)), ⟨(), trivial⟩, ?_⟩
          intro _
          intro _
          refine ⟨rfl, ⟨(), trivial, congrArg Value.bool (beq_iff_eq.2 (by rw [tkF_setN (by rw [hL.1]; decide)]; exact hL.2))⟩, ?_⟩
          intro _
          intro _
          refine ⟨rfl, ?_⟩
          exact ⟨(), trivial, rfl, rfl, trivial⟩

end Go.Proofs
