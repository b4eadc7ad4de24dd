/- Laws for the walks of books. -/
import Derived.Test.YtohkmdnelbajiaaSxF2
import Derived.Test.YtohkmdnelbajiaaSxF1
import Derived.Test.YtohkmdnelbajiaaSxB18
set_option linter.unusedVariables false
set_option linter.unusedSimpArgs false
namespace Go.Sx
theorem wf8' {n : Int} (h : (Lit.int .u8 n).wf = true) : 0 ≤ n ∧ n ≤ 255 := wf8 h
theorem hAdd_cases' {a b : Int} {x : Int × Int} (h : x = hAdd a b) : (x.2 = 0 ∧ x.1 = a + b ∧ a + b < 115792089237316195423570985008687907853269984665640564039457584007913129639936) ∨ (x.2 = 2 ∧ x.1 = 0 ∧ 115792089237316195423570985008687907853269984665640564039457584007913129639936 ≤ a + b) := by
  subst h; unfold hAdd; split
  · exact .inl ⟨rfl, rfl, by assumption⟩
  · exact .inr ⟨rfl, rfl, by omega⟩
theorem hSub_cases' {a b : Int} {x : Int × Int} (h : x = hSub a b) : (x.2 = 0 ∧ x.1 = a - b ∧ b ≤ a) ∨ (x.2 = 2 ∧ x.1 = 0 ∧ a < b) := by
  subst h; unfold hSub; split
  · exact .inl ⟨rfl, rfl, by assumption⟩
  · exact .inr ⟨rfl, rfl, by omega⟩
/-! ### The chapter's example -/
theorem bal_nil (t p : Int) : bal [] t p = 0 := num_vI R4_zero
theorem sup_nil (t : Int) : sup [] t = 0 := num_vI R4_zero
theorem live_mint (eb es : KV → Value → Ent) : bMint eb es ([], [], []) 0 3 5 = (0, (mput [] (kk 0 3) 5, mset [] (.int .u8 0) (vI 5), [es [] (.int .u8 0), eb [] (kk 0 3)])) := by
  have h1 : (hAdd (bal [] 0 3) 5).1 = 5 := by rw [bal_nil]; decide
  unfold bMint
  rw [if_neg (by decide)]
  simp only [sup_nil]
  rw [if_neg (by decide), h1]
  rfl
theorem live_bal0 : bal (mput [] (kk 0 3) 5) 0 3 = 5 := by rw [bal_put MOK.nil (by unfold R4; decide)]; rfl
theorem live_move {eb es : KV → Value → Ent} {x : Int × BS} (h : x = (0, (mput [] (kk 0 3) 5, mset [] (.int .u8 0) (vI 5), [es [] (.int .u8 0), eb [] (kk 0 3)]))) {eb' : KV → Value → Ent} : bMove eb' (x.2.1, x.2.2.1, x.2.2.2) 0 3 16 6 = (8, (x.2.1, x.2.2.1, x.2.2.2)) := by
  unfold bMove
  rw [if_neg (by decide), if_pos]
  rw [h]; simp only [live_bal0]; decide
theorem live_bal {eb es : KV → Value → Ent} {x : Int × BS} (h : x = (0, (mput [] (kk 0 3) 5, mset [] (.int .u8 0) (vI 5), [es [] (.int .u8 0), eb [] (kk 0 3)]))) : bal x.2.1 0 3 = 5 := by rw [h]; exact live_bal0
section
variable {eb es : KV → Value → Ent} {s : BS} {t p q n e : Int}
theorem bMint_w (hw : e = bw1 t p n) (h : e ≠ 0) : bMint eb es s t p n = (e, s) := by unfold bMint; rw [← hw, if_pos h]
theorem bMint_ov (hw : 0 = bw1 t p n) (h : M256 ≤ sup s.2.1 t + n) : bMint eb es s t p n = (2, s) := by unfold bMint; rw [← hw, if_neg (by decide), if_pos h]
theorem bMint_ok (hw : 0 = bw1 t p n) (h : ¬ M256 ≤ sup s.2.1 t + n) {a : Int} (ha : a = sup s.2.1 t + n) {m1 : KV} {L1 : List Ent} (h1 : m1 = mset s.2.1 (.int .u8 t) (vI a)) (h2 : L1 = s.2.2 ++ [es s.2.1 (.int .u8 t)]) {y : Int} (hy : y = (hAdd (bal s.1 t p) n).1)
    {x : BS} (hx : x = bPut eb (s.1, m1, L1) (kk t p) y) : bMint eb es s t p n = (0, x) := by
  unfold bMint; rw [← hw, if_neg (by decide), if_neg h, hx, h1, h2, hy, ha]; rfl
theorem bBurn_w (hw : e = bw1 t p n) (h : e ≠ 0) : bBurn eb es s t p n = (e, s) := by unfold bBurn; rw [← hw, if_pos h]
theorem bBurn_no (hw : 0 = bw1 t p n) (h : bal s.1 t p < n) : bBurn eb es s t p n = (8, s) := by unfold bBurn; rw [← hw, if_neg (by decide), if_pos h]
theorem bBurn_ok (hw : 0 = bw1 t p n) (h : ¬ bal s.1 t p < n) {a : Int} (ha : a = (hSub (sup s.2.1 t) n).1) {m1 : KV} {L1 : List Ent} (h1 : m1 = mset s.2.1 (.int .u8 t) (vI a)) (h2 : L1 = s.2.2 ++ [es s.2.1 (.int .u8 t)]) {y : Int} (hy : y = bal s.1 t p - n)
    {x : BS} (hx : x = bPut eb (s.1, m1, L1) (kk t p) y) : bBurn eb es s t p n = (0, x) := by
  unfold bBurn; rw [← hw, if_neg (by decide), if_neg h, hx, h1, h2, hy, ha]; rfl
theorem bMove_w (hw : e = bw2 t p q n) (h : e ≠ 0) : bMove eb s t p q n = (e, s) := by unfold bMove; rw [← hw, if_pos h]
theorem bMove_no (hw : 0 = bw2 t p q n) (h : bal s.1 t p < n) : bMove eb s t p q n = (8, s) := by unfold bMove; rw [← hw, if_neg (by decide), if_pos h]
theorem bMove_ok (hw : 0 = bw2 t p q n) (h : ¬ bal s.1 t p < n) {a : Int} (ha : a = bal s.1 t p - n) {x1 : BS} (h1 : x1 = bPut eb s (kk t p) a) {y : Int} (hy : y = (hAdd (bal x1.1 t q) n).1)
    {x : BS} (hx : x = bPut eb x1 (kk t q) y) : bMove eb s t p q n = (0, x) := by
  unfold bMove; rw [← hw, if_neg (by decide), if_neg h, ← ha, ← h1, ← hy, ← hx]
theorem add_ok {a b : Int} {x : Int × Int} (h : x = hAdd a b) (h0 : (x.2 != 0) = false) : x.1 = a + b ∧ a + b < M256 := by
  have := bne_eq_false_iff_eq.1 h0; rcases hAdd_cases' h with ⟨h1, h2, h3⟩ | ⟨h1, h2, h3⟩
  · exact ⟨h2, h3⟩
  · omega
theorem add_ov {a b : Int} {x : Int × Int} (h : x = hAdd a b) (h0 : (x.2 != 0) = true) : x.2 = 2 ∧ M256 ≤ a + b := by
  have := bne_iff_ne.1 h0; rcases hAdd_cases' h with ⟨h1, h2, h3⟩ | ⟨h1, h2, h3⟩
  · omega
  · exact ⟨h1, h3⟩
theorem sub_ok {a b : Int} {x : Int × Int} (h : x = hSub a b) (h0 : (x.2 != 0) = false) : x.1 = a - b ∧ b ≤ a := by
  have := bne_eq_false_iff_eq.1 h0; rcases hSub_cases' h with ⟨h1, h2, h3⟩ | ⟨h1, h2, h3⟩
  · exact ⟨h2, h3⟩
  · omega
theorem sub_no {a b : Int} {x : Int × Int} (h : x = hSub a b) (h0 : (x.2 != 0) = true) : x.2 = 2 ∧ a < b := by
  have := bne_iff_ne.1 h0; rcases hSub_cases' h with ⟨h1, h2, h3⟩ | ⟨h1, h2, h3⟩
  · omega
  · exact ⟨h1, h3⟩
end
end Go.Sx
