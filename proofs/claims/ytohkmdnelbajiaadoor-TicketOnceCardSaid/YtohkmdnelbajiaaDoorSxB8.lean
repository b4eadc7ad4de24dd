/- A window of cells; a step of the long division. -/
import Derived.Test.YtohkmdnelbajiaaDoorSxB7
set_option linter.unusedVariables false
set_option linter.unusedSimpArgs false
namespace Go.Sx
def setw (c : Array Value) (j : Nat) : List Value → Array Value
  | [] => c
  | v :: vs => setw (c.setIfInBounds j v) (j + 1) vs
theorem setw_size (vs : List Value) : ∀ (c : Array Value) (j : Nat), (setw c j vs).size = c.size := by
  induction vs with
  | nil => intro c j; rfl
  | cons v vs ih => intro c j; rw [setw, ih, Array.size_setIfInBounds]
theorem gs {c : Array Value} {m n : Nat} {x v : Value} (h : c[m]? = some x) (hne : n ≠ m) : (c.setIfInBounds n v)[m]? = some x := by
  rw [Array.getElem?_setIfInBounds_ne hne]; exact h
theorem setw_get_lt (vs : List Value) : ∀ (c : Array Value) (j i : Nat), i < j → (setw c j vs)[i]? = c[i]? := by
  induction vs with
  | nil => intro c j i _; rfl
  | cons v vs ih => intro c j i h; rw [setw, ih _ _ _ (by omega), Array.getElem?_setIfInBounds_ne (by omega)]
theorem setw_get (vs : List Value) : ∀ (c : Array Value) (j i : Nat) (x : Value), j + vs.length ≤ c.size → vs[i]? = some x → (setw c j vs)[j + i]? = some x := by
  induction vs with
  | nil => intro c j i x _ h; simp at h
  | cons v vs ih =>
    intro c j i x hs h
    rw [List.length_cons] at hs
    rw [setw]
    cases i with
    | zero =>
      rw [setw_get_lt _ _ _ _ (by omega)]
      simp at h; subst h
      rw [Nat.add_zero, Array.getElem?_setIfInBounds_self_of_lt (by omega)]
    | succ i =>
      rw [show j + (i + 1) = (j + 1) + i from by omega]
      exact ih _ _ _ _ (by rw [Array.size_setIfInBounds]; omega) (by simpa using h)
theorem setw_comm (vs : List Value) : ∀ (c : Array Value) (j i : Nat) (x : Value), i < j → setw (c.setIfInBounds i x) j vs = (setw c j vs).setIfInBounds i x := by
  induction vs with
  | nil => intro c j i x _; rfl
  | cons v vs ih =>
    intro c j i x h
    rw [setw, setw, ← ih _ _ _ _ (by omega), Array.setIfInBounds_comm _ _ (by omega)]
theorem setw_setw (vs : List Value) : ∀ (ws : List Value) (c : Array Value) (j : Nat), ws.length = vs.length → setw (setw c j ws) j vs = setw c j vs := by
  induction vs with
  | nil => intro ws c j h; cases ws with
    | nil => rfl
    | cons => simp at h
  | cons v vs ih =>
    intro ws c j h
    cases ws with
    | nil => simp at h
    | cons u us =>
      rw [setw, setw, setw, ← setw_comm us _ _ j v (by omega), Array.setIfInBounds_setIfInBounds]
      exact ih _ _ _ (by simpa using h)
theorem frz0 (n : Nat) : frz (0, 0) n = false := by simp [frz]
structure StepR (U V q R : Int) : Prop where
  eq : q * V + R = U
  r0 : 0 ≤ R
  r1 : R < V
  wq : W q
theorem wit_q {U V : Int} (h0 : 0 ≤ U) (h1 : U < V * 18446744073709551616) (hV : 0 < V) : StepR U V (U / V) (U % V) := by
  refine ⟨by rw [Int.mul_comm]; exact Int.mul_ediv_add_emod _ _, Int.emod_nonneg _ (by omega), Int.emod_lt_of_pos _ hV, Int.ediv_nonneg h0 (by omega), ?_⟩
  rw [Int.ediv_lt_iff_lt_mul hV, Int.mul_comm]; exact h1
/-- What a guess must be: the rest is less than the divisor. -/
structure GuessR (U V g : Int) : Prop where
  w : W g
  lt : U - g * V < V
theorem guess_max {U V : Int} (h : U < V * 18446744073709551616) : GuessR U V 18446744073709551615 :=
  ⟨⟨by decide, by decide⟩, by omega⟩
/-- A guess by the two highest limbs. p: the power of the divisor's highest limb. -/
theorem guess_div {U V hi lo v q r p l : Int} (h : q * v + r = hi * 18446744073709551616 + lo) (r1 : r < v) (wq : W q) (hp : 0 < p) (hU : U < (hi * 18446744073709551616 + lo + 1) * p) (hV : V = v * p + l) (l0 : 0 ≤ l) : GuessR U V q := by
  refine ⟨wq, ?_⟩
  have a : (hi * 18446744073709551616 + lo + 1) * p ≤ (q + 1) * v * p := by
    apply Int.mul_le_mul_of_nonneg_right _ (by omega)
    rw [Int.add_mul]; omega
  have b : 0 ≤ (q + 1) * l := Int.mul_nonneg (by have := wq.1; omega) l0
  have c : (q + 1) * V = (q + 1) * v * p + (q + 1) * l := by rw [hV, Int.mul_add, Int.mul_assoc]
  rw [Int.add_mul q 1 V] at c
  omega
structure LoopR (U V P g c D : Int) : Prop where
  w : W g
  c0 : 0 ≤ c
  c1 : c ≤ 1
  eq : g * V + (D - c * P) = U
  lt : D - c * P < V
theorem loop_dec {U V P g c D c' D' k : Int} (h : LoopR U V P g c D) (hc : (c == (0 : Int)) = false) (hU : 0 ≤ U) (hD : D < P) (hk : D' + k * P = D + V) (hD' : 0 ≤ D') (hD1 : D' < P) (k0 : 0 ≤ k) (k1 : k ≤ 1)
    (hV : 0 < V) (hc' : c' = IntKind.u64.wrap (c - k)) : LoopR U V P (IntKind.u64.wrap (g - 1)) c' D' ∧ (IntKind.u64.wrap (g - 1)).toNat < g.toNat := by
  obtain ⟨w, c0, c1, eq, lt⟩ := h
  have c2 : c = 1 := by
    have : c ≠ 0 := by simpa using hc
    omega
  subst c2
  have g1 : 1 ≤ g := by
    rcases Int.lt_or_le g 1 with h | h
    · have : g = 0 := by have := w.1; omega
      subst this; omega
    · exact h
  have := w.2
  rw [wrap_W (a := 1 - k) ⟨by omega, by omega⟩] at hc'
  rw [wrap_W (a := g - 1) ⟨by omega, by omega⟩]
  subst hc'
  have e : (1 - k) * P = P - k * P := by rw [Int.sub_mul, Int.one_mul]
  refine ⟨⟨⟨by omega, by omega⟩, by omega, by omega, ?_, ?_⟩, by omega⟩
  · rw [e, Int.sub_mul g 1 V]; omega
  · rw [e]; omega
theorem loop_ret {U V P g c D : Int} (h : LoopR U V P g c D) (hc : (c == (0 : Int)) = true) (hD : 0 ≤ D) : StepR U V g D := by
  have : c = 0 := by simpa using hc
  subst this
  have h1 := h.eq; have h2 := h.lt
  rw [Int.zero_mul] at h1 h2
  exact ⟨by omega, hD, by omega, h.w⟩
end Go.Sx
