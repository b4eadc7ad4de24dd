/- Plain laws of the document's digits: the loops of its functions. -/
import Derived.Test.YtohkmdnelbajiaaDoorSxB14
set_option linter.unusedVariables false
set_option linter.unusedSimpArgs false
namespace Go.Sx
theorem dgt_out {l : List Int} {n : Nat} (h : l.length ≤ n) : dgt l n = 0 := by
  rw [dgt, List.getD_eq_getElem?_getD, List.getElem?_eq_none h]; rfl
/-! ### Trim -/
structure TrimR (l m : List Int) : Prop where
  eq : nv m = nv l
  canon : Canon m
  len : m.length ≤ l.length
structure TrimI (l : List Int) (n : Nat) : Prop where
  le : n ≤ l.length
  eq : nv (l.take n) = nv l
theorem trim_start (l : List Int) : TrimI l l.length := ⟨Nat.le_refl _, by rw [List.take_length]⟩
theorem trim_step {l : List Int} {n : Nat} (h : TrimI l n) (h0 : 0 < n) (hd : dgt l (n - 1) = 0) : TrimI l (n - 1) := by
  refine ⟨by have := h.le; omega, ?_⟩
  have e := nv_take_succ l (n - 1)
  rw [show n - 1 + 1 = n from by omega, hd, Int.mul_zero, Int.add_zero] at e
  rw [← e]; exact h.eq
theorem trim_end {l : List Int} {n : Nat} (h : TrimI l n) (hd : n = 0 ∨ dgt l (n - 1) ≠ 0) : TrimR l (l.take n) := by
  refine ⟨h.eq, ?_, by simp; have := h.le; omega⟩
  unfold Canon
  rcases hd with rfl | hd
  · simp
  · rcases Nat.eq_zero_or_pos n with rfl | hp
    · simp
    · have hl := h.le
      rw [List.getLast?_eq_getElem?, List.length_take, Nat.min_eq_left hl, List.getElem?_take_of_lt (by omega)]
      intro hx
      exact hd (by rw [dgt, List.getD_eq_getElem?_getD, hx]; rfl)
theorem wit_trim (a : Row) (h : RowOK a) : ∃ x : Row, (fun zx => RowOK zx ∧ ss 3 zx = ss 3 a ∧ TrimR (rdv (sv a) (ss 3 a)) (dg zx)) x := by
  rw [rdv_eq]
  have key : ∀ n, TrimI (dg a) n → ∃ m, TrimI (dg a) m ∧ (m = 0 ∨ dgt (dg a) (m - 1) ≠ 0) := by
    intro n
    induction n with
    | zero => exact fun h => ⟨0, h, .inl rfl⟩
    | succ n ih =>
      intro h
      rcases Classical.em (dgt (dg a) n = 0) with h' | h'
      · exact ih (trim_step h (by omega) h')
      · exact ⟨n + 1, h, .inr h'⟩
  obtain ⟨m, hm, he⟩ := key _ (trim_start _)
  refine ⟨a.take m, (h.take m).1, ss_take _ _ _, ?_⟩
  rw [(h.take m).2]
  exact trim_end hm he
/-! ### Cmp -/
structure CmpI (a b : List Int) (n : Nat) : Prop where
  le : n ≤ max a.length b.length
  eq : nv (a.drop n) = nv (b.drop n)
theorem cmp_start (a b : List Int) : CmpI a b (max a.length b.length) :=
  ⟨Nat.le_refl _, by rw [List.drop_of_length_le (by omega), List.drop_of_length_le (by omega)]⟩
theorem nv_split' (l : List Int) (n : Nat) : nv l = nv (l.take n) + P16 n * nv (l.drop n) := by
  rcases Nat.lt_or_ge l.length n with h | h
  · rw [List.take_of_length_le (by omega), List.drop_of_length_le (by omega)]; simp [nv]
  · exact nv_split l n h
theorem nv_take_lt {l : List Int} (h : Dig l) (n : Nat) : 0 ≤ nv (l.take n) ∧ nv (l.take n) < P16 n :=
  ⟨nv_nonneg (h.take n), Int.lt_of_lt_of_le (nv_lt (h.take n)) (P16_mono (by simp; omega))⟩
theorem cmp_step {a b : List Int} {n : Nat} (h : CmpI a b n) (h0 : 0 < n) (hd : dgt a (n - 1) = dgt b (n - 1)) : CmpI a b (n - 1) := by
  refine ⟨by have := h.le; omega, ?_⟩
  rw [nv_drop_dgt a, nv_drop_dgt b, hd, show n - 1 + 1 = n from by omega, h.eq]
theorem cmp_lt {a b : List Int} (ha : Dig a) (hb : Dig b) {n : Nat} (h : CmpI a b n) (h0 : 0 < n) (hd : dgt a (n - 1) < dgt b (n - 1)) : nv a < nv b := by
  have e1 := nv_split' a (n - 1); have e2 := nv_split' b (n - 1)
  rw [nv_drop_dgt a, show n - 1 + 1 = n from by omega] at e1
  rw [nv_drop_dgt b, show n - 1 + 1 = n from by omega, ← h.eq] at e2
  have t1 := nv_take_lt ha (n - 1); have t2 := nv_take_lt hb (n - 1)
  have hp := P16_pos (n - 1)
  have := Int.mul_le_mul_of_nonneg_left (show dgt a (n - 1) + 65536 * nv (a.drop n) + 1 ≤ dgt b (n - 1) + 65536 * nv (a.drop n) by omega) (Int.le_of_lt hp)
  rw [Int.mul_add] at this
  omega
theorem cmp_end {a b : List Int} (h : CmpI a b 0) : nv a = nv b := by simpa using h.eq
theorem CmpI.symm {a b : List Int} {n : Nat} (h : CmpI a b n) : CmpI b a n := ⟨by have := h.le; omega, h.eq.symm⟩
theorem hCmp_lt {a b : Int} (h : a < b) : -1 = hCmp a b := by unfold hCmp; rw [if_pos h]
theorem hCmp_gt {a b : Int} (h : b < a) : 1 = hCmp a b := by unfold hCmp; rw [if_neg (by omega), if_pos h]
theorem hCmp_eq {a b : Int} (h : a = b) : 0 = hCmp a b := by unfold hCmp; rw [if_neg (by omega), if_neg (by omega)]
/-! ### Add -/
structure AddI (a b : List Int) (i : Nat) (c : Int) (o : List Int) : Prop where
  le : i ≤ max a.length b.length + 1
  len : o.length = i
  c0 : 0 ≤ c
  c1 : c ≤ 1
  ends : max a.length b.length < i → c = 0
  eq : nv o + P16 i * c = nv (a.take i) + nv (b.take i)
theorem add_start (a b : List Int) : AddI a b 0 0 [] := ⟨by omega, rfl, by omega, by omega, by omega, by simp [nv]⟩
theorem add_step {a b o : List Int} {i : Nat} {c x : Int} (ha : Dig a) (hb : Dig b) (h : AddI a b i c o) (hx : x = dgt a i + dgt b i + c) (hlt : (i < max a.length b.length) ∨ 0 < c) :
    AddI a b (i + 1) (x / 65536) (o ++ [x % 65536]) ∧ 0 ≤ x % 65536 ∧ x % 65536 < 65536 := by
  obtain ⟨h1, h2, h3, h4, h5, h6⟩ := h
  have da := ha.dgt i; have db := hb.dgt i
  refine ⟨⟨?_, by simp [h2], by omega, by omega, ?_, ?_⟩, by omega, by omega⟩
  · rcases Nat.lt_or_ge (max a.length b.length) i with h' | h'
    · have := h5 h'; omega
    · omega
  · intro h'
    have e1 : dgt a i = 0 := dgt_out (by omega)
    have e2 : dgt b i = 0 := dgt_out (by omega)
    omega
  · rw [nv_snoc, h2, nv_take_succ, nv_take_succ, P16_succ, Int.mul_comm 65536, Int.mul_assoc]
    have e : P16 i * (dgt a i + dgt b i + c) = P16 i * (x % 65536) + P16 i * (65536 * (x / 65536)) := by rw [← Int.mul_add, ← hx]; congr 1; omega
    rw [Int.mul_add, Int.mul_add] at e
    omega
theorem add_end {a b o : List Int} {i : Nat} {c : Int} (h : AddI a b i c o) (hi : max a.length b.length ≤ i) (hc : c ≤ 0) : nv o = nv a + nv b := by
  have e := h.eq
  have : c = 0 := by have := h.c0; omega
  rw [this, Int.mul_zero, Int.add_zero, nv_take_all a i (by omega), nv_take_all b i (by omega)] at e
  exact e
/-! ### Sub -/
structure SubI (a b : List Int) (i : Nat) (c : Int) (o : List Int) : Prop where
  le : i ≤ a.length
  len : o.length = i
  c0 : 0 ≤ c
  c1 : c ≤ 1
  eq : nv o = nv (a.take i) - nv (b.take i) + P16 i * c
theorem sub_start (a b : List Int) : SubI a b 0 0 [] := ⟨by omega, rfl, by omega, by omega, by simp [nv]⟩
theorem sub_go {a b o : List Int} {i : Nat} {c x c' : Int} (ha : Dig a) (hb : Dig b) (h : SubI a b i c o) (hi : i < a.length) (hx : x = dgt a i - dgt b i - c + 65536 * c') (h0 : 0 ≤ x) (h1 : x < 65536) (c0 : 0 ≤ c') (c1 : c' ≤ 1) :
    SubI a b (i + 1) c' (o ++ [x]) := by
  obtain ⟨h1, h2, h3, h4, h6⟩ := h
  refine ⟨by omega, by simp [h2], by omega, by omega, ?_⟩
  rw [nv_snoc, h2, nv_take_succ, nv_take_succ, P16_succ, h6, hx, Int.mul_add, Int.mul_sub, Int.mul_sub, Int.mul_comm 65536 (P16 i), Int.mul_assoc]
  omega
theorem sub_end {a b o : List Int} {c : Int} (ha : Dig a) (hb : Dig b) (ho : Dig o) (h : SubI a b a.length c o) (hle : nv b ≤ nv a) : nv o = nv a - nv b := by
  have e := h.eq
  rw [nv_take_all a _ (Nat.le_refl _)] at e
  have e2 := nv_split' b a.length
  have la := nv_lt ha
  have lb := nv_take_lt hb a.length
  have lo := nv_lt ho
  rw [h.len] at lo
  have d0 := nv_nonneg (hb.drop a.length)
  have n0 := nv_nonneg ho
  have hp := P16_pos a.length
  have hd : nv (b.drop a.length) = 0 := by
    rcases Int.lt_or_le 0 (nv (b.drop a.length)) with h' | h'
    · have := Int.mul_le_mul_of_nonneg_left (Int.add_one_le_of_lt h') (Int.le_of_lt hp)
      simp at this; omega
    · omega
  rw [hd] at e2
  have c0 := h.c0; have c1 := h.c1
  have hc : c = 0 := by
    rcases Int.lt_or_le 0 c with h' | h'
    · have : c = 1 := by omega
      subst this; omega
    · omega
  subst hc; omega
end Go.Sx
namespace Go.Sx
theorem ex_digits : ∀ (k n : Nat), n ≤ k → ∃ l : List Int, Dig l ∧ nv l = (n : Int) ∧ Canon l
  | k, 0, _ => ⟨[], Dig.nil, rfl, by simp [Canon]⟩
  | 0, n + 1, h => by omega
  | k + 1, n + 1, h => by
    obtain ⟨l, hd, hv, hc⟩ := ex_digits k ((n + 1) / 65536) (by omega)
    refine ⟨(((n + 1) % 65536 : Nat) : Int) :: l, ?_, ?_, ?_⟩
    · intro d hd'
      rcases List.mem_cons.1 hd' with rfl | h'
      · omega
      · exact hd d h'
    · simp only [nv, hv]; omega
    · cases l with
      | nil =>
        simp only [nv] at hv
        intro h0
        simp at h0
        omega
      | cons x l => simpa [Canon] using hc
theorem wit_row {n : Int} (h : 0 ≤ n) : ∃ x : Row, (fun zx => RowOK zx ∧ nv (dg zx) = n ∧ Canon (dg zx)) x := by
  obtain ⟨l, hd, hv, hc⟩ := ex_digits n.toNat n.toNat (Nat.le_refl _)
  obtain ⟨h1, h2⟩ := RowOK.of (r := .mk 0 (l.map (.int .i64)) []) rfl hd
  exact ⟨_, h1, by rw [h2, hv]; omega, by rw [h2]; exact hc⟩
theorem quo_i64 {x : Int} (h0 : 0 ≤ x) (h1 : x ≤ 9223372036854775807) : IntKind.i64.wrap (Int.tdiv x 65536) = x / 65536 := by
  rw [Int.tdiv_eq_ediv_of_nonneg h0, wrap_i64 _ (by omega) (by omega)]
end Go.Sx
