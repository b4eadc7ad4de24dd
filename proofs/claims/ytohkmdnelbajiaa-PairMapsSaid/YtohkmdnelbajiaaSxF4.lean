/- Plain laws of layer 13: what a book conserves. -/
import Derived.Test.YtohkmdnelbajiaaSxF3
set_option linter.unusedVariables false
set_option linter.unusedSimpArgs false
namespace Go.Sx
def sumTo (f : Nat → Int) : Nat → Int
  | 0 => 0
  | n + 1 => sumTo f n + f n
theorem sumTo_congr {f g : Nat → Int} : ∀ {n : Nat}, (∀ p, p < n → f p = g p) → sumTo f n = sumTo g n
  | 0, _ => rfl
  | n + 1, h => by rw [sumTo, sumTo, sumTo_congr (fun p hp => h p (by omega)), h n (by omega)]
theorem sumTo_upd {f g : Nat → Int} {q : Nat} {v : Int} : ∀ {n : Nat}, q < n → (∀ p, p < n → g p = if p = q then v else f p) → sumTo g n = sumTo f n + v - f q
  | n + 1, hq, h => by
    rw [sumTo, sumTo]
    by_cases e : q = n
    · subst e
      rw [sumTo_congr (g := f) (fun p hp => by rw [h p (by omega), if_neg (by omega)]), h q (by omega), if_pos rfl]; omega
    · rw [sumTo_upd (n := n) (by omega) (fun p hp => h p (by omega)), h n (by omega), if_neg (by omega)]; omega
theorem sumTo_nonneg {f : Nat → Int} : ∀ {n : Nat}, (∀ p, p < n → 0 ≤ f p) → 0 ≤ sumTo f n
  | 0, _ => Int.le_refl _
  | n + 1, h => by rw [sumTo]; have := sumTo_nonneg (n := n) (fun p hp => h p (by omega)); have := h n (by omega); omega
theorem sumTo_one {f : Nat → Int} {q : Nat} : ∀ {n : Nat}, q < n → (∀ p, p < n → 0 ≤ f p) → f q ≤ sumTo f n
  | n + 1, hq, h => by
    rw [sumTo]
    have h0 := sumTo_nonneg (n := n) (fun p hp => h p (by omega))
    have h1 := h n (by omega)
    by_cases e : q = n
    · subst e; omega
    · have := sumTo_one (n := n) (by omega : q < n) (fun p hp => h p (by omega)); omega
theorem sumTo_two {f : Nat → Int} {q r : Nat} (hne : q ≠ r) : ∀ {n : Nat}, q < n → r < n → (∀ p, p < n → 0 ≤ f p) → f q + f r ≤ sumTo f n
  | n + 1, hq, hr, h => by
    rw [sumTo]
    have h1 := h n (by omega)
    by_cases e : q = n
    · subst e; have := sumTo_one (n := q) (q := r) (by omega) (fun p hp => h p (by omega)); omega
    · by_cases e2 : r = n
      · subst e2; have := sumTo_one (n := r) (q := q) (by omega) (fun p hp => h p (by omega)); omega
      · have := sumTo_two hne (n := n) (by omega) (by omega) (fun p hp => h p (by omega)); omega
theorem sumTo_le {f g : Nat → Int} : ∀ {n : Nat}, (∀ p, p < n → f p ≤ g p) → sumTo f n ≤ sumTo g n
  | 0, _ => Int.le_refl _
  | n + 1, h => by rw [sumTo, sumTo]; have := sumTo_le (n := n) (fun p hp => h p (by omega)); have := h n (by omega); omega
/-- All balances of a token. -/
noncomputable def tot (m : KV) (t : Int) : Int := sumTo (fun p => bal m t p) 18
structure CI (Kb Ks : MK) (s : BS) (more less : Int → Int) (i : Nat) : Prop where
  kb : KOK Kb s.1
  ks : KOK Ks s.2.1
  eq : ∀ t, 0 ≤ t → t < 4 → tot s.1 t = sup s.2.1 t
  nk : NumK Ks
  bk : ∀ t, 0 ≤ t → t < 4 → sup s.2.1 t + less t = more t
  l0 : ∀ t, 0 ≤ t → t < 4 → 0 ≤ less t
  mi : ∀ t, 0 ≤ t → t < 4 → more t ≤ i * M256
theorem ci_start {Kb Ks : MK} (nk : NumK Ks) : CI Kb Ks ([], [], []) (fun _ => 0) (fun _ => 0) 0 := by
  refine ⟨KOK.nil, KOK.nil, fun t _ _ => ?_, nk, fun t _ _ => by rw [sup_nil]; rfl, fun t _ _ => Int.le_refl _, fun t _ _ => by simp⟩
  unfold tot
  rw [sup_nil, sumTo_congr (g := fun _ => 0) (fun p _ => bal_nil t p)]; rfl
theorem CI.later {Kb Ks : MK} {s : BS} {more less : Int → Int} {i : Nat} (h : CI Kb Ks s more less i) : CI Kb Ks s more less (i + 1) :=
  ⟨h.kb, h.ks, h.eq, h.nk, h.bk, h.l0, fun t h0 h4 => by
    have h1 := h.mi t h0 h4
    rw [Int.natCast_succ, Int.add_mul]
    unfold M256 at *
    omega⟩
theorem CI.congr {Kb Ks : MK} {s : BS} {more less more' less' : Int → Int} {i : Nat} (h : CI Kb Ks s more less i) (hm : ∀ t, 0 ≤ t → t < 4 → more' t = more t) (hl : ∀ t, 0 ≤ t → t < 4 → less' t = less t) : CI Kb Ks s more' less' i :=
  ⟨h.kb, h.ks, h.eq, h.nk, fun t h0 h4 => by rw [hm t h0 h4, hl t h0 h4]; exact h.bk t h0 h4, fun t h0 h4 => by rw [hl t h0 h4]; exact h.l0 t h0 h4, fun t h0 h4 => by rw [hm t h0 h4]; exact h.mi t h0 h4⟩
section
variable {Kb Ks : MK} (nb : NumK Kb) (ns : NumK Ks) (ob : ∀ t p, Kb.OkK (kk t p)) (os : ∀ t : Int, Ks.OkK (.int .u8 t))
theorem bal_R {m : KV} (nb : NumK Kb) (h : KOK Kb m) (t p : Int) : R4 (bal m t p) := KOK.R4v nb h _
theorem tot_put {m : KV} (h : MOK m) {t p n : Int} (hn : R4 n) (hp0 : 0 ≤ p) (hp : p < 18) (t' : Int) : tot (mput m (kk t p) n) t' = if t' = t then tot m t + n - bal m t p else tot m t' := by
  unfold tot
  by_cases e : t' = t
  · subst e
    rw [if_pos rfl]
    have := sumTo_upd (f := fun q => bal m t' q) (g := fun q => bal (mput m (kk t' p) n) t' q) (q := p.toNat) (v := n) (n := 18) (by omega) (fun q _ => by
      show bal (mput m (kk t' p) n) t' q = _
      rw [bal_put h hn]
      by_cases e2 : (q : Int) = p
      · rw [if_pos ⟨rfl, e2⟩, if_pos (by omega)]
      · rw [if_neg (by simp [e2]), if_neg (by omega)])
    rw [this]
    simp only [Int.toNat_of_nonneg hp0]
  · rw [if_neg e]
    exact sumTo_congr fun q _ => by rw [bal_put h hn, if_neg (by simp [e])]
theorem tot_bal {m : KV} (nb : NumK Kb) (h : KOK Kb m) {t p : Int} (hp0 : 0 ≤ p) (hp : p < 18) : 0 ≤ bal m t p ∧ bal m t p ≤ tot m t := by
  refine ⟨(bal_R nb h t p).1, ?_⟩
  have := sumTo_one (f := fun q => bal m t q) (q := p.toNat) (n := 18) (by omega) (fun q _ => (bal_R nb h t q).1)
  simp only [Int.toNat_of_nonneg hp0] at this
  exact this
theorem CI.mint (nb : NumK Kb) (ns : NumK Ks) (ob : ∀ t p, Kb.OkK (kk t p)) (os : ∀ t : Int, Ks.OkK (.int .u8 t)) {s : BS} {more less : Int → Int} {i : Nat} (h : CI Kb Ks s more less i) {eb es : KV → Value → Ent} {t p n : Int} (hn : R4 n) (ht : 0 ≤ t) (hp : 0 ≤ p) {x : Int × BS} (hx : x = bMint eb es s t p n) :
    (x.1 = 0 ∧ t < 4 ∧ CI Kb Ks x.2 (fun u => if u = t then more t + n else more u) less (i + 1)) ∨ (x.1 ≠ 0 ∧ x.2 = s) := by
  subst hx
  unfold bMint
  split
  · rename_i hw; exact .inr ⟨hw, rfl⟩
  · rename_i hw
    split
    · exact .inr ⟨by first | (show (2 : Int) ≠ 0; decide) | (show (8 : Int) ≠ 0; decide), rfl⟩
    · rename_i hs
      left
      have hw' : t < 4 ∧ p < 18 ∧ n ≠ 0 := by
        unfold bw1 at hw
        split at hw
        · exact absurd (by decide : (1 : Int) ≠ 0) hw
        · split at hw
          · exact absurd (by decide : (3 : Int) ≠ 0) hw
          · rename_i h1 h2; exact ⟨by omega, by omega, h2⟩
      obtain ⟨ht4, hp18, hn0⟩ := hw'
      obtain ⟨b0, b1⟩ := tot_bal nb h.kb (t := t) hp hp18
      have e := h.eq t ht ht4
      have hR := KOK.R4v ns h.ks (.int .u8 t)
      have hs0 : 0 ≤ sup s.2.1 t := hR.1
      have hlt : bal s.1 t p + n < M256 := by omega
      have ha : (hAdd (bal s.1 t p) n).1 = bal s.1 t p + n := by unfold hAdd; rw [if_pos hlt]
      have rS : R4 (sup s.2.1 t + n) := ⟨by have := hn.1; omega, by have : sup s.2.1 t + n < M256 := by omega
                                                                    exact this⟩
      have rB : R4 (bal s.1 t p + n) := ⟨by have := hn.1; omega, hlt⟩
      refine ⟨rfl, ht4, ?_⟩
      rw [ha]
      refine ⟨h.kb.put nb (ob t p) rB, h.ks.set (os t) ((ns _).2 ⟨_, rS, rfl⟩), fun u hu hu4 => ?_, h.nk, fun u hu hu4 => ?_, h.l0, fun u hu hu4 => ?_⟩
      · show tot (mput s.1 (kk t p) _) u = sup (mset s.2.1 _ _) u
        rw [tot_put h.kb.once rB hp hp18, sup_set _ rS]
        by_cases eu : u = t
        · subst eu; simp only [if_true]; omega
        · rw [if_neg eu, if_neg eu]; exact h.eq u hu hu4
      · show sup (mset s.2.1 _ _) u + less u = _
        rw [sup_set _ rS]
        have := h.bk u hu hu4
        by_cases eu : u = t
        · subst eu; simp only [if_true]; omega
        · rw [if_neg eu, if_neg eu]; exact this
      · show (if u = t then more t + n else more u) ≤ _
        have hm := h.mi u hu hu4
        have := hn.2
        rw [Int.natCast_succ, Int.add_mul]
        by_cases eu : u = t
        · subst eu; simp only [if_true]; unfold M256 at *; omega
        · rw [if_neg eu]; unfold M256 at *; omega
theorem CI.burn (nb : NumK Kb) (ns : NumK Ks) (ob : ∀ t p, Kb.OkK (kk t p)) (os : ∀ t : Int, Ks.OkK (.int .u8 t)) {s : BS} {more less : Int → Int} {i : Nat} (h : CI Kb Ks s more less i) {eb es : KV → Value → Ent} {t p n : Int} (hn : R4 n) (ht : 0 ≤ t) (hp : 0 ≤ p) {x : Int × BS} (hx : x = bBurn eb es s t p n) :
    (x.1 = 0 ∧ t < 4 ∧ CI Kb Ks x.2 more (fun u => if u = t then less t + n else less u) (i + 1)) ∨ (x.1 ≠ 0 ∧ x.2 = s) := by
  subst hx
  unfold bBurn
  split
  · rename_i hw; exact .inr ⟨hw, rfl⟩
  · rename_i hw
    split
    · exact .inr ⟨by first | (show (2 : Int) ≠ 0; decide) | (show (8 : Int) ≠ 0; decide), rfl⟩
    · rename_i hs
      left
      have hw' : t < 4 ∧ p < 18 ∧ n ≠ 0 := by
        unfold bw1 at hw
        split at hw
        · exact absurd (by decide : (1 : Int) ≠ 0) hw
        · split at hw
          · exact absurd (by decide : (3 : Int) ≠ 0) hw
          · rename_i h1 h2; exact ⟨by omega, by omega, h2⟩
      obtain ⟨ht4, hp18, hn0⟩ := hw'
      obtain ⟨b0, b1⟩ := tot_bal nb h.kb (t := t) hp hp18
      have e := h.eq t ht ht4
      have hR := KOK.R4v ns h.ks (.int .u8 t)
      have hs0 : 0 ≤ sup s.2.1 t ∧ sup s.2.1 t < M256 := hR
      have hB := bal_R nb h.kb t p
      have ha : (hSub (sup s.2.1 t) n).1 = sup s.2.1 t - n := by unfold hSub; rw [if_pos (by omega)]
      have rS : R4 (sup s.2.1 t - n) := ⟨by omega, by have := hn.1; have h2 : sup s.2.1 t - n < M256 := by omega
                                                      exact h2⟩
      have rB : R4 (bal s.1 t p - n) := ⟨by omega, by have := hn.1; have := hB.2; omega⟩
      refine ⟨rfl, ht4, ?_⟩
      rw [ha]
      have hn1 := hn.1
      refine ⟨h.kb.put nb (ob t p) rB, h.ks.set (os t) ((ns _).2 ⟨_, rS, rfl⟩), fun u hu hu4 => ?_, h.nk, fun u hu hu4 => ?_, fun u hu hu4 => ?_, fun u hu hu4 => ?_⟩
      · show tot (mput s.1 (kk t p) _) u = sup (mset s.2.1 _ _) u
        rw [tot_put h.kb.once rB hp hp18, sup_set _ rS]
        by_cases eu : u = t
        · subst eu; simp only [if_true]; omega
        · rw [if_neg eu, if_neg eu]; exact h.eq u hu hu4
      · show sup (mset s.2.1 _ _) u + (if u = t then less t + n else less u) = _
        rw [sup_set _ rS]
        have := h.bk u hu hu4
        by_cases eu : u = t
        · subst eu; simp only [if_true]; omega
        · rw [if_neg eu, if_neg eu]; exact this
      · have := h.l0 u hu hu4
        by_cases eu : u = t
        · subst eu; simp only [if_true]; omega
        · simp only [if_neg eu]; exact this
      · have hm := h.mi u hu hu4
        rw [Int.natCast_succ, Int.add_mul]; unfold M256 at *; omega
theorem CI.move (nb : NumK Kb) (ob : ∀ t p, Kb.OkK (kk t p)) {s : BS} {more less : Int → Int} {i : Nat} (h : CI Kb Ks s more less i) {eb : KV → Value → Ent} {t p q n : Int} (hn : R4 n) (ht : 0 ≤ t) (hp : 0 ≤ p) (hq : 0 ≤ q) {x : Int × BS} (hx : x = bMove eb s t p q n) :
    CI Kb Ks x.2 more less (i + 1) := by
  subst hx
  unfold bMove
  split
  · exact h.later
  · rename_i hw
    split
    · exact h.later
    · rename_i hs
      have hw' : t < 4 ∧ p < 18 ∧ q < 18 ∧ n ≠ 0 := by
        unfold bw2 at hw
        split at hw
        · exact absurd (by decide : (1 : Int) ≠ 0) hw
        · split at hw
          · exact absurd (by decide : (3 : Int) ≠ 0) hw
          · rename_i h1 h2; exact ⟨by omega, by omega, by omega, h2⟩
      obtain ⟨ht4, hp18, hq18, hn0⟩ := hw'
      obtain ⟨b0, b1⟩ := tot_bal nb h.kb (t := t) hp hp18
      have e := h.eq t ht ht4
      have hn1 := hn.1
      have hB := bal_R nb h.kb t p
      have hQ := bal_R nb h.kb t q
      have rB : R4 (bal s.1 t p - n) := ⟨by omega, by have := hB.2; omega⟩
      have k1 : KOK Kb (bPut eb s (kk t p) (bal s.1 t p - n)).1 := h.kb.put nb (ob t p) rB
      have e1 : bal (bPut eb s (kk t p) (bal s.1 t p - n)).1 t q = if q = p then bal s.1 t p - n else bal s.1 t q := by
        show bal (mput s.1 _ _) t q = _
        rw [bal_put h.kb.once rB]; simp
      have hlt : bal (bPut eb s (kk t p) (bal s.1 t p - n)).1 t q + n < M256 := by
        rw [e1]
        have hsup : sup s.2.1 t < M256 ∨ True := .inr trivial
        by_cases eq : q = p
        · rw [if_pos eq]; have := hB.2; unfold M256; omega
        · rw [if_neg eq]
          have h2 := sumTo_two (f := fun r => bal s.1 t r) (q := p.toNat) (r := q.toNat) (n := 18) (by omega) (by omega) (by omega) (fun r _ => (bal_R nb h.kb t r).1)
          simp only [Int.toNat_of_nonneg hp, Int.toNat_of_nonneg hq] at h2
          have h3 : bal s.1 t p + bal s.1 t q ≤ tot s.1 t := h2
          have h4 := h.bk t ht ht4
          have h5 : 0 ≤ sup s.2.1 t ∧ sup s.2.1 t < M256 := KOK.R4v h.nk h.ks _
          omega
      have ha : (hAdd (bal (bPut eb s (kk t p) (bal s.1 t p - n)).1 t q) n).1 = bal (bPut eb s (kk t p) (bal s.1 t p - n)).1 t q + n := by unfold hAdd; rw [if_pos hlt]
      have rQ : R4 (bal (bPut eb s (kk t p) (bal s.1 t p - n)).1 t q + n) := ⟨by have := (bal_R nb k1 t q).1; omega, hlt⟩
      rw [ha]
      refine ⟨k1.put nb (ob t q) rQ, h.ks, fun u hu hu4 => ?_, h.nk, h.bk, h.l0, fun u hu hu4 => ?_⟩
      · show tot (mput (mput s.1 (kk t p) _) (kk t q) _) u = sup s.2.1 u
        show tot (mput (bPut eb s (kk t p) (bal s.1 t p - n)).1 (kk t q) _) u = sup s.2.1 u
        rw [tot_put k1.once rQ hq hq18]
        have e2 : ∀ u, tot (bPut eb s (kk t p) (bal s.1 t p - n)).1 u = if u = t then tot s.1 t + (bal s.1 t p - n) - bal s.1 t p else tot s.1 u := fun u => tot_put h.kb.once rB hp hp18 u
        show (if u = t then tot (bPut eb s (kk t p) (bal s.1 t p - n)).1 t + _ - bal (bPut eb s (kk t p) (bal s.1 t p - n)).1 t q else tot (bPut eb s (kk t p) (bal s.1 t p - n)).1 u) = _
        rw [e2, e2]
        by_cases eu : u = t
        · subst eu; simp only [if_true]; omega
        · rw [if_neg eu, if_neg eu]; exact h.eq u hu hu4
      · have hm := h.mi u hu hu4
        rw [Int.natCast_succ, Int.add_mul]; unfold M256 at *; omega
end
theorem bMint_len (eb es : KV → Value → Ent) (s : BS) (t p n : Int) : (bMint eb es s t p n).2.2.2.length ≤ s.2.2.length + 2 := by
  unfold bMint
  split
  · simp
  · split
    · simp
    · exact Nat.le_trans (bPut_len _ _ _ _).2 (by simp [bSup])
theorem bBurn_len (eb es : KV → Value → Ent) (s : BS) (t p n : Int) : (bBurn eb es s t p n).2.2.2.length ≤ s.2.2.length + 2 := by
  unfold bBurn
  split
  · simp
  · split
    · simp
    · exact Nat.le_trans (bPut_len _ _ _ _).2 (by simp [bSup])
theorem bMove_len (eb : KV → Value → Ent) (s : BS) (t p q n : Int) : (bMove eb s t p q n).2.2.2.length ≤ s.2.2.length + 2 := by
  unfold bMove
  split
  · simp
  · split
    · simp
    · refine Nat.le_trans (bPut_len _ _ _ _).2 ?_
      have := (bPut_len eb s (kk t p) (bal s.1 t p - n)).2
      omega
structure BL where
  i : Nat
  s : BS
  M : Nat → Row
  L : Nat → Row
  b : Nat
  bm : Nat
  bs : Nat
  bj : Nat
  am : Nat
  al : Nat
def updN (M : Nat → Row) (c : Nat) (z : Row) : Nat → Row := fun k => if k = c then z else M k
def rowsv (M : Nat → Row) (t : Int) : Int := nv (dg (M t.toNat))
structure BLOK (Kb Ks : MK) (x : BL) : Prop where
  ci : CI Kb Ks x.s (rowsv x.M) (rowsv x.L) x.i
  rm : ∀ k, k < 4 → RowOK (x.M k) ∧ Canon (dg (x.M k))
  rl : ∀ k, k < 4 → RowOK (x.L k) ∧ Canon (dg (x.L k))
  ln : x.s.2.2.length ≤ 3 * x.i
theorem BLOK.start {Kb Ks : MK} (nk : NumK Ks) (b bm bs bj am al : Nat) : BLOK Kb Ks ⟨0, ([], [], []), fun _ => Row.nil, fun _ => Row.nil, b, bm, bs, bj, am, al⟩ :=
  ⟨(ci_start nk).congr (fun _ _ _ => rfl) (fun _ _ _ => rfl), fun _ _ => ⟨RowOK.nil, show ([] : List Int).getLast? ≠ some 0 by simp⟩, fun _ _ => ⟨RowOK.nil, show ([] : List Int).getLast? ≠ some 0 by simp⟩, Nat.zero_le _⟩
theorem upd_rows {M : Nat → Row} {c : Nat} {z : Row} (h : ∀ k, k < 4 → RowOK (M k) ∧ Canon (dg (M k))) (hz : RowOK z ∧ Canon (dg z)) : ∀ k, k < 4 → RowOK (updN M c z k) ∧ Canon (dg (updN M c z k)) := by
  intro k hk
  unfold updN
  split
  · exact hz
  · exact h k hk
theorem upd_v {M : Nat → Row} {c : Nat} {z : Row} {n : Int} (hz : nv (dg z) = nv (dg (M c)) + n) (u : Int) (h0 : 0 ≤ u) : rowsv (updN M c z) u = if u = (c : Int) then rowsv M c + n else rowsv M u := by
  unfold rowsv updN
  by_cases e : u = (c : Int)
  · subst e; simp only [Int.toNat_natCast, if_true]; exact hz
  · rw [if_neg (by omega), if_neg e]
section
variable {Kb Ks : MK}
theorem BLOK.mint (nb : NumK Kb) (ob : ∀ t p, Kb.OkK (kk t p)) (os : ∀ t : Int, Ks.OkK (.int .u8 t)) {x : BL} (h : BLOK Kb Ks x) {eb es : KV → Value → Ent} {t p n : Int} (hn : R4 n) (ht : 0 ≤ t) (hp : 0 ≤ p) {y : Int × BS} (hx : y = bMint eb es x.s t p n) (h0 : y.1 = 0) {c : Nat} (hc : t = (c : Int)) {z : Row} (rz : RowOK z) (hz : nv (dg z) = nv (dg (x.M c)) + n ∧ Canon (dg z)) (b bm bs bj am al : Nat) :
    BLOK Kb Ks ⟨x.i + 1, y.2, updN x.M c z, x.L, b, bm, bs, bj, am, al⟩ := by
  rcases CI.mint nb h.ci.nk ob os h.ci hn ht hp hx with ⟨_, h4, hc'⟩ | ⟨h1, _⟩
  · refine ⟨hc'.congr (fun u hu _ => ?_) (fun _ _ _ => rfl), upd_rows h.rm ⟨rz, hz.2⟩, h.rl, ?_⟩
    · rw [upd_v hz.1 u hu, hc]
    · show y.2.2.2.length ≤ 3 * (x.i + 1)
      have := bMint_len eb es x.s t p n; rw [← hx] at this; have := h.ln; omega
  · exact absurd h0 h1
theorem BLOK.mint0 (nb : NumK Kb) (ob : ∀ t p, Kb.OkK (kk t p)) (os : ∀ t : Int, Ks.OkK (.int .u8 t)) {x : BL} (h : BLOK Kb Ks x) {eb es : KV → Value → Ent} {t p n : Int} (hn : R4 n) (ht : 0 ≤ t) (hp : 0 ≤ p) {y : Int × BS} (hx : y = bMint eb es x.s t p n) (h0 : y.1 ≠ 0) (b bm bs bj am al : Nat) :
    BLOK Kb Ks ⟨x.i + 1, y.2, x.M, x.L, b, bm, bs, bj, am, al⟩ := by
  rcases CI.mint nb h.ci.nk ob os h.ci hn ht hp hx with ⟨h1, _⟩ | ⟨_, h1⟩
  · exact absurd h1 h0
  · rw [h1]; exact ⟨h.ci.later, h.rm, h.rl, by have := h.ln; show x.s.2.2.length ≤ 3 * (x.i + 1); omega⟩
theorem BLOK.burn (nb : NumK Kb) (ob : ∀ t p, Kb.OkK (kk t p)) (os : ∀ t : Int, Ks.OkK (.int .u8 t)) {x : BL} (h : BLOK Kb Ks x) {eb es : KV → Value → Ent} {t p n : Int} (hn : R4 n) (ht : 0 ≤ t) (hp : 0 ≤ p) {y : Int × BS} (hx : y = bBurn eb es x.s t p n) (h0 : y.1 = 0) {c : Nat} (hc : t = (c : Int)) {z : Row} (rz : RowOK z) (hz : nv (dg z) = nv (dg (x.L c)) + n ∧ Canon (dg z)) (b bm bs bj am al : Nat) :
    BLOK Kb Ks ⟨x.i + 1, y.2, x.M, updN x.L c z, b, bm, bs, bj, am, al⟩ := by
  rcases CI.burn nb h.ci.nk ob os h.ci hn ht hp hx with ⟨_, h4, hc'⟩ | ⟨h1, _⟩
  · refine ⟨hc'.congr (fun _ _ _ => rfl) (fun u hu _ => ?_), h.rm, upd_rows h.rl ⟨rz, hz.2⟩, ?_⟩
    · rw [upd_v hz.1 u hu, hc]
    · show y.2.2.2.length ≤ 3 * (x.i + 1)
      have := bBurn_len eb es x.s t p n; rw [← hx] at this; have := h.ln; omega
  · exact absurd h0 h1
theorem BLOK.burn0 (nb : NumK Kb) (ob : ∀ t p, Kb.OkK (kk t p)) (os : ∀ t : Int, Ks.OkK (.int .u8 t)) {x : BL} (h : BLOK Kb Ks x) {eb es : KV → Value → Ent} {t p n : Int} (hn : R4 n) (ht : 0 ≤ t) (hp : 0 ≤ p) {y : Int × BS} (hx : y = bBurn eb es x.s t p n) (h0 : y.1 ≠ 0) (b bm bs bj am al : Nat) :
    BLOK Kb Ks ⟨x.i + 1, y.2, x.M, x.L, b, bm, bs, bj, am, al⟩ := by
  rcases CI.burn nb h.ci.nk ob os h.ci hn ht hp hx with ⟨h1, _⟩ | ⟨_, h1⟩
  · exact absurd h1 h0
  · rw [h1]; exact ⟨h.ci.later, h.rm, h.rl, by have := h.ln; show x.s.2.2.length ≤ 3 * (x.i + 1); omega⟩
theorem BLOK.move (nb : NumK Kb) (ob : ∀ t p, Kb.OkK (kk t p)) {x : BL} (h : BLOK Kb Ks x) {eb : KV → Value → Ent} {t p q n : Int} (hn : R4 n) (ht : 0 ≤ t) (hp : 0 ≤ p) (hq : 0 ≤ q) {y : Int × BS} (hx : y = bMove eb x.s t p q n) (b bm bs bj am al : Nat) :
    BLOK Kb Ks ⟨x.i + 1, y.2, x.M, x.L, b, bm, bs, bj, am, al⟩ := by
  refine ⟨CI.move nb ob h.ci hn ht hp hq hx, h.rm, h.rl, ?_⟩
  show y.2.2.2.length ≤ 3 * (x.i + 1)
  have := bMove_len eb x.s t p q n; rw [← hx] at this; have := h.ln; omega
theorem len17 {l : List Int} (hd : Dig l) (hc : Canon l) {i : Nat} (hi : i ≤ 40) (h : nv l ≤ i * M256) : l.length ≤ 17 := by
  refine canon_len hd hc ?_
  rw [show P16 17 = 7588550360256754183279148073529370729071901715047420004889892225542594864082845696 from rfl]
  unfold M256 at h
  omega
theorem BLOK.lenM {x : BL} (h : BLOK Kb Ks x) (hi : x.i ≤ 40) {k : Nat} (hk : k < 4) : (dg (x.M k)).length ≤ 17 :=
  len17 (h.rm k hk).1.dig (h.rm k hk).2 hi (h.ci.mi k (by omega) (by omega))
theorem BLOK.lenL {x : BL} (h : BLOK Kb Ks x) (hi : x.i ≤ 40) {k : Nat} (hk : k < 4) : (dg (x.L k)).length ≤ 17 :=
  len17 (h.rl k hk).1.dig (h.rl k hk).2 hi (by
    have h1 := h.ci.mi k (by omega) (by omega); have h2 := h.ci.bk k (by omega) (by omega)
    have h3 : 0 ≤ sup x.s.2.1 k ∧ sup x.s.2.1 k < M256 := KOK.R4v h.ci.nk h.ci.ks _
    have e : rowsv x.L k = nv (dg (x.L k)) := rfl
    omega)
theorem BLOK.tot {x : BL} (h : BLOK Kb Ks x) {k : Nat} (hk : k < 4) : sumTo (fun p => bal x.s.1 (k : Int) p) 18 = sup x.s.2.1 k := h.ci.eq k (by omega) (by omega)
theorem BLOK.bk {x : BL} (h : BLOK Kb Ks x) {k : Nat} (hk : k < 4) : sup x.s.2.1 k + nv (dg (x.L k)) = nv (dg (x.M k)) := h.ci.bk k (by omega) (by omega)
theorem sum_le {m : KV} (nb : NumK Kb) (h : KOK Kb m) (t : Int) : ∀ n : Nat, sumTo (fun p => bal m t p) n ≤ n * M256
  | 0 => by simp [sumTo]
  | n + 1 => by
    rw [sumTo, Int.natCast_succ, Int.add_mul]
    have := sum_le nb h t n
    have := (bal_R nb h t n).2
    unfold M256 at *
    omega
end
end Go.Sx
