/- Plain laws of layer 13: books. -/
import Derived.Test.YtohkmdnelbajiaaSxE6
import Derived.Test.YtohkmdnelbajiaaSxB5
set_option linter.unusedVariables false
set_option linter.unusedSimpArgs false
namespace Go.Sx
abbrev M256 : Int := 115792089237316195423570985008687907853269984665640564039457584007913129639936
def kk (t p : Int) : Value := .agg #[.int .u8 t, .int .u8 p]
theorem kk_inj {t p t' p' : Int} : kk t p = kk t' p' ↔ t = t' ∧ p = p' := by
  unfold kk; constructor
  · intro h; simp at h; exact h
  · rintro ⟨rfl, rfl⟩; rfl
noncomputable def bal (m : KV) (t p : Int) : Int := num ((mget m (kk t p)).getD (vI 0))
noncomputable def sup (m : KV) (t : Int) : Int := num ((mget m (.int .u8 t)).getD (vI 0))
noncomputable def mput (m : KV) (k : Value) (n : Int) : KV := if n = 0 then mdel m k else mset m k (vI n)
/-- A book's state: balances, supplies, the journal's entries. -/
abbrev BS := KV × KV × List Ent
noncomputable def putL (e : Ent) (m : KV) (k : Value) (n : Int) (L : List Ent) : List Ent := if n = 0 then (if (mget m k).isSome then L ++ [e] else L) else L ++ [e]
noncomputable def bPut (eb : KV → Value → Ent) (s : BS) (k : Value) (n : Int) : BS := (mput s.1 k n, s.2.1, putL (eb s.1 k) s.1 k n s.2.2)
noncomputable def bSup (es : KV → Value → Ent) (s : BS) (t n : Int) : BS := (s.1, mset s.2.1 (.int .u8 t) (vI n), s.2.2 ++ [es s.2.1 (.int .u8 t)])
def bw1 (t p n : Int) : Int := if 4 ≤ t ∨ 18 ≤ p then 1 else if n = 0 then 3 else 0
def bw2 (t p q n : Int) : Int := if 4 ≤ t ∨ 18 ≤ p ∨ 18 ≤ q then 1 else if n = 0 then 3 else 0
noncomputable def bMint (eb es : KV → Value → Ent) (s : BS) (t p n : Int) : Int × BS :=
  if bw1 t p n ≠ 0 then (bw1 t p n, s) else if M256 ≤ sup s.2.1 t + n then (2, s) else
  (0, bPut eb (bSup es s t (sup s.2.1 t + n)) (kk t p) (hAdd (bal s.1 t p) n).1)
noncomputable def bBurn (eb es : KV → Value → Ent) (s : BS) (t p n : Int) : Int × BS :=
  if bw1 t p n ≠ 0 then (bw1 t p n, s) else if bal s.1 t p < n then (8, s) else
  (0, bPut eb (bSup es s t (hSub (sup s.2.1 t) n).1) (kk t p) (bal s.1 t p - n))
noncomputable def bMove (eb : KV → Value → Ent) (s : BS) (t p q n : Int) : Int × BS :=
  if bw2 t p q n ≠ 0 then (bw2 t p q n, s) else if bal s.1 t p < n then (8, s) else
  (0, bPut eb (bPut eb s (kk t p) (bal s.1 t p - n)) (kk t q) (hAdd (bal (bPut eb s (kk t p) (bal s.1 t p - n)).1 t q) n).1)
theorem putL_len (e : Ent) (m : KV) (k : Value) (n : Int) (L : List Ent) : L.length ≤ (putL e m k n L).length ∧ (putL e m k n L).length ≤ L.length + 1 := by
  unfold putL; split
  · split <;> simp
  · simp
theorem bPut_len (eb : KV → Value → Ent) (s : BS) (k : Value) (n : Int) : s.2.2.length ≤ (bPut eb s k n).2.2.length ∧ (bPut eb s k n).2.2.length ≤ s.2.2.length + 1 := putL_len _ _ _ _ _
theorem bSup_len (es : KV → Value → Ent) (s : BS) (t n : Int) : (bSup es s t n).2.2.length = s.2.2.length + 1 := by simp [bSup]
theorem mget_put {m : KV} (h : MOK m) (k : Value) (n : Int) (k' : Value) : mget (mput m k n) k' = if k' = k then (if n = 0 then none else some (vI n)) else mget m k' := by
  unfold mput
  by_cases hn : n = 0
  · rw [if_pos hn, mget_del h]; simp [hn]
  · rw [if_neg hn, mget_set]; simp [hn]
theorem bal_put {m : KV} (h : MOK m) {t p n : Int} (hn : R4 n) (t' p' : Int) : bal (mput m (kk t p) n) t' p' = if t' = t ∧ p' = p then n else bal m t' p' := by
  unfold bal
  rw [mget_put h]
  by_cases e : t' = t ∧ p' = p
  · rw [if_pos (kk_inj.2 e), if_pos e]
    by_cases hz : n = 0
    · subst hz; simp [num_vI R4_zero]
    · simp [hz, num_vI hn]
  · rw [if_neg (fun x => e (kk_inj.1 x)), if_neg e]
theorem sup_set (m : KV) {t n : Int} (hn : R4 n) (t' : Int) : sup (mset m (.int .u8 t) (vI n)) t' = if t' = t then n else sup m t' := by
  unfold sup
  rw [mget_set]
  by_cases e : t' = t
  · rw [if_pos (by rw [e]), if_pos e]; exact num_vI hn
  · rw [if_neg (by intro x; injection x with _ x; exact e x), if_neg e]
/-- Kinds whose values are numbers. -/
def NumK (K : MK) : Prop := ∀ x, K.OkV x ↔ ∃ v, R4 v ∧ x = vI v
theorem KOK.R4v {K : MK} (hK : NumK K) {m : KV} (h : KOK K m) (k : Value) : R4 (num ((mget m k).getD (vI 0))) := by
  cases hg : mget m k with
  | none => rw [Option.getD_none, num_vI R4_zero]; exact R4_zero
  | some x =>
    obtain ⟨v, hv, rfl⟩ := (hK x).1 (h.val hg)
    rw [Option.getD_some, num_vI hv]; exact hv
theorem KOK.put {K : MK} (hK : NumK K) {m : KV} (h : KOK K m) {k : Value} (hk : K.OkK k) {n : Int} (hn : R4 n) : KOK K (mput m k n) := by
  unfold mput; split
  · exact h.del k
  · exact h.set hk ((hK _).2 ⟨n, hn, rfl⟩)
end Go.Sx
