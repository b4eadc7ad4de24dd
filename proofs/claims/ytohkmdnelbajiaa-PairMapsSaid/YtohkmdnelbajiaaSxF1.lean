/- Plain laws of layer 14: nonces. -/
import Derived.Test.YtohkmdnelbajiaaSxE6
import Derived.Test.YtohkmdnelbajiaaSxD2
set_option linter.unusedVariables false
set_option linter.unusedSimpArgs false
namespace Go.Sx
/-- An account's next nonce. -/
noncomputable def nz (m : KV) (k : Int) : Int := ci ((mget m (.int .u8 k)).getD (.int .u64 0))
theorem nz_nil (k : Int) : nz [] k = 0 := rfl
theorem nz_set (m : KV) (k v k' : Int) : nz (mset m (.int .u8 k) (.int .u64 v)) k' = if k' = k then v else nz m k' := by
  unfold nz
  rw [mget_set]
  by_cases h : k' = k
  · rw [if_pos (by rw [h]), if_pos h]; rfl
  · rw [if_neg (by intro e; injection e with _ e; exact h e), if_neg h]
theorem nz_eq {m : KV} {k x : Int} (h : Value.int .u64 x = (mget m (.int .u8 k)).getD (.int .u64 0)) : nz m k = x := by unfold nz; rw [← h]; rfl
/-- What a try does whose deed is let. -/
noncomputable def tryOk (m : KV) (k n : Int) : Int × KV := if 16 ≤ k then (1, m) else if n ≠ nz m k then (9, m) else (0, mset m (.int .u8 k) (.int .u64 (IntKind.u64.wrap (n + 1))))
theorem tryOk_arg {m : KV} {k n : Int} (h : 16 ≤ k) : tryOk m k n = (1, m) := if_pos h
theorem tryOk_nonce {m : KV} {k n : Int} (h : ¬ 16 ≤ k) (h2 : n ≠ nz m k) : tryOk m k n = (9, m) := by unfold tryOk; rw [if_neg h, if_pos h2]
theorem tryOk_ok {m : KV} {k n : Int} (h : ¬ 16 ≤ k) (h2 : n = nz m k) : tryOk m k n = (0, mset m (.int .u8 k) (.int .u64 (IntKind.u64.wrap (n + 1)))) := by unfold tryOk; rw [if_neg h, if_neg (by simp [h2])]
theorem wf_wrapu (n : Int) : (Lit.int .u64 (IntKind.u64.wrap n)).wf = true := by
  have := W_wrap n
  unfold W at this
  simp [Lit.wf, IntKind.min, IntKind.max, IntKind.signed, IntKind.bits]; omega
theorem wf8 {n : Int} (h : (Lit.int .u8 n).wf = true) : 0 ≤ n ∧ n ≤ 255 := by
  simp [Lit.wf, IntKind.min, IntKind.max, IntKind.signed, IntKind.bits] at h; omega
theorem wf64 {n : Int} (h : (Lit.int .u64 n).wf = true) : 0 ≤ n ∧ n ≤ 18446744073709551615 := by
  simp [Lit.wf, IntKind.min, IntKind.max, IntKind.signed, IntKind.bits] at h; omega
theorem wrap_u8 (n : Int) (h0 : 0 ≤ n) (h1 : n ≤ 255) : IntKind.u8.wrap n = n := by
  have : IntKind.u8.wrap n = n % 256 := by simp [IntKind.wrap, IntKind.bits, IntKind.signed]
  rw [this]; omega
/-- The nonces, as the law keeps them. -/
structure NxI (i : Nat) (ns : List Int) (m : KV) : Prop where
  len : ns.length = 16
  eq : ∀ k : Nat, k < 16 → nz m k = ns.getD k 0
  lo : ∀ k : Nat, k < 16 → 0 ≤ ns.getD k 0
  hi : ∀ k : Nat, k < 16 → ns.getD k 0 ≤ i
theorem nx_start : NxI 0 (List.replicate 16 0) [] := ⟨rfl, fun k hk => by rw [nz_nil, List.getD_eq_getElem?_getD, List.getElem?_replicate]; simp [hk], fun k hk => by rw [List.getD_eq_getElem?_getD, List.getElem?_replicate]; simp [hk], fun k hk => by rw [List.getD_eq_getElem?_getD, List.getElem?_replicate]; simp [hk]⟩
theorem NxI.no {i : Nat} {ns : List Int} {m : KV} (h : NxI i ns m) : NxI (i + 1) ns m := ⟨h.len, h.eq, h.lo, fun k hk => by have := h.hi k hk; omega⟩
theorem getD_set (ns : List Int) (a : Nat) (v : Int) (k : Nat) (ha : a < ns.length) : (ns.set a v).getD k 0 = if k = a then v else ns.getD k 0 := by
  rw [List.getD_eq_getElem?_getD, List.getD_eq_getElem?_getD, List.getElem?_set]
  by_cases h : a = k
  · subst h; simp [ha]
  · rw [if_neg h, if_neg (fun e => h e.symm)]
theorem NxI.yes {i : Nat} {ns : List Int} {m : KV} (h : NxI i ns m) {a : Nat} (ha : a < 16) {v : Int} (hv : v = ns.getD a 0 + 1) : NxI (i + 1) (ns.set a v) (mset m (.int .u8 a) (.int .u64 v)) := by
  have hl : a < ns.length := by rw [h.len]; exact ha
  refine ⟨by simp [h.len], fun k hk => ?_, fun k hk => ?_, fun k hk => ?_⟩
  · rw [nz_set, getD_set _ _ _ _ hl]
    by_cases e : k = a
    · rw [if_pos (by omega), if_pos e]
    · rw [if_neg (by omega), if_neg e, h.eq k hk]
  · rw [getD_set _ _ _ _ hl]; split
    · have := h.lo a ha; omega
    · exact h.lo k hk
  · rw [getD_set _ _ _ _ hl]; split
    · have := h.hi a ha; omega
    · have := h.hi k hk; omega
/-- A kind whose values are words has some word for whatever a map may hold: no map need be sound. -/
theorem wget0 {P : Program} {K : MK} {t kt vt : TypeId} {z : Value} {V : Type} {vv : V → Value} {Ok : V → Prop} (L : KindL P K t kt vt z vv Ok) {m : KV} (h : KOK K m) (k : Value) :
    ∃ x : V × Bool, (fun x : V × Bool => Ok x.1 ∧ x.2 = (mget m k).isSome ∧ vv x.1 = (mget m k).getD z) x := wlook L h k
end Go.Sx
