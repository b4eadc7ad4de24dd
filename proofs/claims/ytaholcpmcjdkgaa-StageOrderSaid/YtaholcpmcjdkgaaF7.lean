/- A part of the prover's own frame for walking code (see the claim's other texts). -/
import Derived.Test.YtaholcpmcjdkgaaF6
set_option linter.unusedVariables false
set_option linter.unusedSimpArgs false
namespace Go.Sx
open Go.RowKit
/-- How entries are made: of the map at b, what was under a key. -/
structure EntOK (b : Nat) (ent : KV → Value → Ent) : Prop where
  b : ∀ m k, (ent m k).b = b
  key : ∀ m k, (ent m k).key = k
  was : ∀ m k, (ent m k).was = mget m k
def Jr (K : MK) (ent : KV → Value → Ent) (hs : List KV) (L : List Ent) (m : KV) : Prop :=
  hs.length = L.length ∧ ∀ i e, L[i]? = some e → ∃ m0 key h h', e = ent m0 key ∧ K.OkK key ∧ KOK K m0 ∧ hs[i]? = some h ∧ (hs ++ [m])[i + 1]? = some h' ∧ EqM m0 h ∧ ∀ k, k ≠ key → mget h' k = mget h k
theorem Jr.nil {K : MK} {ent : KV → Value → Ent} (m : KV) : Jr K ent [] [] m := ⟨rfl, fun i e h => by simp at h⟩
theorem Jr.push {K : MK} {ent : KV → Value → Ent} {hs : List KV} {L : List Ent} {m m' : KV} (h : Jr K ent hs L m) (hk : KOK K m) {key : Value} (ok : K.OkK key) (ho : ∀ k, k ≠ key → mget m' k = mget m k) : Jr K ent (hs ++ [m]) (L ++ [ent m key]) m' := by
  refine ⟨by simp [h.1], fun i e he => ?_⟩
  rcases Nat.lt_or_ge i L.length with q | q
  · rw [List.getElem?_append_left q] at he
    obtain ⟨m0, k0, h0, h1, e1, e2, e3, e4, e5, e6, e7⟩ := h.2 i e he
    refine ⟨m0, k0, h0, h1, e1, e2, e3, ?_, ?_, e6, e7⟩
    · rw [List.getElem?_append_left (by rw [h.1]; exact q)]; exact e4
    · rw [List.getElem?_append_left (by simp [h.1]; omega)]; exact e5
  · have hi : i = L.length := by
      have := (List.getElem?_eq_some_iff.1 he).1
      simp at this; omega
    subst hi
    simp at he; subst he
    refine ⟨m, key, m, m', rfl, ok, hk, by simp [← h.1], ?_, EqM.refl _, ho⟩
    rw [List.getElem?_append_right (by simp [h.1])]
    simp [h.1]
theorem Und.cons {b : Nat} {h h' m : KV} {E : List Ent} (u : Und b h' m E) {e : Ent} (hb : e.b = b) (hw : e.was = mget h e.key) (ho : ∀ k, k ≠ e.key → mget h' k = mget h k) : Und b h m (e :: E) := fun m2 h2 e2 => by
  obtain ⟨a1, a2⟩ := u m2 h2 e2
  have e3 : undoB b (e :: E) m2 = e.undo (undoB b E m2) := by
    show (if b = e.b then e.undo (undoB b E m2) else undoB b E m2) = _
    rw [if_pos hb.symm]
  rw [e3]
  refine ⟨undo_mok a1, fun k => ?_⟩
  rw [mget_undo a1]
  by_cases hk : k = e.key
  · rw [if_pos hk, hw, hk]
  · rw [if_neg hk, a2 k, ho k hk]
theorem Jr.und {K : MK} {ent : KV → Value → Ent} {b : Nat} (E : EntOK b ent) {hs : List KV} {L : List Ent} {m : KV} (h : Jr K ent hs L m) : ∀ (d n : Nat), n + d = L.length → ∀ h0, (hs ++ [m])[n]? = some h0 → Und b h0 m (L.drop n)
  | 0, n, hd, h0, hn => by
    have : n = hs.length := by rw [h.1]; omega
    subst this
    simp at hn; subst hn
    rw [List.drop_eq_nil_of_le (by rw [h.1]; exact Nat.le_refl _)]; exact Und.nil b _
  | d + 1, n, hd, h0, hn => by
    have hlt : n < L.length := by omega
    obtain ⟨m0, key, a, a', e1, _, _, e4, e5, e6, e7⟩ := h.2 n L[n] (List.getElem?_eq_getElem hlt)
    have ha : h0 = a := by
      rw [List.getElem?_append_left (by rw [h.1]; exact hlt), e4] at hn
      injection hn with hn; exact hn.symm
    subst ha
    rw [List.drop_eq_getElem_cons hlt]
    refine Und.cons (h.und E d (n + 1) (by omega) a' e5) (by rw [e1]; exact E.b _ _) ?_ ?_
    · rw [e1, E.was, E.key]; exact e6 key
    · intro k hk
      rw [e1, E.key] at hk
      exact e7 k hk
theorem Jr.back {K : MK} {ent : KV → Value → Ent} {b : Nat} (E : EntOK b ent) {hs : List KV} {L : List Ent} {m : KV} (h : Jr K ent hs L m) (hk : KOK K m) {n : Nat} (hn : n ≤ L.length) {h0 : KV} (h1 : (hs ++ [m])[n]? = some h0) :
    KOK K (undoB b (L.drop n) m) ∧ EqM (undoB b (L.drop n) m) h0 ∧ Jr K ent (hs.take n) (L.take n) (undoB b (L.drop n) m) := by
  obtain ⟨a1, a2⟩ := h.und E (L.length - n) n (by omega) h0 h1 m hk.once (EqM.refl _)
  have hK : KOK K (undoB b (L.drop n) m) := by
    rcases Nat.lt_or_ge n L.length with q | q
    · obtain ⟨m0, key, a, a', _, _, e3, e4, _, e6, _⟩ := h.2 n L[n] (List.getElem?_eq_getElem q)
      rw [List.getElem?_append_left (by rw [h.1]; exact q), e4] at h1
      injection h1 with h1
      exact e3.of_eq a1 (a2.trans (h1 ▸ e6.symm))
    · rw [List.drop_eq_nil_of_le q]; exact hk
  refine ⟨hK, a2, by simp [h.1], fun i e he => ?_⟩
  have hi : i < n ∧ i < L.length := by
    have := (List.getElem?_eq_some_iff.1 he).1
    simp only [List.length_take] at this; omega
  rw [List.getElem?_take_of_lt hi.1] at he
  obtain ⟨m0, key, a, a', e1, e2, e3, e4, e5, e6, e7⟩ := h.2 i e he
  have e4' : (hs.take n)[i]? = some a := by rw [List.getElem?_take_of_lt hi.1]; exact e4
  rcases Nat.lt_or_ge (i + 1) n with q | q
  · refine ⟨m0, key, a, a', e1, e2, e3, e4', ?_, e6, e7⟩
    rw [List.getElem?_append_left (by simp [h.1]; omega), List.getElem?_take_of_lt q]
    rw [List.getElem?_append_left (by rw [h.1]; omega)] at e5
    exact e5
  · have hq : i + 1 = n := by omega
    refine ⟨m0, key, a, undoB b (L.drop n) m, e1, e2, e3, e4', ?_, e6, fun k hk => ?_⟩
    · rw [List.getElem?_append_right (by simp [h.1]; omega)]
      have : i + 1 - (hs.take n).length = 0 := by simp [h.1]; omega
      rw [this]; rfl
    · rw [a2 k]
      have : h0 = a' := by rw [hq, h1] at e5; injection e5
      rw [this]; exact e7 k hk
/-- Every entry is of the map. -/
theorem Jr.ent {K : MK} {ent : KV → Value → Ent} {hs : List KV} {L : List Ent} {m : KV} (h : Jr K ent hs L m) {e : Ent} (he : e ∈ L) : ∃ m0 key, e = ent m0 key ∧ K.OkK key ∧ KOK K m0 := by
  obtain ⟨i, hi⟩ := List.getElem?_of_mem he
  obtain ⟨m0, key, _, _, e1, e2, e3, _⟩ := h.2 i e hi
  exact ⟨m0, key, e1, e2, e3⟩
theorem undoAll_one (K : MK) (b : Nat) (m m' : KV) (E : List Ent) (h : undoAll E [(K, b, m)] = [(K, b, m')]) : m' = undoB b E m := by
  rw [undoAll_map] at h
  simp only [List.map_cons, List.map_nil, List.cons.injEq, Prod.mk.injEq, true_and, and_true] at h
  exact h.symm
/-! ### Keys -/
theorem keys_le {m : KV} (hm : MOK m) {l : List Value} (h : ∀ k v, mget m k = some v → k ∈ l) : m.length ≤ l.length := by
  have := nodup_len (l := m.map (·.1)) (l' := l) (show (m.map (·.1)).Nodup from hm) (fun x hx => by
    obtain ⟨e, he, rfl⟩ := List.mem_map.1 hx
    exact h _ _ (mget_of_mem hm he))
  simpa using this
theorem KeysOf.len {kk : IntKind} {m : KV} {l : List Value} (h : KeysOf kk m l) : l.length = m.length := by simpa using h.1.length_eq
theorem KeysOf.mem {kk : IntKind} {m : KV} {l : List Value} (h : KeysOf kk m l) (hm : MOK m) {i : Nat} {k : Value} (hi : l[i]? = some k) : ∃ v, mget m k = some v := by
  have hk : k ∈ m.map (·.1) := h.1.mem_iff.1 (List.mem_of_getElem? hi)
  obtain ⟨e, he, rfl⟩ := List.mem_map.1 hk
  exact ⟨e.2, mget_of_mem hm he⟩
theorem rise_at {l : List Value} (h : Rise l) {i j : Nat} (hij : i < j) {a b : Int} {kk : IntKind} (ha : l[i]? = some (.int kk a)) (hb : l[j]? = some (.int kk b)) : a < b := by
  obtain ⟨h1, e1⟩ := List.getElem?_eq_some_iff.1 ha
  obtain ⟨h2, e2⟩ := List.getElem?_eq_some_iff.1 hb
  have := List.pairwise_iff_getElem.1 h i j h1 h2 hij
  rw [e1, e2] at this
  exact this
theorem pairs_at {z : Value} {m : KV} {l : List Value} {i : Nat} {x : Int × Int} (h : (pairsOf z m l)[i]? = some (p2V x)) : l[i]? = some (.int .i64 x.1) ∧ (mget m (.int .i64 x.1)).getD z = .int .i64 x.2 := by
  unfold pairsOf at h
  rw [List.getElem?_map] at h
  cases hl : l[i]? with
  | none => rw [hl] at h; cases h
  | some k =>
    rw [hl] at h
    simp only [Option.map_some, p2V, Option.some.injEq, Value.agg.injEq] at h
    have h1 := congrArg Array.toList h
    simp only [List.cons.injEq, and_true] at h1
    obtain ⟨rfl, h2⟩ := h1
    exact ⟨rfl, h2⟩
theorem pairs_len {z : Value} {m : KV} {l : List Value} : (pairsOf z m l).length = l.length := by unfold pairsOf; simp
/-- Two maps that are alike key by key are told alike. -/
theorem keys_eq {kk : IntKind} {m n : KV} (hm : MOK m) (hn : MOK n) (h : EqM m n) {l l' : List Value} (h1 : KeysOf kk m l) (h2 : KeysOf kk n l') : l = l' := by
  have key : ∀ {a b : KV}, MOK a → EqM a b → ∀ v, v ∈ a.map (·.1) → v ∈ b.map (·.1) := by
    intro a b ha h v hv
    obtain ⟨e, he, rfl⟩ := List.mem_map.1 hv
    have := mget_of_mem ha he
    rw [h e.1] at this
    exact List.mem_map_of_mem (f := (·.1)) (mget_mem this)
  exact rise_unique h1.2.1 h2.2.1 h1.2.2 h2.2.2 fun v => ⟨fun hv => h2.1.mem_iff.2 (key hm h v (h1.1.mem_iff.1 hv)), fun hv => h1.1.mem_iff.2 (key hn h.symm v (h2.1.mem_iff.1 hv))⟩
theorem pairs_eq {z : Value} {m n : KV} (h : EqM m n) (l : List Value) : pairsOf z m l = pairsOf z n l := by
  unfold pairsOf; exact List.map_congr_left fun k _ => by rw [h k]
end Go.Sx

namespace Go.Sx
open Go.RowKit
theorem Jr.set {K : MK} {ent : KV → Value → Ent} {hs : List KV} {L : List Ent} {m : KV} (h : Jr K ent hs L m) (hk : KOK K m) {k v : Value} (ok : K.OkK k) (ov : K.OkV v) : Jr K ent (hs ++ [m]) (L ++ [ent m k]) (mset m k v) ∧ KOK K (mset m k v) :=
  ⟨h.push hk ok fun k' hk' => by rw [mget_set, if_neg hk'], hk.set ok ov⟩
theorem Jr.del {K : MK} {ent : KV → Value → Ent} {hs : List KV} {L : List Ent} {m : KV} (h : Jr K ent hs L m) (hk : KOK K m) {k : Value} (ok : K.OkK k) : Jr K ent (hs ++ [m]) (L ++ [ent m k]) (mdel m k) ∧ KOK K (mdel m k) :=
  ⟨h.push hk ok fun k' hk' => by rw [mget_del hk.once, if_neg hk'], hk.del k⟩
abbrev iv (n : Int) : Value := .int .i64 n
structure IntK (K : MK) : Prop where
  k : ∀ n, K.OkK (iv n)
  k' : ∀ v, K.OkK v → ∃ n, v = iv n
  v : ∀ n : Int, (Lit.int .i64 n).wf = true → K.OkV (iv n)
  v' : ∀ x, K.OkV x → ∃ n : Int, (Lit.int .i64 n).wf = true ∧ x = iv n
def SO1 (K : MK) (ls : List Int) (i : Nat) (m : KV) (n : Nat) : Prop := i ≤ ls.length ∧ KOK K m ∧ (∀ k v, mget m k = some v → v = iv 1 ∧ ∃ j z, j < i ∧ ls[j]? = some z ∧ k = iv z) ∧ n = i
theorem SO1.start {K : MK} {ls : List Int} : SO1 K ls 0 [] 0 := by
  refine ⟨Nat.zero_le _, KOK.nil, fun k v h => ?_, rfl⟩
  rw [mget_nil] at h; cases h
theorem SO1.step {K : MK} (I : IntK K) {ls : List Int} {i : Nat} {m : KV} {n : Nat} (h : SO1 K ls i m n) {z : Int} (hz : ls[i]? = some z) : SO1 K ls (i + 1) (mset m (iv z) (iv 1)) (n + 1) := by
  have hlt := (List.getElem?_eq_some_iff.1 hz).1
  refine ⟨hlt, h.2.1.set (I.k z) (I.v 1 rfl), fun k v hk => ?_, by rw [h.2.2.2]⟩
  rw [mget_set] at hk
  by_cases e : k = iv z
  · rw [if_pos e] at hk
    injection hk with hk
    exact ⟨hk.symm, i, z, Nat.lt_succ_self i, hz, e⟩
  · rw [if_neg e] at hk
    obtain ⟨h1, j, y, hj, h2, h3⟩ := h.2.2.1 k v hk
    exact ⟨h1, j, y, Nat.lt_succ_of_lt hj, h2, h3⟩
theorem SO1.len {K : MK} {ls : List Int} {i : Nat} {m : KV} {n : Nat} (h : SO1 K ls i m n) : m.length ≤ ls.length := by
  have := keys_le h.2.1.once (l := ls.map iv) (fun k v hk => by
    obtain ⟨_, j, z, _, hz, rfl⟩ := h.2.2.1 k v hk
    exact List.mem_map_of_mem (List.mem_of_getElem? hz))
  simpa using this
theorem SO1.int {K : MK} (I : IntK K) {m : KV} (h : KOK K m) : IntKeys .i64 m := ⟨fun v hv => by
  obtain ⟨e, he, rfl⟩ := List.mem_map.1 hv
  exact I.k' _ (h.ok e he).1, h.once⟩
def SO2 (K : MK) (ls : List Int) (i : Nat) (m : KV) (n : Nat) : Prop := i ≤ ls.length ∧ KOK K m ∧ (∀ k v, mget m k = some v → ∃ j z, i ≤ j ∧ ls[j]? = some z ∧ k = iv z) ∧ n ≤ ls.length + 2 * i
theorem SO1.next {K : MK} {ls : List Int} {m : KV} {n i : Nat} (h : SO1 K ls i m n) : SO2 K ls 0 m n := ⟨Nat.zero_le _, h.2.1, fun k v hk => by
  obtain ⟨_, j, z, _, h1, h2⟩ := h.2.2.1 k v hk
  exact ⟨j, z, Nat.zero_le _, h1, h2⟩, by rw [h.2.2.2]; have := h.1; omega⟩
theorem SO2.step {K : MK} (I : IntK K) {ls : List Int} {i : Nat} {m : KV} {n n' : Nat} (h : SO2 K ls i m n) {z : Int} (hz : ls[i]? = some z) (hn : n' ≤ n + 2) : SO2 K ls (i + 1) (mdel (mset m (iv z) (iv 2)) (iv z)) n' := by
  have hlt := (List.getElem?_eq_some_iff.1 hz).1
  have hs := h.2.1.set (I.k z) (I.v 2 rfl)
  refine ⟨hlt, hs.del _, fun k v hk => ?_, by have := h.2.2.2; omega⟩
  rw [mget_del hs.once] at hk
  by_cases e : k = iv z
  · rw [if_pos e] at hk; cases hk
  · rw [if_neg e, mget_set, if_neg e] at hk
    obtain ⟨j, y, hj, h2, h3⟩ := h.2.2.1 k v hk
    refine ⟨j, y, ?_, h2, h3⟩
    rcases Nat.lt_or_ge i j with q | q
    · exact q
    · have : j = i := by omega
      subst this
      rw [hz] at h2
      injection h2 with h2
      exact absurd (by rw [h3, h2]) e
theorem SO2.done {K : MK} {ls : List Int} {m : KV} {n : Nat} (h : SO2 K ls ls.length m n) : m.length = 0 := by
  have := keys_le h.2.1.once (l := []) (fun k v hk => by
    obtain ⟨j, z, h1, h2, _⟩ := h.2.2.1 k v hk
    rw [List.getElem?_eq_none h1] at h2; cases h2)
  exact Nat.le_antisymm this (Nat.zero_le _)
theorem SO2.done' {K : MK} {ls : List Int} {i : Nat} {m : KV} {n : Nat} (h : SO2 K ls i m n) (e : i = ls.length) : m.length = 0 := by subst e; exact h.done
def SO3 (K : MK) (y : Row) (g : RK 2) : Prop := ∃ m, KOK K m ∧ KeysOf .i64 m (vals y) ∧ vals g.1 = pairsOf (iv 0) m (vals y) ∧ ∀ k v, mget m k = some v → v = iv 1
theorem SO3.of {K : MK} {ls : List Int} {i n : Nat} {m : KV} (h : SO1 K ls i m n) {x y : Row} (hx : KeysOf .i64 m (vals x)) (hy : KeysOf .i64 m (vals y)) {g : RK 2} (hg : vals g.1 = pairsOf (iv 0) m (vals x)) : SO3 K y g :=
  ⟨m, h.2.1, hy, by rw [hg, keys_eq h.2.1.once h.2.1.once (EqM.refl _) hx hy], fun k v hk => (h.2.2.1 k v hk).1⟩
theorem SO3.len {K : MK} {y : Row} {g : RK 2} (h : SO3 K y g) : (vals g.1).length = (vals y).length := by
  obtain ⟨m, _, _, h3, _⟩ := h
  rw [h3, pairs_len]
theorem SO3.shape {K : MK} (I : IntK K) {y : Row} {g : RK 2} (h : SO3 K y g) {i : Nat} (hi : i < (vals g.1).length) : ∃ x0, (vals g.1)[i]? = some (p2V x0) := by
  have hl := h.len
  obtain ⟨m, h1, h2, h3, _⟩ := h
  obtain ⟨z, hz⟩ := int_at h2.2.2 (n := i) (by omega)
  obtain ⟨w, _, hw⟩ := I.v' _ (kok_val h1 (z := iv 0) (I.v 0 rfl) (iv z))
  refine ⟨(z, w), ?_⟩
  rw [h3]
  unfold pairsOf
  rw [List.getElem?_map, hz, Option.map_some]
  show some (Value.agg #[iv z, (mget m (iv z)).getD (iv 0)]) = _
  rw [hw]
theorem SO3.at {K : MK} {y : Row} {g : RK 2} (h : SO3 K y g) {i : Nat} {x : Int × Int} (hx : (vals g.1)[i]? = some (p2V x)) {z : Int} (hz : (vals y)[i]? = some (iv z)) : x.1 = z ∧ x.2 = 1 := by
  obtain ⟨m, h1, h2, h3, h4⟩ := h
  rw [h3] at hx
  obtain ⟨a, b⟩ := pairs_at hx
  rw [hz] at a
  injection a with a
  injection a with _ a
  refine ⟨a.symm, ?_⟩
  obtain ⟨v, hv⟩ := h2.mem h1.once hz
  rw [← a, hv] at b
  have := h4 _ _ hv
  simp only [Option.getD_some] at b
  rw [b] at this
  injection this
theorem SO3.ints {K : MK} {y : Row} {g : RK 2} (h : SO3 K y g) {i : Nat} (hi : i < (vals y).length) : ∃ x0 : Int, (vals y)[i]? = some (.int .i64 x0) := by
  obtain ⟨m, _, h2, _⟩ := h
  exact int_at h2.2.2 hi
theorem SO3.rise {K : MK} {y : Row} {g : RK 2} (h : SO3 K y g) {i j : Nat} (hij : i < j) {a b : Int} (ha : (vals y)[i]? = some (iv a)) (hb : (vals y)[j]? = some (iv b)) : a < b := by
  obtain ⟨m, _, h2, _⟩ := h
  exact rise_at h2.2.1 hij ha hb
end Go.Sx
