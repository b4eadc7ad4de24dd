/- A part of the prover's own frame for walking code (see the claim's other texts). -/
import Derived.Test.YtaholcpmcjdkgaaF3
import Derived.Test.YtaholcpmcjdkgaaF4
import Derived.Test.YtaholcpmcjdkgaaF6
set_option linter.unusedVariables false
set_option linter.unusedSimpArgs false
namespace Go.Sx
open Go.RowKit
/-- How entries are made: of the map at b, what was under a key. -/
structure EntOK (b : Nat) (ent : KV → Value → Ent) : Prop where
  b : ∀ m k, (ent m k).b = b
  key : ∀ m k, (ent m k).key = k
  was : ∀ m k, (ent m k).was = mget m k
def Jr (K : MK) (ent : KV → Value → Ent) (hs : List KV) (L : List Ent) (m : KV) : Prop :=
  hs.length = L.length ∧ ∀ i e, L[i]? = some e → ∃ m0 key h h', e = ent m0 key ∧ K.OkK key ∧ KOK K m0 ∧ hs[i]? = some h ∧ (hs ++ [m])[i + 1]? = some h' ∧ EqM m0 h ∧ ∀ k, k ≠ key → mget h' k = mget h k
theorem Jr.nil {K : MK} {ent : KV → Value → Ent} (m : KV) : Jr K ent [] [] m := ⟨rfl, fun i e h => by simp at h⟩
theorem Jr.push {K : MK} {ent : KV → Value → Ent} {hs : List KV} {L : List Ent} {m m' : KV} (h : Jr K ent hs L m) (hk : KOK K m) {key : Value} (ok : K.OkK key) (ho : ∀ k, k ≠ key → mget m' k = mget m k) : Jr K ent (hs ++ [m]) (L ++ [ent m key]) m' := by
  refine ⟨by simp [h.1], fun i e he => ?_⟩
  rcases Nat.lt_or_ge i L.length with q | q
  · rw [List.getElem?_append_left q] at he
    obtain ⟨m0, k0, h0, h1, e1, e2, e3, e4, e5, e6, e7⟩ := h.2 i e he
    refine ⟨m0, k0, h0, h1, e1, e2, e3, ?_, ?_, e6, e7⟩
    · rw [List.getElem?_append_left (by rw [h.1]; exact q)]; exact e4
    · rw [List.getElem?_append_left (by simp [h.1]; omega)]; exact e5
  · have hi : i = L.length := by
      have := (List.getElem?_eq_some_iff.1 he).1
      simp at this; omega
    subst hi
    simp at he; subst he
    refine ⟨m, key, m, m', rfl, ok, hk, by simp [← h.1], ?_, EqM.refl _, ho⟩
    rw [List.getElem?_append_right (by simp [h.1])]
    simp [h.1]
theorem Und.cons {b : Nat} {h h' m : KV} {E : List Ent} (u : Und b h' m E) {e : Ent} (hb : e.b = b) (hw : e.was = mget h e.key) (ho : ∀ k, k ≠ e.key → mget h' k = mget h k) : Und b h m (e :: E) := fun m2 h2 e2 => by
  obtain ⟨a1, a2⟩ := u m2 h2 e2
  have e3 : undoB b (e :: E) m2 = e.undo (undoB b E m2) := by
    show (if b = e.b then e.undo (undoB b E m2) else undoB b E m2) = _
    rw [if_pos hb.symm]
  rw [e3]
  refine ⟨undo_mok a1, fun k => ?_⟩
  rw [mget_undo a1]
  by_cases hk : k = e.key
  · rw [if_pos hk, hw, hk]
  · rw [if_neg hk, a2 k, ho k hk]
theorem Jr.und {K : MK} {ent : KV → Value → Ent} {b : Nat} (E : EntOK b ent) {hs : List KV} {L : List Ent} {m : KV} (h : Jr K ent hs L m) : ∀ (d n : Nat), n + d = L.length → ∀ h0, (hs ++ [m])[n]? = some h0 → Und b h0 m (L.drop n)
  | 0, n, hd, h0, hn => by
    have : n = hs.length := by rw [h.1]; omega
    subst this
    simp at hn; subst hn
    rw [List.drop_eq_nil_of_le (by rw [h.1]; exact Nat.le_refl _)]; exact Und.nil b _
  | d + 1, n, hd, h0, hn => by
    have hlt : n < L.length := by omega
    obtain ⟨m0, key, a, a', e1, _, _, e4, e5, e6, e7⟩ := h.2 n L[n] (List.getElem?_eq_getElem hlt)
    have ha : h0 = a := by
      rw [List.getElem?_append_left (by rw [h.1]; exact hlt), e4] at hn
      injection hn with hn; exact hn.symm
    subst ha
    rw [List.drop_eq_getElem_cons hlt]
    refine Und.cons (h.und E d (n + 1) (by omega) a' e5) (by rw [e1]; exact E.b _ _) ?_ ?_
    · rw [e1, E.was, E.key]; exact e6 key
    · intro k hk
      rw [e1, E.key] at hk
      exact e7 k hk
theorem Jr.back {K : MK} {ent : KV → Value → Ent} {b : Nat} (E : EntOK b ent) {hs : List KV} {L : List Ent} {m : KV} (h : Jr K ent hs L m) (hk : KOK K m) {n : Nat} (hn : n ≤ L.length) {h0 : KV} (h1 : (hs ++ [m])[n]? = some h0) :
    KOK K (undoB b (L.drop n) m) ∧ EqM (undoB b (L.drop n) m) h0 ∧ Jr K ent (hs.take n) (L.take n) (undoB b (L.drop n) m) := by
  obtain ⟨a1, a2⟩ := h.und E (L.length - n) n (by omega) h0 h1 m hk.once (EqM.refl _)
  have hK : KOK K (undoB b (L.drop n) m) := by
    rcases Nat.lt_or_ge n L.length with q | q
    · obtain ⟨m0, key, a, a', _, _, e3, e4, _, e6, _⟩ := h.2 n L[n] (List.getElem?_eq_getElem q)
      rw [List.getElem?_append_left (by rw [h.1]; exact q), e4] at h1
      injection h1 with h1
      exact e3.of_eq a1 (a2.trans (h1 ▸ e6.symm))
    · rw [List.drop_eq_nil_of_le q]; exact hk
  refine ⟨hK, a2, by simp [h.1], fun i e he => ?_⟩
  have hi : i < n ∧ i < L.length := by
    have := (List.getElem?_eq_some_iff.1 he).1
    simp only [List.length_take] at this; omega
  rw [List.getElem?_take_of_lt hi.1] at he
  obtain ⟨m0, key, a, a', e1, e2, e3, e4, e5, e6, e7⟩ := h.2 i e he
  have e4' : (hs.take n)[i]? = some a := by rw [List.getElem?_take_of_lt hi.1]; exact e4
  rcases Nat.lt_or_ge (i + 1) n with q | q
  · refine ⟨m0, key, a, a', e1, e2, e3, e4', ?_, e6, e7⟩
    rw [List.getElem?_append_left (by simp [h.1]; omega), List.getElem?_take_of_lt q]
    rw [List.getElem?_append_left (by rw [h.1]; omega)] at e5
    exact e5
  · have hq : i + 1 = n := by omega
    refine ⟨m0, key, a, undoB b (L.drop n) m, e1, e2, e3, e4', ?_, e6, fun k hk => ?_⟩
    · rw [List.getElem?_append_right (by simp [h.1]; omega)]
      have : i + 1 - (hs.take n).length = 0 := by simp [h.1]; omega
      rw [this]; rfl
    · rw [a2 k]
      have : h0 = a' := by rw [hq, h1] at e5; injection e5
      rw [this]; exact e7 k hk
/-- Every entry is of the map. -/
theorem Jr.ent {K : MK} {ent : KV → Value → Ent} {hs : List KV} {L : List Ent} {m : KV} (h : Jr K ent hs L m) {e : Ent} (he : e ∈ L) : ∃ m0 key, e = ent m0 key ∧ K.OkK key ∧ KOK K m0 := by
  obtain ⟨i, hi⟩ := List.getElem?_of_mem he
  obtain ⟨m0, key, _, _, e1, e2, e3, _⟩ := h.2 i e hi
  exact ⟨m0, key, e1, e2, e3⟩
theorem undoAll_one (K : MK) (b : Nat) (m m' : KV) (E : List Ent) (h : undoAll E [(K, b, m)] = [(K, b, m')]) : m' = undoB b E m := by
  rw [undoAll_map] at h
  simp only [List.map_cons, List.map_nil, List.cons.injEq, Prod.mk.injEq, true_and, and_true] at h
  exact h.symm
/-! ### Keys -/
theorem keys_le {m : KV} (hm : MOK m) {l : List Value} (h : ∀ k v, mget m k = some v → k ∈ l) : m.length ≤ l.length := by
  have := nodup_len (l := m.map (·.1)) (l' := l) (show (m.map (·.1)).Nodup from hm) (fun x hx => by
    obtain ⟨e, he, rfl⟩ := List.mem_map.1 hx
    exact h _ _ (mget_of_mem hm he))
  simpa using this
theorem KeysOf.len {kk : IntKind} {m : KV} {l : List Value} (h : KeysOf kk m l) : l.length = m.length := by simpa using h.1.length_eq
theorem KeysOf.mem {kk : IntKind} {m : KV} {l : List Value} (h : KeysOf kk m l) (hm : MOK m) {i : Nat} {k : Value} (hi : l[i]? = some k) : ∃ v, mget m k = some v := by
  have hk : k ∈ m.map (·.1) := h.1.mem_iff.1 (List.mem_of_getElem? hi)
  obtain ⟨e, he, rfl⟩ := List.mem_map.1 hk
  exact ⟨e.2, mget_of_mem hm he⟩
theorem rise_at {l : List Value} (h : Rise l) {i j : Nat} (hij : i < j) {a b : Int} {kk : IntKind} (ha : l[i]? = some (.int kk a)) (hb : l[j]? = some (.int kk b)) : a < b := by
  obtain ⟨h1, e1⟩ := List.getElem?_eq_some_iff.1 ha
  obtain ⟨h2, e2⟩ := List.getElem?_eq_some_iff.1 hb
  have := List.pairwise_iff_getElem.1 h i j h1 h2 hij
  rw [e1, e2] at this
  exact this
theorem pairs_at {z : Value} {m : KV} {l : List Value} {i : Nat} {x : Int × Int} (h : (pairsOf z m l)[i]? = some (p2V x)) : l[i]? = some (.int .i64 x.1) ∧ (mget m (.int .i64 x.1)).getD z = .int .i64 x.2 := by
  unfold pairsOf at h
  rw [List.getElem?_map] at h
  cases hl : l[i]? with
  | none => rw [hl] at h; cases h
  | some k =>
    rw [hl] at h
    simp only [Option.map_some, p2V, Option.some.injEq, Value.agg.injEq] at h
    have h1 := congrArg Array.toList h
    simp only [List.cons.injEq, and_true] at h1
    obtain ⟨rfl, h2⟩ := h1
    exact ⟨rfl, h2⟩
theorem pairs_len {z : Value} {m : KV} {l : List Value} : (pairsOf z m l).length = l.length := by unfold pairsOf; simp
/-- Two maps that are alike key by key are told alike. -/
theorem keys_eq {kk : IntKind} {m n : KV} (hm : MOK m) (hn : MOK n) (h : EqM m n) {l l' : List Value} (h1 : KeysOf kk m l) (h2 : KeysOf kk n l') : l = l' := by
  have key : ∀ {a b : KV}, MOK a → EqM a b → ∀ v, v ∈ a.map (·.1) → v ∈ b.map (·.1) := by
    intro a b ha h v hv
    obtain ⟨e, he, rfl⟩ := List.mem_map.1 hv
    have := mget_of_mem ha he
    rw [h e.1] at this
    exact List.mem_map_of_mem (f := (·.1)) (mget_mem this)
  exact rise_unique h1.2.1 h2.2.1 h1.2.2 h2.2.2 fun v => ⟨fun hv => h2.1.mem_iff.2 (key hm h v (h1.1.mem_iff.1 hv)), fun hv => h1.1.mem_iff.2 (key hn h.symm v (h2.1.mem_iff.1 hv))⟩
theorem pairs_eq {z : Value} {m n : KV} (h : EqM m n) (l : List Value) : pairsOf z m l = pairsOf z n l := by
  unfold pairsOf; exact List.map_congr_left fun k _ => by rw [h k]
end Go.Sx

namespace Go.Sx
open Go.RowKit
theorem Jr.set {K : MK} {ent : KV → Value → Ent} {hs : List KV} {L : List Ent} {m : KV} (h : Jr K ent hs L m) (hk : KOK K m) {k v : Value} (ok : K.OkK k) (ov : K.OkV v) : Jr K ent (hs ++ [m]) (L ++ [ent m k]) (mset m k v) ∧ KOK K (mset m k v) :=
  ⟨h.push hk ok fun k' hk' => by rw [mget_set, if_neg hk'], hk.set ok ov⟩
theorem Jr.del {K : MK} {ent : KV → Value → Ent} {hs : List KV} {L : List Ent} {m : KV} (h : Jr K ent hs L m) (hk : KOK K m) {k : Value} (ok : K.OkK k) : Jr K ent (hs ++ [m]) (L ++ [ent m k]) (mdel m k) ∧ KOK K (mdel m k) :=
  ⟨h.push hk ok fun k' hk' => by rw [mget_del hk.once, if_neg hk'], hk.del k⟩
abbrev iv (n : Int) : Value := .int .i64 n
structure IntK (K : MK) : Prop where
  k : ∀ n, K.OkK (iv n)
  k' : ∀ v, K.OkK v → ∃ n, v = iv n
  v : ∀ n : Int, (Lit.int .i64 n).wf = true → K.OkV (iv n)
  v' : ∀ x, K.OkV x → ∃ n : Int, (Lit.int .i64 n).wf = true ∧ x = iv n
def SO1 (K : MK) (ls : List Int) (i : Nat) (m : KV) (n : Nat) : Prop := i ≤ ls.length ∧ KOK K m ∧ (∀ k v, mget m k = some v → v = iv 1 ∧ ∃ j z, j < i ∧ ls[j]? = some z ∧ k = iv z) ∧ n = i
theorem SO1.start {K : MK} {ls : List Int} : SO1 K ls 0 [] 0 := by
  refine ⟨Nat.zero_le _, KOK.nil, fun k v h => ?_, rfl⟩
  rw [mget_nil] at h; cases h
theorem SO1.step {K : MK} (I : IntK K) {ls : List Int} {i : Nat} {m : KV} {n : Nat} (h : SO1 K ls i m n) {z : Int} (hz : ls[i]? = some z) : SO1 K ls (i + 1) (mset m (iv z) (iv 1)) (n + 1) := by
  have hlt := (List.getElem?_eq_some_iff.1 hz).1
  refine ⟨hlt, h.2.1.set (I.k z) (I.v 1 rfl), fun k v hk => ?_, by rw [h.2.2.2]⟩
  rw [mget_set] at hk
  by_cases e : k = iv z
  · rw [if_pos e] at hk
    injection hk with hk
    exact ⟨hk.symm, i, z, Nat.lt_succ_self i, hz, e⟩
  · rw [if_neg e] at hk
    obtain ⟨h1, j, y, hj, h2, h3⟩ := h.2.2.1 k v hk
    exact ⟨h1, j, y, Nat.lt_succ_of_lt hj, h2, h3⟩
theorem SO1.len {K : MK} {ls : List Int} {i : Nat} {m : KV} {n : Nat} (h : SO1 K ls i m n) : m.length ≤ ls.length := by
  have := keys_le h.2.1.once (l := ls.map iv) (fun k v hk => by
    obtain ⟨_, j, z, _, hz, rfl⟩ := h.2.2.1 k v hk
    exact List.mem_map_of_mem (List.mem_of_getElem? hz))
  simpa using this
theorem SO1.int {K : MK} (I : IntK K) {m : KV} (h : KOK K m) : IntKeys .i64 m := ⟨fun v hv => by
  obtain ⟨e, he, rfl⟩ := List.mem_map.1 hv
  exact I.k' _ (h.ok e he).1, h.once⟩
def SO2 (K : MK) (ls : List Int) (i : Nat) (m : KV) (n : Nat) : Prop := i ≤ ls.length ∧ KOK K m ∧ (∀ k v, mget m k = some v → ∃ j z, i ≤ j ∧ ls[j]? = some z ∧ k = iv z) ∧ n ≤ ls.length + 2 * i
theorem SO1.next {K : MK} {ls : List Int} {m : KV} {n i : Nat} (h : SO1 K ls i m n) : SO2 K ls 0 m n := ⟨Nat.zero_le _, h.2.1, fun k v hk => by
  obtain ⟨_, j, z, _, h1, h2⟩ := h.2.2.1 k v hk
  exact ⟨j, z, Nat.zero_le _, h1, h2⟩, by rw [h.2.2.2]; have := h.1; omega⟩
theorem SO2.step {K : MK} (I : IntK K) {ls : List Int} {i : Nat} {m : KV} {n n' : Nat} (h : SO2 K ls i m n) {z : Int} (hz : ls[i]? = some z) (hn : n' ≤ n + 2) : SO2 K ls (i + 1) (mdel (mset m (iv z) (iv 2)) (iv z)) n' := by
  have hlt := (List.getElem?_eq_some_iff.1 hz).1
  have hs := h.2.1.set (I.k z) (I.v 2 rfl)
  refine ⟨hlt, hs.del _, fun k v hk => ?_, by have := h.2.2.2; omega⟩
  rw [mget_del hs.once] at hk
  by_cases e : k = iv z
  · rw [if_pos e] at hk; cases hk
  · rw [if_neg e, mget_set, if_neg e] at hk
    obtain ⟨j, y, hj, h2, h3⟩ := h.2.2.1 k v hk
    refine ⟨j, y, ?_, h2, h3⟩
    rcases Nat.lt_or_ge i j with q | q
    · exact q
    · have : j = i := by omega
      subst this
      rw [hz] at h2
      injection h2 with h2
      exact absurd (by rw [h3, h2]) e
theorem SO2.done {K : MK} {ls : List Int} {m : KV} {n : Nat} (h : SO2 K ls ls.length m n) : m.length = 0 := by
  have := keys_le h.2.1.once (l := []) (fun k v hk => by
    obtain ⟨j, z, h1, h2, _⟩ := h.2.2.1 k v hk
    rw [List.getElem?_eq_none h1] at h2; cases h2)
  exact Nat.le_antisymm this (Nat.zero_le _)
theorem SO2.done' {K : MK} {ls : List Int} {i : Nat} {m : KV} {n : Nat} (h : SO2 K ls i m n) (e : i = ls.length) : m.length = 0 := by subst e; exact h.done
def SO3 (K : MK) (y : Row) (g : RK 2) : Prop := ∃ m, KOK K m ∧ KeysOf .i64 m (vals y) ∧ vals g.1 = pairsOf (iv 0) m (vals y) ∧ ∀ k v, mget m k = some v → v = iv 1
theorem SO3.of {K : MK} {ls : List Int} {i n : Nat} {m : KV} (h : SO1 K ls i m n) {x y : Row} (hx : KeysOf .i64 m (vals x)) (hy : KeysOf .i64 m (vals y)) {g : RK 2} (hg : vals g.1 = pairsOf (iv 0) m (vals x)) : SO3 K y g :=
  ⟨m, h.2.1, hy, by rw [hg, keys_eq h.2.1.once h.2.1.once (EqM.refl _) hx hy], fun k v hk => (h.2.2.1 k v hk).1⟩
theorem SO3.len {K : MK} {y : Row} {g : RK 2} (h : SO3 K y g) : (vals g.1).length = (vals y).length := by
  obtain ⟨m, _, _, h3, _⟩ := h
  rw [h3, pairs_len]
theorem SO3.shape {K : MK} (I : IntK K) {y : Row} {g : RK 2} (h : SO3 K y g) {i : Nat} (hi : i < (vals g.1).length) : ∃ x0, (vals g.1)[i]? = some (p2V x0) := by
  have hl := h.len
  obtain ⟨m, h1, h2, h3, _⟩ := h
  obtain ⟨z, hz⟩ := int_at h2.2.2 (n := i) (by omega)
  obtain ⟨w, _, hw⟩ := I.v' _ (kok_val h1 (z := iv 0) (I.v 0 rfl) (iv z))
  refine ⟨(z, w), ?_⟩
  rw [h3]
  unfold pairsOf
  rw [List.getElem?_map, hz, Option.map_some]
  show some (Value.agg #[iv z, (mget m (iv z)).getD (iv 0)]) = _
  rw [hw]
theorem SO3.at {K : MK} {y : Row} {g : RK 2} (h : SO3 K y g) {i : Nat} {x : Int × Int} (hx : (vals g.1)[i]? = some (p2V x)) {z : Int} (hz : (vals y)[i]? = some (iv z)) : x.1 = z ∧ x.2 = 1 := by
  obtain ⟨m, h1, h2, h3, h4⟩ := h
  rw [h3] at hx
  obtain ⟨a, b⟩ := pairs_at hx
  rw [hz] at a
  injection a with a
  injection a with _ a
  refine ⟨a.symm, ?_⟩
  obtain ⟨v, hv⟩ := h2.mem h1.once hz
  rw [← a, hv] at b
  have := h4 _ _ hv
  simp only [Option.getD_some] at b
  rw [b] at this
  injection this
theorem SO3.ints {K : MK} {y : Row} {g : RK 2} (h : SO3 K y g) {i : Nat} (hi : i < (vals y).length) : ∃ x0 : Int, (vals y)[i]? = some (.int .i64 x0) := by
  obtain ⟨m, _, h2, _⟩ := h
  exact int_at h2.2.2 hi
theorem SO3.rise {K : MK} {y : Row} {g : RK 2} (h : SO3 K y g) {i j : Nat} (hij : i < j) {a b : Int} (ha : (vals y)[i]? = some (iv a)) (hb : (vals y)[j]? = some (iv b)) : a < b := by
  obtain ⟨m, _, h2, _⟩ := h
  exact rise_at h2.2.1 hij ha hb
end Go.Sx

namespace Go.Sx
open Go.RowKit
/-- A deed: kind, key, value. -/
abbrev A3 := Int × Int × Int
abbrev aV (x : A3) (n : Int) : Value := .agg #[.int .u8 x.1, .int .i64 x.2.1, .int .i64 x.2.2, .int .i64 n]
noncomputable def actD (ent : KV → Value → Ent) (s : KV × List Ent) (k : Int) (key v : Int) : KV × List Ent :=
  if Int.tmod k 3 = 0 then (if (mget s.1 (iv key)).isSome then (mdel s.1 (iv key), s.2 ++ [ent s.1 (iv key)]) else s) else (mset s.1 (iv key) (iv v), s.2 ++ [ent s.1 (iv key)])
/-- What stands in a deed that is read: four words. -/
abbrev A4 := Int × Int × Int × Int
noncomputable def doD (ent : KV → Value → Ent) (l : List A4) (s : KV × List Ent) : KV × List Ent := l.foldl (fun s a => actD ent s a.1 a.2.1 a.2.2.1) s
theorem doD_snoc {ent : KV → Value → Ent} {l : List A4} {i : Nat} {a : A4} (h : l[i]? = some a) (s : KV × List Ent) : doD ent (l.take (i + 1)) s = actD ent (doD ent (l.take i) s) a.1 a.2.1 a.2.2.1 := by
  unfold doD
  rw [List.take_add_one, h, List.foldl_append]; rfl
theorem actD_len {ent : KV → Value → Ent} (s : KV × List Ent) (k key v : Int) (hm : MOK s.1) : (actD ent s k key v).2.length ≤ s.2.length + 1 ∧ (actD ent s k key v).1.length ≤ s.1.length + 1 ∧ MOK (actD ent s k key v).1 := by
  unfold actD
  have hd : ∀ k : Value, (mdel s.1 k).length ≤ s.1.length := fun k => by unfold mdel; exact List.length_eraseP_le ..
  have hs : ∀ k v : Value, (mset s.1 k v).length ≤ s.1.length + 1 := fun k v => by
    have := keys_le (hm.set k v) (l := k :: s.1.map (·.1)) (fun q w hq => by
      rw [mget_set] at hq
      by_cases e : q = k
      · rw [e]; exact List.mem_cons_self ..
      · rw [if_neg e] at hq; exact List.mem_cons_of_mem _ (List.mem_map_of_mem (f := (·.1)) (mget_mem hq)))
    simpa using this
  split
  · split
    · exact ⟨by simp, by have := hd (iv key); simp only; omega, hm.del _⟩
    · exact ⟨Nat.le_succ _, Nat.le_succ _, hm⟩
  · exact ⟨by simp, hs _ _, hm.set _ _⟩
theorem doD_len {ent : KV → Value → Ent} : ∀ (l : List A4) (s : KV × List Ent), MOK s.1 → (doD ent l s).2.length ≤ s.2.length + l.length ∧ (doD ent l s).1.length ≤ s.1.length + l.length ∧ MOK (doD ent l s).1
  | [], s, hm => ⟨Nat.le_refl _, Nat.le_refl _, hm⟩
  | a :: l, s, hm => by
    obtain ⟨h1, h2, h3⟩ := actD_len (ent := ent) s a.1 a.2.1 a.2.2.1 hm
    obtain ⟨k1, k2, k3⟩ := doD_len l (actD ent s a.1 a.2.1 a.2.2.1) h3
    simp only [List.length_cons]
    refine ⟨Nat.le_trans k1 (by omega), Nat.le_trans k2 (by omega), k3⟩
structure SB (K : MK) (ent : KV → Value → Ent) (hs : List KV) (L : List Ent) (m : KV) : Prop where
  jr : Jr K ent hs L m
  ok : KOK K m
  zero : ∃ h0, (hs ++ [m])[0]? = some h0 ∧ EqM h0 []
theorem SB.start {K : MK} {ent : KV → Value → Ent} : SB K ent [] [] [] := ⟨Jr.nil [], KOK.nil, [], rfl, EqM.refl _⟩
def okA (a : A4) : Prop := (Lit.int .i64 a.2.2.1).wf = true
theorem SB.act {K : MK} (I : IntK K) {ent : KV → Value → Ent} {hs : List KV} {L : List Ent} {m : KV} (h : SB K ent hs L m) (k key v : Int) (hv : (Lit.int .i64 v).wf = true) :
    ∃ hs', SB K ent (hs ++ hs') (actD ent (m, L) k key v).2 (actD ent (m, L) k key v).1 ∧ (hs ++ hs' ++ [(actD ent (m, L) k key v).1])[hs.length]? = some m := by
  have zero : ∀ m' : KV, ∃ h0, (hs ++ [m] ++ [m'])[0]? = some h0 ∧ EqM h0 [] := fun m' => by
    obtain ⟨h0, a, b⟩ := h.zero
    exact ⟨h0, by rw [List.getElem?_append_left (by simp)]; exact a, b⟩
  have at_ : ∀ m' : KV, (hs ++ [m] ++ [m'])[hs.length]? = some m := fun m' => by rw [List.append_assoc, List.getElem?_append_right (Nat.le_refl _)]; simp
  unfold actD
  split
  · split
    · obtain ⟨j, o⟩ := h.jr.del h.ok (I.k key)
      exact ⟨[m], ⟨j, o, zero _⟩, at_ _⟩
    · exact ⟨[], by rw [List.append_nil]; exact h, by simp⟩
  · obtain ⟨j, o⟩ := h.jr.set h.ok (I.k key) (I.v v hv)
    exact ⟨[m], ⟨j, o, zero _⟩, at_ _⟩
theorem SB.doD {K : MK} (I : IntK K) {ent : KV → Value → Ent} : ∀ {l : List A4} {hs : List KV} {L : List Ent} {m : KV} (_ : SB K ent hs L m) (_ : ∀ a ∈ l, okA a),
    ∃ hs', SB K ent (hs ++ hs') (doD ent l (m, L)).2 (doD ent l (m, L)).1 ∧ (hs ++ hs' ++ [(doD ent l (m, L)).1])[hs.length]? = some m
  | [], hs, L, m, h, _ => ⟨[], by rw [List.append_nil]; exact h, by show (hs ++ [] ++ [m])[hs.length]? = _; simp⟩
  | a :: l, hs, L, m, h, ho => by
    obtain ⟨h1, s1, e1⟩ := h.act I a.1 a.2.1 a.2.2.1 (ho a (List.mem_cons_self ..))
    obtain ⟨h2, s2, e2⟩ := SB.doD (l := l) I s1 fun b hb => ho b (List.mem_cons_of_mem _ hb)
    refine ⟨h1 ++ h2, by rw [← List.append_assoc]; exact s2, ?_⟩
    rw [← List.append_assoc]
    have hlt : hs.length < (hs ++ h1 ++ [(actD ent (m, L) a.1 a.2.1 a.2.2.1).1]).length := by simp
    cases h1 with
    | nil =>
      simp only [List.append_nil] at e1 e2 ⊢
      have e3 : (actD ent (m, L) a.1 a.2.1 a.2.2.1).1 = m := by simpa using e1
      exact e2.trans (congrArg some e3)
    | cons x h1 =>
      simp only [List.append_assoc] at e1 ⊢
      rw [List.getElem?_append_right (Nat.le_refl _), Nat.sub_self] at e1 ⊢
      simpa using e1
theorem SB.back {K : MK} {ent : KV → Value → Ent} {b : Nat} (E : EntOK b ent) {hs : List KV} {L : List Ent} {m : KV} (h : SB K ent hs L m) {n : Nat} (hn : n ≤ L.length) {h0 : KV} (h1 : (hs ++ [m])[n]? = some h0) :
    SB K ent (hs.take n) (L.take n) (undoB b (L.drop n) m) ∧ EqM (undoB b (L.drop n) m) h0 := by
  obtain ⟨k1, k2, k3⟩ := h.jr.back E h.ok hn h1
  refine ⟨⟨k3, k1, ?_⟩, k2⟩
  obtain ⟨z, z1, z2⟩ := h.zero
  cases n with
  | zero =>
    rw [z1] at h1
    injection h1 with h1
    exact ⟨_, by simp, k2.trans (h1 ▸ z2)⟩
  | succ n =>
    refine ⟨z, ?_, z2⟩
    have hl : 0 < hs.length := by rw [h.jr.1]; omega
    rw [List.getElem?_append_left (by simp only [List.length_take]; omega)]
    rw [List.getElem?_append_left hl] at z1
    rw [List.getElem?_take_of_lt (Nat.succ_pos n)]
    exact z1
/-- Maps that are alike stay alike, and their journals grow alike. -/
theorem actD_rel {ent ent' : KV → Value → Ent} {s t : KV × List Ent} (hs : MOK s.1) (ht : MOK t.1) (e : EqM s.1 t.1) (k key v : Int) :
    EqM (actD ent s k key v).1 (actD ent' t k key v).1 ∧ (actD ent s k key v).2.length + t.2.length = (actD ent' t k key v).2.length + s.2.length := by
  unfold actD
  rw [e (iv key)]
  split
  · split
    · exact ⟨e.del hs ht _, by simp; omega⟩
    · exact ⟨e, by omega⟩
  · exact ⟨e.set _ _, by simp; omega⟩
theorem doD_rel {ent ent' : KV → Value → Ent} : ∀ (l : List A4) {s t : KV × List Ent} (_ : MOK s.1) (_ : MOK t.1) (_ : EqM s.1 t.1),
    EqM (doD ent l s).1 (doD ent' l t).1 ∧ (doD ent l s).2.length + t.2.length = (doD ent' l t).2.length + s.2.length
  | [], s, t, _, _, e => ⟨e, by show s.2.length + t.2.length = t.2.length + s.2.length; omega⟩
  | a :: l, s, t, hs, ht, e => by
    obtain ⟨e1, n1⟩ := actD_rel (ent := ent) (ent' := ent') hs ht e a.1 a.2.1 a.2.2.1
    obtain ⟨e2, n2⟩ := doD_rel (ent := ent) (ent' := ent') l (actD_len s a.1 a.2.1 a.2.2.1 hs).2.2 (actD_len t a.1 a.2.1 a.2.2.1 ht).2.2 e1
    exact ⟨e2, by simp only [doD, List.foldl_cons] at n2 ⊢; omega⟩
end Go.Sx

namespace Go.Sx
open Go.RowKit
theorem eq_p2 {P : Program} {t e : TypeId} {f0 f1 : Field} (ht : P.underlying t = some (.struct (P.fieldsOf t))) (hp : P.stoodInHeld t = false) (he : P.underlying e = some (.int .i64)) (ha : ∀ w, (isAgg e).run P w = .ok false w)
    (hf : (P.fieldsOf t).toList = [f0, f1]) (n0 : f0.name ≠ "_") (t0 : f0.type = e) (o0 : f0.offset = 0) (n1 : f1.name ≠ "_") (t1 : f1.type = e) (o1 : f1.offset = 1) (x y : Int × Int) (w : World) :
    (Op.equalIn 10000 t (p2V x) (p2V y)).run P w = .ok (decide (x = y)) w := by
  have hi : ∀ a b, (Op.equalIn 9999 e (.int .i64 a) (.int .i64 b)).run P w = .ok (a == b) w := fun a b => run_equalIn_int w 9998 e .i64 .i64 a b he
  have p0 : ∀ z : Int × Int, (part e #[.int .i64 z.1, .int .i64 z.2] 0).run P w = .ok (.int .i64 z.1) w := fun z => run_part1 w ha rfl
  have p1 : ∀ z : Int × Int, (part e #[.int .i64 z.1, .int .i64 z.2] 1).run P w = .ok (.int .i64 z.2) w := fun z => run_part1 w ha rfl
  rw [show (10000 : Nat) = 9999 + 1 from rfl, run_equalIn_struct w 9999 t _ _ ht hp, hf]
  simp only [Op.eqFields, n0, n1, t0, t1, o0, o1, ne_eq, not_false_eq_true, if_true, Sem.run_bind, p0, p1, hi, Result.andThen_ok]
  obtain ⟨x1, x2⟩ := x
  obtain ⟨y1, y2⟩ := y
  have q : ∀ a b : Int, (part e #[.int .i64 a, .int .i64 b] 1).run P w = .ok (.int .i64 b) w := fun a b => p1 (a, b)
  by_cases h1 : x1 = y1
  · by_cases h2 : x2 = y2 <;> simp [h1, h2, Sem.run_bind, q, hi]
  · simp [h1]
theorem xne_p2 {P : Program} {t e : TypeId} {f0 f1 : Field} (hg : P.eqGuardType P.depth t = false) (ht : P.underlying t = some (.struct (P.fieldsOf t))) (hp : P.stoodInHeld t = false) (he : P.underlying e = some (.int .i64)) (ha : ∀ w, (isAgg e).run P w = .ok false w)
    (hf : (P.fieldsOf t).toList = [f0, f1]) (n0 : f0.name ≠ "_") (t0 : f0.type = e) (o0 : f0.offset = 0) (n1 : f1.name ≠ "_") (t1 : f1.type = e) (o1 : f1.offset = 1) (x y : Int × Int) : PureRun P (xBin .neq t (p2V x) (p2V y)) (.bool (!decide (x = y))) := by
  intro w
  have h := eq_p2 ht hp he ha hf n0 t0 o0 n1 t1 o1 x y w
  have g : (eqGuard .neq t (.const (p2V x)) (.const (p2V y)) (p2V x) (p2V y)).run P w = .ok () w := run_eqGuard_agg (w := w) .neq t _ _ _ _ hg
  have q : (binOp .neq t (p2V x) (p2V y)).run P w = .ok (.bool (!decide (x = y))) w := by
    rw [run_neq_struct, h]; rfl
  simp [xBin, Sem.run_bind, g, q]
theorem pairs_shape {K : MK} (I : IntK K) {m : KV} (hk : KOK K m) {l : List Value} (hx : KeysOf .i64 m l) {g : RK 2} (hg : vals g.1 = pairsOf (iv 0) m l) {i : Nat} (hi : i < (vals g.1).length) : ∃ x0, (vals g.1)[i]? = some (p2V x0) := by
  rw [hg, pairs_len] at hi
  obtain ⟨z, hz⟩ := int_at hx.2.2 hi
  obtain ⟨w, _, hw⟩ := I.v' _ (kok_val hk (z := iv 0) (I.v 0 rfl) (iv z))
  refine ⟨(z, w), ?_⟩
  rw [hg]
  unfold pairsOf
  rw [List.getElem?_map, hz, Option.map_some]
  show some (Value.agg #[iv z, (mget m (iv z)).getD (iv 0)]) = _
  rw [hw]
theorem p2V_inj {x y : Int × Int} (h : p2V x = p2V y) : x = y := by
  obtain ⟨a, b⟩ := x
  obtain ⟨c, d⟩ := y
  simp [p2V] at h
  exact Prod.ext h.1 h.2
/-! ### What a slice of the caller's holds, as a function -/
theorem SlX.uniq {P : Program} {t : TypeId} {X : Type} {w : World} {n : Nat} {val : X → Value} {Ok : X → Prop} {v : Value} (K : ElK P t n val Ok) {xs ys : List X} (h1 : SlX w n val Ok v xs) (h2 : SlX w n val Ok v ys) : xs = ys := by
  have hl : xs.length = ys.length := by rw [← h1.vlen, ← h2.vlen]
  apply List.ext_getElem hl
  intro i hi hj
  obtain ⟨ox, a, len, cap, e1, _, c1⟩ := h1.at (List.getElem?_eq_getElem hi)
  obtain ⟨oy, a', len', cap', e2, _, c2⟩ := h2.at (List.getElem?_eq_getElem hj)
  rw [e1] at e2
  injection e2 with e2
  injection e2 with e2
  subst e2
  refine K.inj _ _ ox oy ?_
  have k1 := K.len xs[i]
  have k2 := K.len ys[i]
  apply List.ext_getElem?
  intro j
  rcases Nat.lt_or_ge j n with q | q
  · have g1 := c1 j _ (List.getElem?_eq_getElem (by omega))
    have g2 := c2 j _ (List.getElem?_eq_getElem (by omega))
    rw [g1] at g2
    rw [List.getElem?_eq_getElem (by omega), List.getElem?_eq_getElem (by omega)]
    exact g2
  · rw [List.getElem?_eq_none (by omega), List.getElem?_eq_none (by omega)]
open Classical in
noncomputable def rdSl {X : Type} (n : Nat) (val : X → Value) (Ok : X → Prop) (s : Slot) (v : Value) : List X := if h : ∃ xs, SlX (swld s) n val Ok v xs then h.choose else []
theorem rdSl_eq {P : Program} {t : TypeId} {X : Type} {w : World} {n : Nat} {val : X → Value} {Ok : X → Prop} {v : Value} (K : ElK P t n val Ok) {xs : List X} (h : SlX w n val Ok v xs) : rdSl n val Ok (old w) v = xs := by
  unfold rdSl
  have hx : ∃ xs, SlX (swld (old w)) n val Ok v xs := ⟨xs, h⟩
  rw [dif_pos hx]
  exact SlX.uniq K hx.choose_spec h
end Go.Sx

namespace Go.Sx
open Go
theorem trod_field {H : Type} {enc : TypeId × Value → H} {P : Program} {w : World} {base : Nat} {sp : Nat → Bool} {held : Bool} {fs : Array Field} {cs : List Value} {xs : List (DataW H × List MemPlace)} {n : Nat} (hlen : xs.length = fs.size)
    (hf : ∀ (i : Nat) (f : Field), fs[i]? = some f → DataW.trod enc P w base sp held n f.type ((cs.drop f.offset).take (P.cellsOf f.type)) = xs[i]?) (i : Nat) {f : Field} (h : fs[i]? = some f) {t off k : Nat} (ht : f.type = t) (ho : f.offset = off) (hk : P.cellsOf t = k) :
    ∃ y, DataW.trod enc P w base sp held n t ((cs.drop off).take k) = some y := by
  have hi : i < fs.size := by
    rcases Nat.lt_or_ge i fs.size with q | q
    · exact q
    · rw [Array.getElem?_eq_none q] at h; cases h
  have g := hf i f h
  rw [ht, ho, hk, List.getElem?_eq_getElem (by omega)] at g
  exact ⟨_, g⟩
end Go.Sx
