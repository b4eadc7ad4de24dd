/- A part of the prover's own frame for walking code (see the claim's other texts). -/
import Derived.Test.YtmikgnjocfcekaaF3
import Derived.Test.YtmikgnjocfcekaaF4
import Derived.Test.YtmikgnjocfcekaaF5
import Derived.Test.YtmikgnjocfcekaaF6
set_option linter.unusedVariables false
set_option linter.unusedSimpArgs false
namespace Go.Sx
open Go.RowKit
/-- How entries are made: of the map at b, what was under a key. -/
structure EntOK (b : Nat) (ent : KV → Value → Ent) : Prop where
  b : ∀ m k, (ent m k).b = b
  key : ∀ m k, (ent m k).key = k
  was : ∀ m k, (ent m k).was = mget m k
def Jr (K : MK) (ent : KV → Value → Ent) (hs : List KV) (L : List Ent) (m : KV) : Prop :=
  hs.length = L.length ∧ ∀ i e, L[i]? = some e → ∃ m0 key h h', e = ent m0 key ∧ K.OkK key ∧ KOK K m0 ∧ hs[i]? = some h ∧ (hs ++ [m])[i + 1]? = some h' ∧ EqM m0 h ∧ ∀ k, k ≠ key → mget h' k = mget h k
theorem Jr.nil {K : MK} {ent : KV → Value → Ent} (m : KV) : Jr K ent [] [] m := ⟨rfl, fun i e h => by simp at h⟩
theorem Jr.push {K : MK} {ent : KV → Value → Ent} {hs : List KV} {L : List Ent} {m m' : KV} (h : Jr K ent hs L m) (hk : KOK K m) {key : Value} (ok : K.OkK key) (ho : ∀ k, k ≠ key → mget m' k = mget m k) : Jr K ent (hs ++ [m]) (L ++ [ent m key]) m' := by
  refine ⟨by simp [h.1], fun i e he => ?_⟩
  rcases Nat.lt_or_ge i L.length with q | q
  · rw [List.getElem?_append_left q] at he
    obtain ⟨m0, k0, h0, h1, e1, e2, e3, e4, e5, e6, e7⟩ := h.2 i e he
    refine ⟨m0, k0, h0, h1, e1, e2, e3, ?_, ?_, e6, e7⟩
    · rw [List.getElem?_append_left (by rw [h.1]; exact q)]; exact e4
    · rw [List.getElem?_append_left (by simp [h.1]; omega)]; exact e5
  · have hi : i = L.length := by
      have := (List.getElem?_eq_some_iff.1 he).1
      simp at this; omega
    subst hi
    simp at he; subst he
    refine ⟨m, key, m, m', rfl, ok, hk, by simp [← h.1], ?_, EqM.refl _, ho⟩
    rw [List.getElem?_append_right (by simp [h.1])]
    simp [h.1]
theorem Und.cons {b : Nat} {h h' m : KV} {E : List Ent} (u : Und b h' m E) {e : Ent} (hb : e.b = b) (hw : e.was = mget h e.key) (ho : ∀ k, k ≠ e.key → mget h' k = mget h k) : Und b h m (e :: E) := fun m2 h2 e2 => by
  obtain ⟨a1, a2⟩ := u m2 h2 e2
  have e3 : undoB b (e :: E) m2 = e.undo (undoB b E m2) := by
    show (if b = e.b then e.undo (undoB b E m2) else undoB b E m2) = _
    rw [if_pos hb.symm]
  rw [e3]
  refine ⟨undo_mok a1, fun k => ?_⟩
  rw [mget_undo a1]
  by_cases hk : k = e.key
  · rw [if_pos hk, hw, hk]
  · rw [if_neg hk, a2 k, ho k hk]
theorem Jr.und {K : MK} {ent : KV → Value → Ent} {b : Nat} (E : EntOK b ent) {hs : List KV} {L : List Ent} {m : KV} (h : Jr K ent hs L m) : ∀ (d n : Nat), n + d = L.length → ∀ h0, (hs ++ [m])[n]? = some h0 → Und b h0 m (L.drop n)
  | 0, n, hd, h0, hn => by
    have : n = hs.length := by rw [h.1]; omega
    subst this
    simp at hn; subst hn
    rw [List.drop_eq_nil_of_le (by rw [h.1]; exact Nat.le_refl _)]; exact Und.nil b _
  | d + 1, n, hd, h0, hn => by
    have hlt : n < L.length := by omega
    obtain ⟨m0, key, a, a', e1, _, _, e4, e5, e6, e7⟩ := h.2 n L[n] (List.getElem?_eq_getElem hlt)
    have ha : h0 = a := by
      rw [List.getElem?_append_left (by rw [h.1]; exact hlt), e4] at hn
      injection hn with hn; exact hn.symm
    subst ha
    rw [List.drop_eq_getElem_cons hlt]
    refine Und.cons (h.und E d (n + 1) (by omega) a' e5) (by rw [e1]; exact E.b _ _) ?_ ?_
    · rw [e1, E.was, E.key]; exact e6 key
    · intro k hk
      rw [e1, E.key] at hk
      exact e7 k hk
theorem Jr.back {K : MK} {ent : KV → Value → Ent} {b : Nat} (E : EntOK b ent) {hs : List KV} {L : List Ent} {m : KV} (h : Jr K ent hs L m) (hk : KOK K m) {n : Nat} (hn : n ≤ L.length) {h0 : KV} (h1 : (hs ++ [m])[n]? = some h0) :
    KOK K (undoB b (L.drop n) m) ∧ EqM (undoB b (L.drop n) m) h0 ∧ Jr K ent (hs.take n) (L.take n) (undoB b (L.drop n) m) := by
  obtain ⟨a1, a2⟩ := h.und E (L.length - n) n (by omega) h0 h1 m hk.once (EqM.refl _)
  have hK : KOK K (undoB b (L.drop n) m) := by
    rcases Nat.lt_or_ge n L.length with q | q
    · obtain ⟨m0, key, a, a', _, _, e3, e4, _, e6, _⟩ := h.2 n L[n] (List.getElem?_eq_getElem q)
      rw [List.getElem?_append_left (by rw [h.1]; exact q), e4] at h1
      injection h1 with h1
      exact e3.of_eq a1 (a2.trans (h1 ▸ e6.symm))
    · rw [List.drop_eq_nil_of_le q]; exact hk
  refine ⟨hK, a2, by simp [h.1], fun i e he => ?_⟩
  have hi : i < n ∧ i < L.length := by
    have := (List.getElem?_eq_some_iff.1 he).1
    simp only [List.length_take] at this; omega
  rw [List.getElem?_take_of_lt hi.1] at he
  obtain ⟨m0, key, a, a', e1, e2, e3, e4, e5, e6, e7⟩ := h.2 i e he
  have e4' : (hs.take n)[i]? = some a := by rw [List.getElem?_take_of_lt hi.1]; exact e4
  rcases Nat.lt_or_ge (i + 1) n with q | q
  · refine ⟨m0, key, a, a', e1, e2, e3, e4', ?_, e6, e7⟩
    rw [List.getElem?_append_left (by simp [h.1]; omega), List.getElem?_take_of_lt q]
    rw [List.getElem?_append_left (by rw [h.1]; omega)] at e5
    exact e5
  · have hq : i + 1 = n := by omega
    refine ⟨m0, key, a, undoB b (L.drop n) m, e1, e2, e3, e4', ?_, e6, fun k hk => ?_⟩
    · rw [List.getElem?_append_right (by simp [h.1]; omega)]
      have : i + 1 - (hs.take n).length = 0 := by simp [h.1]; omega
      rw [this]; rfl
    · rw [a2 k]
      have : h0 = a' := by rw [hq, h1] at e5; injection e5
      rw [this]; exact e7 k hk
/-- Every entry is of the map. -/
theorem Jr.ent {K : MK} {ent : KV → Value → Ent} {hs : List KV} {L : List Ent} {m : KV} (h : Jr K ent hs L m) {e : Ent} (he : e ∈ L) : ∃ m0 key, e = ent m0 key ∧ K.OkK key ∧ KOK K m0 := by
  obtain ⟨i, hi⟩ := List.getElem?_of_mem he
  obtain ⟨m0, key, _, _, e1, e2, e3, _⟩ := h.2 i e hi
  exact ⟨m0, key, e1, e2, e3⟩
theorem undoAll_one (K : MK) (b : Nat) (m m' : KV) (E : List Ent) (h : undoAll E [(K, b, m)] = [(K, b, m')]) : m' = undoB b E m := by
  rw [undoAll_map] at h
  simp only [List.map_cons, List.map_nil, List.cons.injEq, Prod.mk.injEq, true_and, and_true] at h
  exact h.symm
/-! ### Keys -/
theorem keys_le {m : KV} (hm : MOK m) {l : List Value} (h : ∀ k v, mget m k = some v → k ∈ l) : m.length ≤ l.length := by
  have := nodup_len (l := m.map (·.1)) (l' := l) (show (m.map (·.1)).Nodup from hm) (fun x hx => by
    obtain ⟨e, he, rfl⟩ := List.mem_map.1 hx
    exact h _ _ (mget_of_mem hm he))
  simpa using this
theorem KeysOf.len {kk : IntKind} {m : KV} {l : List Value} (h : KeysOf kk m l) : l.length = m.length := by simpa using h.1.length_eq
theorem KeysOf.mem {kk : IntKind} {m : KV} {l : List Value} (h : KeysOf kk m l) (hm : MOK m) {i : Nat} {k : Value} (hi : l[i]? = some k) : ∃ v, mget m k = some v := by
  have hk : k ∈ m.map (·.1) := h.1.mem_iff.1 (List.mem_of_getElem? hi)
  obtain ⟨e, he, rfl⟩ := List.mem_map.1 hk
  exact ⟨e.2, mget_of_mem hm he⟩
theorem rise_at {l : List Value} (h : Rise l) {i j : Nat} (hij : i < j) {a b : Int} {kk : IntKind} (ha : l[i]? = some (.int kk a)) (hb : l[j]? = some (.int kk b)) : a < b := by
  obtain ⟨h1, e1⟩ := List.getElem?_eq_some_iff.1 ha
  obtain ⟨h2, e2⟩ := List.getElem?_eq_some_iff.1 hb
  have := List.pairwise_iff_getElem.1 h i j h1 h2 hij
  rw [e1, e2] at this
  exact this
theorem pairs_at {z : Value} {m : KV} {l : List Value} {i : Nat} {x : Int × Int} (h : (pairsOf z m l)[i]? = some (p2V x)) : l[i]? = some (.int .i64 x.1) ∧ (mget m (.int .i64 x.1)).getD z = .int .i64 x.2 := by
  unfold pairsOf at h
  rw [List.getElem?_map] at h
  cases hl : l[i]? with
  | none => rw [hl] at h; cases h
  | some k =>
    rw [hl] at h
    simp only [Option.map_some, p2V, Option.some.injEq, Value.agg.injEq] at h
    have h1 := congrArg Array.toList h
    simp only [List.cons.injEq, and_true] at h1
    obtain ⟨rfl, h2⟩ := h1
    exact ⟨rfl, h2⟩
theorem pairs_len {z : Value} {m : KV} {l : List Value} : (pairsOf z m l).length = l.length := by unfold pairsOf; simp
/-- Two maps that are alike key by key are told alike. -/
theorem keys_eq {kk : IntKind} {m n : KV} (hm : MOK m) (hn : MOK n) (h : EqM m n) {l l' : List Value} (h1 : KeysOf kk m l) (h2 : KeysOf kk n l') : l = l' := by
  have key : ∀ {a b : KV}, MOK a → EqM a b → ∀ v, v ∈ a.map (·.1) → v ∈ b.map (·.1) := by
    intro a b ha h v hv
    obtain ⟨e, he, rfl⟩ := List.mem_map.1 hv
    have := mget_of_mem ha he
    rw [h e.1] at this
    exact List.mem_map_of_mem (f := (·.1)) (mget_mem this)
  exact rise_unique h1.2.1 h2.2.1 h1.2.2 h2.2.2 fun v => ⟨fun hv => h2.1.mem_iff.2 (key hm h v (h1.1.mem_iff.1 hv)), fun hv => h1.1.mem_iff.2 (key hn h.symm v (h2.1.mem_iff.1 hv))⟩
theorem pairs_eq {z : Value} {m n : KV} (h : EqM m n) (l : List Value) : pairsOf z m l = pairsOf z n l := by
  unfold pairsOf; exact List.map_congr_left fun k _ => by rw [h k]
end Go.Sx

namespace Go.Sx
open Go.RowKit
theorem Jr.set {K : MK} {ent : KV → Value → Ent} {hs : List KV} {L : List Ent} {m : KV} (h : Jr K ent hs L m) (hk : KOK K m) {k v : Value} (ok : K.OkK k) (ov : K.OkV v) : Jr K ent (hs ++ [m]) (L ++ [ent m k]) (mset m k v) ∧ KOK K (mset m k v) :=
  ⟨h.push hk ok fun k' hk' => by rw [mget_set, if_neg hk'], hk.set ok ov⟩
theorem Jr.del {K : MK} {ent : KV → Value → Ent} {hs : List KV} {L : List Ent} {m : KV} (h : Jr K ent hs L m) (hk : KOK K m) {k : Value} (ok : K.OkK k) : Jr K ent (hs ++ [m]) (L ++ [ent m k]) (mdel m k) ∧ KOK K (mdel m k) :=
  ⟨h.push hk ok fun k' hk' => by rw [mget_del hk.once, if_neg hk'], hk.del k⟩
abbrev iv (n : Int) : Value := .int .i64 n
structure IntK (K : MK) : Prop where
  k : ∀ n, K.OkK (iv n)
  k' : ∀ v, K.OkK v → ∃ n, v = iv n
  v : ∀ n : Int, (Lit.int .i64 n).wf = true → K.OkV (iv n)
  v' : ∀ x, K.OkV x → ∃ n : Int, (Lit.int .i64 n).wf = true ∧ x = iv n
def SO1 (K : MK) (ls : List Int) (i : Nat) (m : KV) (n : Nat) : Prop := i ≤ ls.length ∧ KOK K m ∧ (∀ k v, mget m k = some v → v = iv 1 ∧ ∃ j z, j < i ∧ ls[j]? = some z ∧ k = iv z) ∧ n = i
theorem SO1.start {K : MK} {ls : List Int} : SO1 K ls 0 [] 0 := by
  refine ⟨Nat.zero_le _, KOK.nil, fun k v h => ?_, rfl⟩
  rw [mget_nil] at h; cases h
theorem SO1.step {K : MK} (I : IntK K) {ls : List Int} {i : Nat} {m : KV} {n : Nat} (h : SO1 K ls i m n) {z : Int} (hz : ls[i]? = some z) : SO1 K ls (i + 1) (mset m (iv z) (iv 1)) (n + 1) := by
  have hlt := (List.getElem?_eq_some_iff.1 hz).1
  refine ⟨hlt, h.2.1.set (I.k z) (I.v 1 rfl), fun k v hk => ?_, by rw [h.2.2.2]⟩
  rw [mget_set] at hk
  by_cases e : k = iv z
  · rw [if_pos e] at hk
    injection hk with hk
    exact ⟨hk.symm, i, z, Nat.lt_succ_self i, hz, e⟩
  · rw [if_neg e] at hk
    obtain ⟨h1, j, y, hj, h2, h3⟩ := h.2.2.1 k v hk
    exact ⟨h1, j, y, Nat.lt_succ_of_lt hj, h2, h3⟩
theorem SO1.len {K : MK} {ls : List Int} {i : Nat} {m : KV} {n : Nat} (h : SO1 K ls i m n) : m.length ≤ ls.length := by
  have := keys_le h.2.1.once (l := ls.map iv) (fun k v hk => by
    obtain ⟨_, j, z, _, hz, rfl⟩ := h.2.2.1 k v hk
    exact List.mem_map_of_mem (List.mem_of_getElem? hz))
  simpa using this
theorem SO1.int {K : MK} (I : IntK K) {m : KV} (h : KOK K m) : IntKeys .i64 m := ⟨fun v hv => by
  obtain ⟨e, he, rfl⟩ := List.mem_map.1 hv
  exact I.k' _ (h.ok e he).1, h.once⟩
def SO2 (K : MK) (ls : List Int) (i : Nat) (m : KV) (n : Nat) : Prop := i ≤ ls.length ∧ KOK K m ∧ (∀ k v, mget m k = some v → ∃ j z, i ≤ j ∧ ls[j]? = some z ∧ k = iv z) ∧ n ≤ ls.length + 2 * i
theorem SO1.next {K : MK} {ls : List Int} {m : KV} {n i : Nat} (h : SO1 K ls i m n) : SO2 K ls 0 m n := ⟨Nat.zero_le _, h.2.1, fun k v hk => by
  obtain ⟨_, j, z, _, h1, h2⟩ := h.2.2.1 k v hk
  exact ⟨j, z, Nat.zero_le _, h1, h2⟩, by rw [h.2.2.2]; have := h.1; omega⟩
theorem SO2.step {K : MK} (I : IntK K) {ls : List Int} {i : Nat} {m : KV} {n n' : Nat} (h : SO2 K ls i m n) {z : Int} (hz : ls[i]? = some z) (hn : n' ≤ n + 2) : SO2 K ls (i + 1) (mdel (mset m (iv z) (iv 2)) (iv z)) n' := by
  have hlt := (List.getElem?_eq_some_iff.1 hz).1
  have hs := h.2.1.set (I.k z) (I.v 2 rfl)
  refine ⟨hlt, hs.del _, fun k v hk => ?_, by have := h.2.2.2; omega⟩
  rw [mget_del hs.once] at hk
  by_cases e : k = iv z
  · rw [if_pos e] at hk; cases hk
  · rw [if_neg e, mget_set, if_neg e] at hk
    obtain ⟨j, y, hj, h2, h3⟩ := h.2.2.1 k v hk
    refine ⟨j, y, ?_, h2, h3⟩
    rcases Nat.lt_or_ge i j with q | q
    · exact q
    · have : j = i := by omega
      subst this
      rw [hz] at h2
      injection h2 with h2
      exact absurd (by rw [h3, h2]) e
theorem SO2.done {K : MK} {ls : List Int} {m : KV} {n : Nat} (h : SO2 K ls ls.length m n) : m.length = 0 := by
  have := keys_le h.2.1.once (l := []) (fun k v hk => by
    obtain ⟨j, z, h1, h2, _⟩ := h.2.2.1 k v hk
    rw [List.getElem?_eq_none h1] at h2; cases h2)
  exact Nat.le_antisymm this (Nat.zero_le _)
theorem SO2.done' {K : MK} {ls : List Int} {i : Nat} {m : KV} {n : Nat} (h : SO2 K ls i m n) (e : i = ls.length) : m.length = 0 := by subst e; exact h.done
def SO3 (K : MK) (y : Row) (g : RK 2) : Prop := ∃ m, KOK K m ∧ KeysOf .i64 m (vals y) ∧ vals g.1 = pairsOf (iv 0) m (vals y) ∧ ∀ k v, mget m k = some v → v = iv 1
theorem SO3.of {K : MK} {ls : List Int} {i n : Nat} {m : KV} (h : SO1 K ls i m n) {x y : Row} (hx : KeysOf .i64 m (vals x)) (hy : KeysOf .i64 m (vals y)) {g : RK 2} (hg : vals g.1 = pairsOf (iv 0) m (vals x)) : SO3 K y g :=
  ⟨m, h.2.1, hy, by rw [hg, keys_eq h.2.1.once h.2.1.once (EqM.refl _) hx hy], fun k v hk => (h.2.2.1 k v hk).1⟩
theorem SO3.len {K : MK} {y : Row} {g : RK 2} (h : SO3 K y g) : (vals g.1).length = (vals y).length := by
  obtain ⟨m, _, _, h3, _⟩ := h
  rw [h3, pairs_len]
theorem SO3.shape {K : MK} (I : IntK K) {y : Row} {g : RK 2} (h : SO3 K y g) {i : Nat} (hi : i < (vals g.1).length) : ∃ x0, (vals g.1)[i]? = some (p2V x0) := by
  have hl := h.len
  obtain ⟨m, h1, h2, h3, _⟩ := h
  obtain ⟨z, hz⟩ := int_at h2.2.2 (n := i) (by omega)
  obtain ⟨w, _, hw⟩ := I.v' _ (kok_val h1 (z := iv 0) (I.v 0 rfl) (iv z))
  refine ⟨(z, w), ?_⟩
  rw [h3]
  unfold pairsOf
  rw [List.getElem?_map, hz, Option.map_some]
  show some (Value.agg #[iv z, (mget m (iv z)).getD (iv 0)]) = _
  rw [hw]
theorem SO3.at {K : MK} {y : Row} {g : RK 2} (h : SO3 K y g) {i : Nat} {x : Int × Int} (hx : (vals g.1)[i]? = some (p2V x)) {z : Int} (hz : (vals y)[i]? = some (iv z)) : x.1 = z ∧ x.2 = 1 := by
  obtain ⟨m, h1, h2, h3, h4⟩ := h
  rw [h3] at hx
  obtain ⟨a, b⟩ := pairs_at hx
  rw [hz] at a
  injection a with a
  injection a with _ a
  refine ⟨a.symm, ?_⟩
  obtain ⟨v, hv⟩ := h2.mem h1.once hz
  rw [← a, hv] at b
  have := h4 _ _ hv
  simp only [Option.getD_some] at b
  rw [b] at this
  injection this
theorem SO3.ints {K : MK} {y : Row} {g : RK 2} (h : SO3 K y g) {i : Nat} (hi : i < (vals y).length) : ∃ x0 : Int, (vals y)[i]? = some (.int .i64 x0) := by
  obtain ⟨m, _, h2, _⟩ := h
  exact int_at h2.2.2 hi
theorem SO3.rise {K : MK} {y : Row} {g : RK 2} (h : SO3 K y g) {i j : Nat} (hij : i < j) {a b : Int} (ha : (vals y)[i]? = some (iv a)) (hb : (vals y)[j]? = some (iv b)) : a < b := by
  obtain ⟨m, _, h2, _⟩ := h
  exact rise_at h2.2.1 hij ha hb
end Go.Sx

namespace Go.Sx
open Go.RowKit
/-- A deed: kind, key, value. -/
abbrev A3 := Int × Int × Int
abbrev aV (x : A3) (n : Int) : Value := .agg #[.int .u8 x.1, .int .i64 x.2.1, .int .i64 x.2.2, .int .i64 n]
noncomputable def actD (ent : KV → Value → Ent) (s : KV × List Ent) (k : Int) (key v : Int) : KV × List Ent :=
  if Int.tmod k 3 = 0 then (if (mget s.1 (iv key)).isSome then (mdel s.1 (iv key), s.2 ++ [ent s.1 (iv key)]) else s) else (mset s.1 (iv key) (iv v), s.2 ++ [ent s.1 (iv key)])
/-- What stands in a deed that is read: four words. -/
abbrev A4 := Int × Int × Int × Int
noncomputable def doD (ent : KV → Value → Ent) (l : List A4) (s : KV × List Ent) : KV × List Ent := l.foldl (fun s a => actD ent s a.1 a.2.1 a.2.2.1) s
theorem doD_snoc {ent : KV → Value → Ent} {l : List A4} {i : Nat} {a : A4} (h : l[i]? = some a) (s : KV × List Ent) : doD ent (l.take (i + 1)) s = actD ent (doD ent (l.take i) s) a.1 a.2.1 a.2.2.1 := by
  unfold doD
  rw [List.take_add_one, h, List.foldl_append]; rfl
theorem actD_len {ent : KV → Value → Ent} (s : KV × List Ent) (k key v : Int) (hm : MOK s.1) : (actD ent s k key v).2.length ≤ s.2.length + 1 ∧ (actD ent s k key v).1.length ≤ s.1.length + 1 ∧ MOK (actD ent s k key v).1 := by
  unfold actD
  have hd : ∀ k : Value, (mdel s.1 k).length ≤ s.1.length := fun k => by unfold mdel; exact List.length_eraseP_le ..
  have hs : ∀ k v : Value, (mset s.1 k v).length ≤ s.1.length + 1 := fun k v => by
    have := keys_le (hm.set k v) (l := k :: s.1.map (·.1)) (fun q w hq => by
      rw [mget_set] at hq
      by_cases e : q = k
      · rw [e]; exact List.mem_cons_self ..
      · rw [if_neg e] at hq; exact List.mem_cons_of_mem _ (List.mem_map_of_mem (f := (·.1)) (mget_mem hq)))
    simpa using this
  split
  · split
    · exact ⟨by simp, by have := hd (iv key); simp only; omega, hm.del _⟩
    · exact ⟨Nat.le_succ _, Nat.le_succ _, hm⟩
  · exact ⟨by simp, hs _ _, hm.set _ _⟩
theorem doD_len {ent : KV → Value → Ent} : ∀ (l : List A4) (s : KV × List Ent), MOK s.1 → (doD ent l s).2.length ≤ s.2.length + l.length ∧ (doD ent l s).1.length ≤ s.1.length + l.length ∧ MOK (doD ent l s).1
  | [], s, hm => ⟨Nat.le_refl _, Nat.le_refl _, hm⟩
  | a :: l, s, hm => by
    obtain ⟨h1, h2, h3⟩ := actD_len (ent := ent) s a.1 a.2.1 a.2.2.1 hm
    obtain ⟨k1, k2, k3⟩ := doD_len l (actD ent s a.1 a.2.1 a.2.2.1) h3
    simp only [List.length_cons]
    refine ⟨Nat.le_trans k1 (by omega), Nat.le_trans k2 (by omega), k3⟩
structure SB (K : MK) (ent : KV → Value → Ent) (hs : List KV) (L : List Ent) (m : KV) : Prop where
  jr : Jr K ent hs L m
  ok : KOK K m
  zero : ∃ h0, (hs ++ [m])[0]? = some h0 ∧ EqM h0 []
theorem SB.start {K : MK} {ent : KV → Value → Ent} : SB K ent [] [] [] := ⟨Jr.nil [], KOK.nil, [], rfl, EqM.refl _⟩
def okA (a : A4) : Prop := (Lit.int .i64 a.2.2.1).wf = true
theorem SB.act {K : MK} (I : IntK K) {ent : KV → Value → Ent} {hs : List KV} {L : List Ent} {m : KV} (h : SB K ent hs L m) (k key v : Int) (hv : (Lit.int .i64 v).wf = true) :
    ∃ hs', SB K ent (hs ++ hs') (actD ent (m, L) k key v).2 (actD ent (m, L) k key v).1 ∧ (hs ++ hs' ++ [(actD ent (m, L) k key v).1])[hs.length]? = some m := by
  have zero : ∀ m' : KV, ∃ h0, (hs ++ [m] ++ [m'])[0]? = some h0 ∧ EqM h0 [] := fun m' => by
    obtain ⟨h0, a, b⟩ := h.zero
    exact ⟨h0, by rw [List.getElem?_append_left (by simp)]; exact a, b⟩
  have at_ : ∀ m' : KV, (hs ++ [m] ++ [m'])[hs.length]? = some m := fun m' => by rw [List.append_assoc, List.getElem?_append_right (Nat.le_refl _)]; simp
  unfold actD
  split
  · split
    · obtain ⟨j, o⟩ := h.jr.del h.ok (I.k key)
      exact ⟨[m], ⟨j, o, zero _⟩, at_ _⟩
    · exact ⟨[], by rw [List.append_nil]; exact h, by simp⟩
  · obtain ⟨j, o⟩ := h.jr.set h.ok (I.k key) (I.v v hv)
    exact ⟨[m], ⟨j, o, zero _⟩, at_ _⟩
theorem SB.doD {K : MK} (I : IntK K) {ent : KV → Value → Ent} : ∀ {l : List A4} {hs : List KV} {L : List Ent} {m : KV} (_ : SB K ent hs L m) (_ : ∀ a ∈ l, okA a),
    ∃ hs', SB K ent (hs ++ hs') (doD ent l (m, L)).2 (doD ent l (m, L)).1 ∧ (hs ++ hs' ++ [(doD ent l (m, L)).1])[hs.length]? = some m
  | [], hs, L, m, h, _ => ⟨[], by rw [List.append_nil]; exact h, by show (hs ++ [] ++ [m])[hs.length]? = _; simp⟩
  | a :: l, hs, L, m, h, ho => by
    obtain ⟨h1, s1, e1⟩ := h.act I a.1 a.2.1 a.2.2.1 (ho a (List.mem_cons_self ..))
    obtain ⟨h2, s2, e2⟩ := SB.doD (l := l) I s1 fun b hb => ho b (List.mem_cons_of_mem _ hb)
    refine ⟨h1 ++ h2, by rw [← List.append_assoc]; exact s2, ?_⟩
    rw [← List.append_assoc]
    have hlt : hs.length < (hs ++ h1 ++ [(actD ent (m, L) a.1 a.2.1 a.2.2.1).1]).length := by simp
    cases h1 with
    | nil =>
      simp only [List.append_nil] at e1 e2 ⊢
      have e3 : (actD ent (m, L) a.1 a.2.1 a.2.2.1).1 = m := by simpa using e1
      exact e2.trans (congrArg some e3)
    | cons x h1 =>
      simp only [List.append_assoc] at e1 ⊢
      rw [List.getElem?_append_right (Nat.le_refl _), Nat.sub_self] at e1 ⊢
      simpa using e1
theorem SB.back {K : MK} {ent : KV → Value → Ent} {b : Nat} (E : EntOK b ent) {hs : List KV} {L : List Ent} {m : KV} (h : SB K ent hs L m) {n : Nat} (hn : n ≤ L.length) {h0 : KV} (h1 : (hs ++ [m])[n]? = some h0) :
    SB K ent (hs.take n) (L.take n) (undoB b (L.drop n) m) ∧ EqM (undoB b (L.drop n) m) h0 := by
  obtain ⟨k1, k2, k3⟩ := h.jr.back E h.ok hn h1
  refine ⟨⟨k3, k1, ?_⟩, k2⟩
  obtain ⟨z, z1, z2⟩ := h.zero
  cases n with
  | zero =>
    rw [z1] at h1
    injection h1 with h1
    exact ⟨_, by simp, k2.trans (h1 ▸ z2)⟩
  | succ n =>
    refine ⟨z, ?_, z2⟩
    have hl : 0 < hs.length := by rw [h.jr.1]; omega
    rw [List.getElem?_append_left (by simp only [List.length_take]; omega)]
    rw [List.getElem?_append_left hl] at z1
    rw [List.getElem?_take_of_lt (Nat.succ_pos n)]
    exact z1
/-- Maps that are alike stay alike, and their journals grow alike. -/
theorem actD_rel {ent ent' : KV → Value → Ent} {s t : KV × List Ent} (hs : MOK s.1) (ht : MOK t.1) (e : EqM s.1 t.1) (k key v : Int) :
    EqM (actD ent s k key v).1 (actD ent' t k key v).1 ∧ (actD ent s k key v).2.length + t.2.length = (actD ent' t k key v).2.length + s.2.length := by
  unfold actD
  rw [e (iv key)]
  split
  · split
    · exact ⟨e.del hs ht _, by simp; omega⟩
    · exact ⟨e, by omega⟩
  · exact ⟨e.set _ _, by simp; omega⟩
theorem doD_rel {ent ent' : KV → Value → Ent} : ∀ (l : List A4) {s t : KV × List Ent} (_ : MOK s.1) (_ : MOK t.1) (_ : EqM s.1 t.1),
    EqM (doD ent l s).1 (doD ent' l t).1 ∧ (doD ent l s).2.length + t.2.length = (doD ent' l t).2.length + s.2.length
  | [], s, t, _, _, e => ⟨e, by show s.2.length + t.2.length = t.2.length + s.2.length; omega⟩
  | a :: l, s, t, hs, ht, e => by
    obtain ⟨e1, n1⟩ := actD_rel (ent := ent) (ent' := ent') hs ht e a.1 a.2.1 a.2.2.1
    obtain ⟨e2, n2⟩ := doD_rel (ent := ent) (ent' := ent') l (actD_len s a.1 a.2.1 a.2.2.1 hs).2.2 (actD_len t a.1 a.2.1 a.2.2.1 ht).2.2 e1
    exact ⟨e2, by simp only [doD, List.foldl_cons] at n2 ⊢; omega⟩
end Go.Sx

namespace Go.Sx
open Go.RowKit
theorem eq_p2 {P : Program} {t e : TypeId} {f0 f1 : Field} (ht : P.underlying t = some (.struct (P.fieldsOf t))) (hp : P.stoodInHeld t = false) (he : P.underlying e = some (.int .i64)) (ha : ∀ w, (isAgg e).run P w = .ok false w)
    (hf : (P.fieldsOf t).toList = [f0, f1]) (n0 : f0.name ≠ "_") (t0 : f0.type = e) (o0 : f0.offset = 0) (n1 : f1.name ≠ "_") (t1 : f1.type = e) (o1 : f1.offset = 1) (x y : Int × Int) (w : World) :
    (Op.equalIn 10000 t (p2V x) (p2V y)).run P w = .ok (decide (x = y)) w := by
  have hi : ∀ a b, (Op.equalIn 9999 e (.int .i64 a) (.int .i64 b)).run P w = .ok (a == b) w := fun a b => run_equalIn_int w 9998 e .i64 .i64 a b he
  have p0 : ∀ z : Int × Int, (part e #[.int .i64 z.1, .int .i64 z.2] 0).run P w = .ok (.int .i64 z.1) w := fun z => run_part1 w ha rfl
  have p1 : ∀ z : Int × Int, (part e #[.int .i64 z.1, .int .i64 z.2] 1).run P w = .ok (.int .i64 z.2) w := fun z => run_part1 w ha rfl
  rw [show (10000 : Nat) = 9999 + 1 from rfl, run_equalIn_struct w 9999 t _ _ ht hp, hf]
  simp only [Op.eqFields, n0, n1, t0, t1, o0, o1, ne_eq, not_false_eq_true, if_true, Sem.run_bind, p0, p1, hi, Result.andThen_ok]
  obtain ⟨x1, x2⟩ := x
  obtain ⟨y1, y2⟩ := y
  have q : ∀ a b : Int, (part e #[.int .i64 a, .int .i64 b] 1).run P w = .ok (.int .i64 b) w := fun a b => p1 (a, b)
  by_cases h1 : x1 = y1
  · by_cases h2 : x2 = y2 <;> simp [h1, h2, Sem.run_bind, q, hi]
  · simp [h1]
theorem xne_p2 {P : Program} {t e : TypeId} {f0 f1 : Field} (hg : P.eqGuardType P.depth t = false) (ht : P.underlying t = some (.struct (P.fieldsOf t))) (hp : P.stoodInHeld t = false) (he : P.underlying e = some (.int .i64)) (ha : ∀ w, (isAgg e).run P w = .ok false w)
    (hf : (P.fieldsOf t).toList = [f0, f1]) (n0 : f0.name ≠ "_") (t0 : f0.type = e) (o0 : f0.offset = 0) (n1 : f1.name ≠ "_") (t1 : f1.type = e) (o1 : f1.offset = 1) (x y : Int × Int) : PureRun P (xBin .neq t (p2V x) (p2V y)) (.bool (!decide (x = y))) := by
  intro w
  have h := eq_p2 ht hp he ha hf n0 t0 o0 n1 t1 o1 x y w
  have g : (eqGuard .neq t (.const (p2V x)) (.const (p2V y)) (p2V x) (p2V y)).run P w = .ok () w := run_eqGuard_agg (w := w) .neq t _ _ _ _ hg
  have q : (binOp .neq t (p2V x) (p2V y)).run P w = .ok (.bool (!decide (x = y))) w := by
    rw [run_neq_struct, h]; rfl
  simp [xBin, Sem.run_bind, g, q]
theorem pairs_shape {K : MK} (I : IntK K) {m : KV} (hk : KOK K m) {l : List Value} (hx : KeysOf .i64 m l) {g : RK 2} (hg : vals g.1 = pairsOf (iv 0) m l) {i : Nat} (hi : i < (vals g.1).length) : ∃ x0, (vals g.1)[i]? = some (p2V x0) := by
  rw [hg, pairs_len] at hi
  obtain ⟨z, hz⟩ := int_at hx.2.2 hi
  obtain ⟨w, _, hw⟩ := I.v' _ (kok_val hk (z := iv 0) (I.v 0 rfl) (iv z))
  refine ⟨(z, w), ?_⟩
  rw [hg]
  unfold pairsOf
  rw [List.getElem?_map, hz, Option.map_some]
  show some (Value.agg #[iv z, (mget m (iv z)).getD (iv 0)]) = _
  rw [hw]
theorem p2V_inj {x y : Int × Int} (h : p2V x = p2V y) : x = y := by
  obtain ⟨a, b⟩ := x
  obtain ⟨c, d⟩ := y
  simp [p2V] at h
  exact Prod.ext h.1 h.2
/-! ### What a slice of the caller's holds, as a function -/
theorem SlX.uniq {P : Program} {t : TypeId} {X : Type} {w : World} {n : Nat} {val : X → Value} {Ok : X → Prop} {v : Value} (K : ElK P t n val Ok) {xs ys : List X} (h1 : SlX w n val Ok v xs) (h2 : SlX w n val Ok v ys) : xs = ys := by
  have hl : xs.length = ys.length := by rw [← h1.vlen, ← h2.vlen]
  apply List.ext_getElem hl
  intro i hi hj
  obtain ⟨ox, a, len, cap, e1, _, c1⟩ := h1.at (List.getElem?_eq_getElem hi)
  obtain ⟨oy, a', len', cap', e2, _, c2⟩ := h2.at (List.getElem?_eq_getElem hj)
  rw [e1] at e2
  injection e2 with e2
  injection e2 with e2
  subst e2
  refine K.inj _ _ ox oy ?_
  have k1 := K.len xs[i]
  have k2 := K.len ys[i]
  apply List.ext_getElem?
  intro j
  rcases Nat.lt_or_ge j n with q | q
  · have g1 := c1 j _ (List.getElem?_eq_getElem (by omega))
    have g2 := c2 j _ (List.getElem?_eq_getElem (by omega))
    rw [g1] at g2
    rw [List.getElem?_eq_getElem (by omega), List.getElem?_eq_getElem (by omega)]
    exact g2
  · rw [List.getElem?_eq_none (by omega), List.getElem?_eq_none (by omega)]
open Classical in
noncomputable def rdSl {X : Type} (n : Nat) (val : X → Value) (Ok : X → Prop) (s : Slot) (v : Value) : List X := if h : ∃ xs, SlX (swld s) n val Ok v xs then h.choose else []
theorem rdSl_eq {P : Program} {t : TypeId} {X : Type} {w : World} {n : Nat} {val : X → Value} {Ok : X → Prop} {v : Value} (K : ElK P t n val Ok) {xs : List X} (h : SlX w n val Ok v xs) : rdSl n val Ok (old w) v = xs := by
  unfold rdSl
  have hx : ∃ xs, SlX (swld (old w)) n val Ok v xs := ⟨xs, h⟩
  rw [dif_pos hx]
  exact SlX.uniq K hx.choose_spec h
end Go.Sx

namespace Go.Sx
open Go.RowKit
abbrev BT := (Nat → Int) × Bool
def bV (x : BT) : Value := .agg #[.int .u32 (x.1 0), .int .u64 (x.1 1), .int .u64 (x.1 2),
  .int .u8 (x.1 3), .int .u8 (x.1 4), .int .u8 (x.1 5), .int .u8 (x.1 6), .int .u8 (x.1 7), .int .u8 (x.1 8), .int .u8 (x.1 9), .int .u8 (x.1 10),
  .int .u8 (x.1 11), .int .u8 (x.1 12), .int .u8 (x.1 13), .int .u8 (x.1 14), .int .u8 (x.1 15), .int .u8 (x.1 16), .int .u8 (x.1 17), .int .u8 (x.1 18),
  .int .u8 (x.1 19), .int .u8 (x.1 20), .int .u8 (x.1 21), .int .u8 (x.1 22), .int .u8 (x.1 23), .int .u8 (x.1 24), .int .u8 (x.1 25), .int .u8 (x.1 26),
  .int .u8 (x.1 27), .int .u8 (x.1 28), .int .u8 (x.1 29), .int .u8 (x.1 30), .int .u8 (x.1 31), .int .u8 (x.1 32), .int .u8 (x.1 33), .int .u8 (x.1 34),
  .int .u8 (x.1 35), .int .u64 (x.1 36), .int .u64 (x.1 37), .int .u64 (x.1 38), .int .u64 (x.1 39), .int .u64 (x.1 40), .bool x.2]
def fnL (l : List Int) : Nat → Int := fun i => l.getD i 0
structure okB (x : BT) : Prop where
  n : (Lit.int .u32 (x.1 0)).wf = true
  fr : (Lit.int .u64 (x.1 1)).wf = true
  to : (Lit.int .u64 (x.1 2)).wf = true
  bl : (Lit.int .u64 (x.1 40)).wf = true
  rest : ∀ i, 41 ≤ i → x.1 i = 0
theorem fnL_rest {l : List Int} (h : l.length = 41) (i : Nat) (hi : 41 ≤ i) : fnL l i = 0 := by unfold fnL; rw [List.getD_eq_getElem?_getD, List.getElem?_eq_none (by omega)]; rfl
def b0 : BT := (fun _ => 0, false)
theorem okB0 : okB b0 := ⟨rfl, rfl, rfl, rfl, fun _ _ => rfl⟩
/-- The number at a cell, whatever kind. -/
def cAt (v : Value) (i : Nat) : Int := ci (cell v i)
def unB (v : Value) : BT := (fun i => bif Nat.blt i 41 then cAt v i else 0, cb (cell v 41))
theorem bV_un (x : BT) : bV (unB (bV x)) = bV x := rfl
theorem bV_i {x y : BT} (h : bV x = bV y) (i : Nat) (hi : i < 41) : x.1 i = y.1 i := by
  have h1 := congrArg (fun v => cAt v i) h
  have : ∀ z : BT, cAt (bV z) i = z.1 i := by
    intro z
    have hi' : i = 0 ∨ i = 1 ∨ i = 2 ∨ i = 3 ∨ i = 4 ∨ i = 5 ∨ i = 6 ∨ i = 7 ∨ i = 8 ∨ i = 9 ∨ i = 10 ∨ i = 11 ∨ i = 12 ∨ i = 13 ∨ i = 14 ∨ i = 15 ∨ i = 16 ∨ i = 17 ∨ i = 18 ∨ i = 19 ∨ i = 20 ∨ i = 21 ∨ i = 22 ∨ i = 23 ∨ i = 24 ∨ i = 25 ∨ i = 26 ∨ i = 27 ∨ i = 28 ∨ i = 29 ∨ i = 30 ∨ i = 31 ∨ i = 32 ∨ i = 33 ∨ i = 34 ∨ i = 35 ∨ i = 36 ∨ i = 37 ∨ i = 38 ∨ i = 39 ∨ i = 40 := by omega
    rcases hi' with rfl | rfl | rfl | rfl | rfl | rfl | rfl | rfl | rfl | rfl | rfl | rfl | rfl | rfl | rfl | rfl | rfl | rfl | rfl | rfl | rfl | rfl | rfl | rfl | rfl | rfl | rfl | rfl | rfl | rfl | rfl | rfl | rfl | rfl | rfl | rfl | rfl | rfl | rfl | rfl | rfl <;> rfl
  rw [← this x, ← this y]; exact h1
theorem unB_bV {x : BT} (h : okB x) : unB (bV x) = x := by
  refine Prod.ext (funext fun i => ?_) rfl
  rcases Nat.lt_or_ge i 41 with q | q
  · exact bV_i (bV_un x) i q
  · show (bif Nat.blt i 41 then cAt (bV x) i else 0) = x.1 i
    have : Nat.blt i 41 = false := by
      cases h : Nat.blt i 41 with
      | false => rfl
      | true => rw [Nat.blt_eq] at h; omega
    rw [this, h.rest i q]; rfl
theorem bV_inj {x y : BT} (hx : okB x) (hy : okB y) (h : bV x = bV y) : x = y := by rw [← unB_bV hx, h, unB_bV hy]
theorem bV_b {x y : BT} (h : bV x = bV y) : x.2 = y.2 := congrArg (fun v => cb (cell v 41)) h
theorem bV_Ag (x : BT) : Ag 42 (bV x) := ⟨_, rfl, rfl⟩
theorem bV_one (x : BT) : ∀ u ∈ (bV x).cells.toList, u.oneCell' = true := List.all_eq_true.1 rfl
end Go.Sx

namespace Go.Sx
open Go.RowKit
theorem eqFields_self {P : Program} (w : World) (d : Nat) (xs : Array Value) : ∀ (fs : List Field), (∀ f ∈ fs, f.name ≠ "_" ∧ ∃ a, (part f.type xs f.offset).run P w = .ok a w ∧ (Op.equalIn d f.type a a).run P w = .ok true w) → (Op.eqFields d xs xs fs).run P w = .ok true w
  | [], _ => by simp [Op.eqFields]
  | f :: fs, h => by
    obtain ⟨hn, a, h1, h2⟩ := h f (List.mem_cons_self ..)
    have ih := eqFields_self w d xs fs fun g hg => h g (List.mem_cons_of_mem _ hg)
    simp only [Op.eqFields, hn, ne_eq, not_false_eq_true, if_true, Sem.run_bind, h1, h2, Result.andThen_ok, Bool.not_true, Bool.false_eq_true, if_false]
    exact ih
theorem self_int {P : Program} {e : TypeId} {k : IntKind} {d off : Nat} {xs : Array Value} {n : Int} (w : World) (he : P.underlying e = some (.int k)) (ha : ∀ w, (isAgg e).run P w = .ok false w) (hx : xs[off]? = some (.int k n)) :
    ∃ a, (part e xs off).run P w = .ok a w ∧ (Op.equalIn (d + 1) e a a).run P w = .ok true w :=
  ⟨_, run_part1 w ha hx, by rw [run_equalIn_int w d e k k n n he]; simp⟩
theorem self_bool {P : Program} {e : TypeId} {d off : Nat} {xs : Array Value} {b : Bool} (w : World) (he : P.underlying e = some .bool) (ha : ∀ w, (isAgg e).run P w = .ok false w) (hx : xs[off]? = some (.bool b)) :
    ∃ a, (part e xs off).run P w = .ok a w ∧ (Op.equalIn (d + 1) e a a).run P w = .ok true w :=
  ⟨_, run_part1 w ha hx, by rw [run_equalIn_bool w d e b b he]; simp⟩
theorem self_arr {P : Program} {t e : TypeId} {k : IntKind} {d n off : Nat} {xs : Array Value} (l : List Int) (w : World) (ht : P.underlying t = some (.array n e)) (he : P.underlying e = some (.int k)) (ha : ∀ w, (isAgg e).run P w = .ok false w) (hsz : ∀ w, (sizeOf e).run P w = .ok 1 w)
    (hat : ∀ w, (isAgg t).run P w = .ok true w) (hst : ∀ w, (sizeOf t).run P w = .ok n w) (hl : l.length = n) (hx : xs.extract off (off + n) = arrV k l) :
    ∃ a, (part t xs off).run P w = .ok a w ∧ (Op.equalIn (d + 2) t a a).run P w = .ok true w :=
  ⟨.agg (arrV k l), by simp [part, Sem.run_bind, hat, hst, hx], by rw [eq_arrn w d ht he ha hsz l l hl hl]; simp⟩
structure BTy (P : Program) (t : TypeId) (e32 e64 eh e8 ei eb : TypeId) : Prop where
  und : P.underlying t = some (.struct (P.fieldsOf t))
  plain : P.stoodInHeld t = false
  guard : P.eqGuardType P.depth t = false
  fs : ∃ f0 f1 f2 f3 f4 f5 f6 f7, (P.fieldsOf t).toList = [f0, f1, f2, f3, f4, f5, f6, f7] ∧ (f0.name ≠ "_" ∧ f1.name ≠ "_" ∧ f2.name ≠ "_" ∧ f3.name ≠ "_" ∧ f4.name ≠ "_" ∧ f5.name ≠ "_" ∧ f6.name ≠ "_" ∧ f7.name ≠ "_") ∧
    (f0.type = e32 ∧ f1.type = e64 ∧ f2.type = e64 ∧ f3.type = eh ∧ f4.type = e8 ∧ f5.type = ei ∧ f6.type = e64 ∧ f7.type = eb) ∧ (f0.offset = 0 ∧ f1.offset = 1 ∧ f2.offset = 2 ∧ f3.offset = 3 ∧ f4.offset = 35 ∧ f5.offset = 36 ∧ f6.offset = 40 ∧ f7.offset = 41)
  u32 : P.underlying e32 = some (.int .u32)
  u64 : P.underlying e64 = some (.int .u64)
  u8 : P.underlying e8 = some (.int .u8)
  uh : P.underlying eh = some (.array 32 e8)
  ui : P.underlying ei = some (.array 4 e64)
  ub : P.underlying eb = some .bool
  a32 : ∀ w, (isAgg e32).run P w = .ok false w
  a64 : ∀ w, (isAgg e64).run P w = .ok false w
  a8 : ∀ w, (isAgg e8).run P w = .ok false w
  ab : ∀ w, (isAgg eb).run P w = .ok false w
  ah : ∀ w, (isAgg eh).run P w = .ok true w
  ai : ∀ w, (isAgg ei).run P w = .ok true w
  s64 : ∀ w, (sizeOf e64).run P w = .ok 1 w
  s8 : ∀ w, (sizeOf e8).run P w = .ok 1 w
  sh : ∀ w, (sizeOf eh).run P w = .ok 32 w
  si : ∀ w, (sizeOf ei).run P w = .ok 4 w
theorem eqB_self {P : Program} {t e32 e64 eh e8 ei eb : TypeId} (T : BTy P t e32 e64 eh e8 ei eb) (x : BT) (w : World) : (Op.equalIn 10000 t (bV x) (bV x)).run P w = .ok true w := by
  obtain ⟨f0, f1, f2, f3, f4, f5, f6, f7, hf, ⟨n0, n1, n2, n3, n4, n5, n6, n7⟩, ⟨t0, t1, t2, t3, t4, t5, t6, t7⟩, ⟨o0, o1, o2, o3, o4, o5, o6, o7⟩⟩ := T.fs
  show (Op.equalIn (9999 + 1) t (.agg (bV x).cells) (.agg (bV x).cells)).run P w = _
  rw [run_equalIn_struct w 9999 t _ _ T.und T.plain, hf]
  refine eqFields_self w 9999 _ _ fun f hm => ?_
  simp only [List.mem_cons, List.not_mem_nil, or_false] at hm
  rcases hm with rfl | rfl | rfl | rfl | rfl | rfl | rfl | rfl
  · rw [t0, o0]; exact ⟨n0, self_int (d := 9998) w T.u32 T.a32 rfl⟩
  · rw [t1, o1]; exact ⟨n1, self_int (d := 9998) w T.u64 T.a64 rfl⟩
  · rw [t2, o2]; exact ⟨n2, self_int (d := 9998) w T.u64 T.a64 rfl⟩
  · rw [t3, o3]; exact ⟨n3, self_arr (d := 9997) ((List.range 32).map fun i => x.1 (3 + i)) w T.uh T.u8 T.a8 T.s8 T.ah T.sh (by simp) (by kernel_rfl)⟩
  · rw [t4, o4]; exact ⟨n4, self_int (d := 9998) w T.u8 T.a8 rfl⟩
  · rw [t5, o5]; exact ⟨n5, self_arr (d := 9997) ((List.range 4).map fun i => x.1 (36 + i)) w T.ui T.u64 T.a64 T.s64 T.ai T.si (by simp) (by kernel_rfl)⟩
  · rw [t6, o6]; exact ⟨n6, self_int (d := 9998) w T.u64 T.a64 rfl⟩
  · rw [t7, o7]; exact ⟨n7, self_bool (d := 9998) w T.ub T.ab rfl⟩
theorem xeqB_self {P : Program} {t e32 e64 eh e8 ei eb : TypeId} (T : BTy P t e32 e64 eh e8 ei eb) (x y : BT) (h : bV x = bV y) : PureRun P (xBin .eql t (bV x) (bV y)) (.bool true) := by
  intro w
  rw [← h]
  have g : (eqGuard .eql t (.const (bV x)) (.const (bV x)) (bV x) (bV x)).run P w = .ok () w := run_eqGuard_agg (w := w) .eql t _ _ _ _ T.guard
  have q : (binOp .eql t (bV x) (bV x)).run P w = .ok (.bool true) w := by
    show (binOp .eql t (.agg (bV x).cells) (.agg (bV x).cells)).run P w = _
    rw [run_eql_struct]
    show ((Op.equalIn 10000 t (bV x) (bV x)).run P w).andThen _ = _
    rw [eqB_self T]; rfl
  simp [xBin, Sem.run_bind, g, q]
theorem xneB_self {P : Program} {t e32 e64 eh e8 ei eb : TypeId} (T : BTy P t e32 e64 eh e8 ei eb) (x y : BT) (h : bV x = bV y) : PureRun P (xBin .neq t (bV x) (bV y)) (.bool false) := by
  intro w
  rw [← h]
  have g : (eqGuard .neq t (.const (bV x)) (.const (bV x)) (bV x) (bV x)).run P w = .ok () w := run_eqGuard_agg (w := w) .neq t _ _ _ _ T.guard
  have q : (binOp .neq t (bV x) (bV x)).run P w = .ok (.bool false) w := by
    show (binOp .neq t (.agg (bV x).cells) (.agg (bV x).cells)).run P w = _
    rw [run_neq_struct]
    show ((Op.equalIn 10000 t (bV x) (bV x)).run P w).andThen _ = _
    rw [eqB_self T]; rfl
  simp [xBin, Sem.run_bind, g, q]
end Go.Sx

namespace Go.Sx
open Go.RowKit
open Classical in
noncomputable def srt (kk : IntKind) (m : KV) : List Value := if h : ∃ ks, KeysOf kk m ks then h.choose else []
theorem srt_eq {kk : IntKind} {m : KV} (hm : MOK m) {ks : List Value} (h : KeysOf kk m ks) : srt kk m = ks := by
  unfold srt
  have hx : ∃ ks, KeysOf kk m ks := ⟨ks, h⟩
  rw [dif_pos hx]
  exact keys_eq hm hm (EqM.refl _) hx.choose_spec h
theorem srt_keys {kk : IntKind} {m : KV} (hi : IntKeys kk m) : KeysOf kk m (srt kk m) := by
  obtain ⟨z, hz⟩ := keysOf_wit hi.1 hi.2
  have h : KeysOf kk m (vals z) := hz
  rw [srt_eq hi.2 h]; exact h
/-- The batches that stand, in order. -/
noncomputable def allB (m : KV) : List BT := (srt .u32 m).map fun k => unB ((mget m k).getD (bV b0))
noncomputable def lastB (m : KV) : BT := (allB m).getLastD b0
def openB (w b a : Int) : Bool := decide (a < b + w)
structure KB (K : MK) : Prop where
  k : ∀ v, K.OkK v → ∃ n : Int, v = .int .u32 n
  k' : ∀ n : Int, K.OkK (.int .u32 n)
  v : ∀ x, K.OkV x → ∃ y, okB y ∧ x = bV y
  v' : ∀ y, okB y → K.OkV (bV y)
theorem KB.int {K : MK} (B : KB K) {m : KV} (h : KOK K m) : IntKeys .u32 m := ⟨fun v hv => by
  obtain ⟨e, he, rfl⟩ := List.mem_map.1 hv
  exact B.k _ (h.ok e he).1, h.once⟩
theorem KB.get {K : MK} (B : KB K) {m : KV} (h : KOK K m) (k : Value) : ∃ y, okB y ∧ (mget m k).getD (bV b0) = bV y := B.v _ (kok_val h (B.v' _ okB0) k)
theorem KB.un {K : MK} (B : KB K) {m : KV} (h : KOK K m) (k : Value) : bV (unB ((mget m k).getD (bV b0))) = (mget m k).getD (bV b0) ∧ okB (unB ((mget m k).getD (bV b0))) := by
  obtain ⟨y, hy, e⟩ := B.get h k
  rw [e, unB_bV hy]; exact ⟨rfl, hy⟩
/-- What the iterator tells of the keys, one behind the other. -/
noncomputable def rowB (m : KV) (l : List Value) : List Value := l.map fun k => (mget m k).getD (bV b0)
theorem rowB_take {m : KV} {l : List Value} {i : Nat} (h : i < l.length) : rowB m (l.take (i + 1)) = rowB m (l.take i) ++ [(mget m (l.getD i undef)).getD (bV b0)] := by
  unfold rowB
  rw [List.take_add_one, List.getElem?_eq_getElem h, List.map_append, List.getD_eq_getElem?_getD, List.getElem?_eq_getElem h]; rfl
theorem rowB_all {K : MK} (B : KB K) {m : KV} (h : KOK K m) {l : List Value} (hl : KeysOf .u32 m l) : rowB m l = (allB m).map bV := by
  unfold rowB allB
  rw [srt_eq h.once hl, List.map_map]
  exact List.map_congr_left fun k _ => ((B.un h k).1).symm
theorem allB_ok {K : MK} (B : KB K) {m : KV} (h : KOK K m) : ∀ b ∈ allB m, okB b := by
  intro b hb
  obtain ⟨k, _, rfl⟩ := List.mem_map.1 hb
  exact (B.un h k).2
theorem allB_len {K : MK} (B : KB K) {m : KV} (h : KOK K m) : (allB m).length = m.length := by
  unfold allB
  rw [List.length_map, (srt_keys (B.int h)).len]
theorem wit_rows (l : List BT) : ∃ y : RK 42, (fun y : RK 42 => vals y.1 = l.map bV) y :=
  ⟨⟨.mk 0 (l.map bV) [], fun v hv => by
    simp only [List.append_nil] at hv
    obtain ⟨b, _, rfl⟩ := List.mem_map.1 hv
    exact bV_Ag b⟩, rfl⟩
theorem wit_rowB {K : MK} (B : KB K) {m : KV} (h : KOK K m) (l : List Value) : ∃ y : RK 42, (fun y : RK 42 => vals y.1 = rowB m l) y :=
  ⟨⟨.mk 0 (rowB m l) [], fun v hv => by
    simp only [List.append_nil] at hv
    obtain ⟨k, _, rfl⟩ := List.mem_map.1 hv
    obtain ⟨y, _, e⟩ := B.get h k
    rw [e]; exact bV_Ag y⟩, rfl⟩
theorem lastB_ok {K : MK} (B : KB K) {m : KV} (h : KOK K m) : okB (lastB m) := by
  unfold lastB
  cases hl : (allB m).getLast? with
  | none => rw [List.getLastD_eq_getLast?, hl]; exact okB0
  | some b => rw [List.getLastD_eq_getLast?, hl]; exact allB_ok B h b (List.mem_of_getLast? hl)
/-- A post: the answer, the error's number, both maps. -/
noncomputable def postB (m p : KV) (to : Int) (r : Nat → Int) (poster : Int) (h : Nat → Int) (block : Int) : (BT × Int) × KV × KV :=
  if 16 ≤ poster ∨ 1099511627776 < block then ((b0, 1), m, p)
  else if to < (lastB m).1 2 ∨ block < (lastB m).1 40 then ((b0, 11), m, p)
  else if ci ((mget p (.int .u8 0)).getD (.int .u32 0)) = 4294967295 then ((b0, 7), m, p)
  else
    let n := ci ((mget p (.int .u8 0)).getD (.int .u32 0))
    let b : BT := (fnL [n, (lastB m).1 2, to, r 0, r 1, r 2, r 3, r 4, r 5, r 6, r 7, r 8, r 9, r 10, r 11, r 12, r 13, r 14, r 15, r 16, r 17, r 18, r 19, r 20, r 21, r 22, r 23, r 24, r 25, r 26, r 27, r 28, r 29, r 30, r 31, poster, h 0, h 1, h 2, h 3, block], false)
    ((b, 0), mset m (.int .u32 n) (bV b), mset p (.int .u8 0) (.int .u32 (n + 1)))
/-- Made final: the answer, the error's number, the map. -/
noncomputable def finB (m : KV) (w a : Int) : (BT × Int) × KV :=
  match (allB m).find? fun b => !b.2 with
  | none => ((b0, 10), m)
  | some b => if openB w (b.1 40) a then ((b0, 15), m) else (((b.1, true), 0), mset m (.int .u32 (b.1 0)) (bV (b.1, true)))
/-- Covered? -/
noncomputable def covB (m : KV) (n i : Int) : Int :=
  let b := unB ((mget m (.int .u32 n)).getD (bV b0))
  if (mget m (.int .u32 n)).isSome = false then 10 else if b.2 = false then 11 else if b.1 2 ≤ i then 10 else 0
/-- All these keys are dropped. -/
noncomputable def dropB (m : KV) (l : List BT) : KV := l.foldl (fun m b => mdel m (.int .u32 (b.1 0))) m
/-- Reverted: those that go, the error's number, the map. -/
noncomputable def revB (m : KV) (w n a : Int) : (List BT × Int) × KV :=
  let b := unB ((mget m (.int .u32 n)).getD (bV b0))
  if (mget m (.int .u32 n)).isSome = false then (([], 10), m) else if b.2 = true then (([], 11), m) else if openB w (b.1 40) a = false then (([], 15), m)
  else (((allB m).filter fun b => !decide (b.1 0 < n), 0), dropB m ((allB m).filter fun b => !decide (b.1 0 < n)))
theorem dropB_take {m : KV} {l : List BT} {i : Nat} {b : BT} (h : l[i]? = some b) : dropB m (l.take (i + 1)) = mdel (dropB m (l.take i)) (.int .u32 (b.1 0)) := by
  unfold dropB
  rw [List.take_add_one, h, List.foldl_append]; rfl
/-- One batch alone. -/
theorem srt_one {n : Int} {v : Value} : srt .u32 [(.int .u32 n, v)] = [.int .u32 n] := by
  have hm : MOK [(Value.int .u32 n, v)] := by unfold MOK; simp
  exact srt_eq hm ⟨by simp, by unfold Rise; simp, fun x hx => by simp at hx; exact ⟨n, hx⟩⟩
theorem allB_one {n : Int} {b : BT} (hb : okB b) : allB [(.int .u32 n, bV b)] = [b] := by
  unfold allB
  rw [srt_one]
  have : mget [(Value.int .u32 n, bV b)] (.int .u32 n) = some (bV b) := by rw [mget_cons, if_pos rfl]
  simp [this, unB_bV hb]
theorem allB_nil : allB [] = [] := by
  unfold allB
  have : srt .u32 [] = [] := srt_eq MOK.nil ⟨List.Perm.refl _, List.Pairwise.nil, fun v h => by cases h⟩
  rw [this]; rfl
theorem mset_nil (k v : Value) : mset [] k v = [(k, v)] := by
  unfold mset; simp [mget_nil]
end Go.Sx

namespace Go.Sx
open Go.RowKit
theorem wfW {n : Int} (h : (Lit.int .u64 n).wf = true) : W n := wf_W h
def winB (wi : Int) : Int := if (if (1048576 : Int) < wi then (1048576 : Int) else wi) > (1 : Int) then (if (1048576 : Int) < wi then (1048576 : Int) else wi) else (1 : Int)
theorem winB_in (wi : Int) : 1 ≤ winB wi ∧ winB wi ≤ 1048576 := by unfold winB; split <;> split <;> omega
theorem imp_free1 {a : Slot} : Imp [a] [a, .free] := .same fun p hp => (sep_free (a := [a])).2 hp
theorem rows_at {r : RK 42} {l : List BT} (h : vals r.1 = l.map bV) {i : Nat} (hi : i < l.length) : ∃ x0, (vals r.1)[i]? = some (bV x0) :=
  ⟨l[i], by rw [h, List.getElem?_map, List.getElem?_eq_getElem hi]; rfl⟩
theorem lastB_nil {m : KV} (h : (allB m).length = 0) : lastB m = b0 := by
  unfold lastB; rw [List.eq_nil_of_length_eq_zero h]; rfl
theorem lastB_of {m : KV} {r : RK 42} (h : vals r.1 = (allB m).map bV) {i : Nat} (hi : i + 1 = (allB m).length) {x : BT} (hx : (vals r.1)[i]? = some (bV x)) : bV x = bV (lastB m) := by
  rw [h, List.getElem?_map] at hx
  unfold lastB
  rw [List.getLastD_eq_getLast?, List.getLast?_eq_getElem?]
  have : (allB m).length - 1 = i := by omega
  rw [this]
  cases hg : (allB m)[i]? with
  | none => rw [hg] at hx; cases hx
  | some b => rw [hg] at hx; injection hx with hx; exact hx.symm
theorem wit_rev {l : List BT} {e : Int} {m' : KV} (L : List Ent) (k : Nat) : ∃ zx : RK 42 × Int × KV × List Ent, (fun zx : RK 42 × Int × KV × List Ent => vals zx.1.1 = l.map bV ∧ (zx.2.1, zx.2.2.1) = (e, m') ∧ List.length zx.2.2.2 ≤ L.length + k) zx :=
  let ⟨y, hy⟩ := wit_rows l; ⟨(y, e, m', L), hy, rfl, Nat.le_add_right _ _⟩
theorem wf32 {n : Int} (h : (Lit.int .u32 n).wf = true) : 0 ≤ n ∧ n ≤ 4294967295 := by
  simp only [Lit.wf, Bool.and_eq_true, decide_eq_true_eq] at h
  exact h
theorem wf32' {n : Int} (h0 : 0 ≤ n) (h1 : n ≤ 4294967295) : (Lit.int .u32 n).wf = true := by
  simp only [Lit.wf, Bool.and_eq_true, decide_eq_true_eq]
  exact ⟨h0, h1⟩
theorem wrap32 {n : Int} (h0 : 0 ≤ n) (h1 : n ≤ 4294967295) : IntKind.u32.wrap n = n := by
  simp [IntKind.wrap, IntKind.bits, IntKind.signed]; omega
theorem find_at : ∀ {l : List BT} {i : Nat} {b : BT} (_ : ∀ j c, j < i → l[j]? = some c → c.2 = true) (_ : l[i]? = some b) (_ : b.2 = false), l.find? (fun b => !b.2) = some b
  | [], i, b, _, h, _ => by simp at h
  | a :: l, 0, b, _, h, hb => by
    simp at h; subst h
    simp [hb]
  | a :: l, i + 1, b, ha, h, hb => by
    have h0 : a.2 = true := ha 0 a (Nat.succ_pos _) rfl
    rw [List.find?_cons]
    simp only [h0, Bool.not_true]
    exact find_at (fun j c hj hc => ha (j + 1) c (Nat.succ_lt_succ hj) (by simpa using hc)) (by simpa using h) hb
theorem find_no {l : List BT} (h : ∀ j c, j < l.length → l[j]? = some c → c.2 = true) : l.find? (fun b => !b.2) = none := by
  rw [List.find?_eq_none]
  intro b hb
  obtain ⟨j, hj⟩ := List.getElem?_of_mem hb
  simp [h j b (List.getElem?_eq_some_iff.1 hj).1 hj]
theorem bV_t {x y : BT} (h : bV x = bV y) (t : Bool) : bV (x.1, t) = bV (y.1, t) := by
  have e : ∀ i, i < 41 → x.1 i = y.1 i := fun i hi => bV_i h i hi
  unfold bV
  simp only [e 0 (by decide), e 1 (by decide), e 2 (by decide), e 3 (by decide), e 4 (by decide), e 5 (by decide), e 6 (by decide), e 7 (by decide), e 8 (by decide), e 9 (by decide), e 10 (by decide), e 11 (by decide), e 12 (by decide), e 13 (by decide), e 14 (by decide), e 15 (by decide), e 16 (by decide), e 17 (by decide), e 18 (by decide), e 19 (by decide), e 20 (by decide), e 21 (by decide), e 22 (by decide), e 23 (by decide), e 24 (by decide), e 25 (by decide), e 26 (by decide), e 27 (by decide), e 28 (by decide), e 29 (by decide), e 30 (by decide), e 31 (by decide), e 32 (by decide), e 33 (by decide), e 34 (by decide), e 35 (by decide), e 36 (by decide), e 37 (by decide), e 38 (by decide), e 39 (by decide), e 40 (by decide)]
theorem row_el {r : RK 42} {l : List BT} (h : vals r.1 = l.map bV) {i : Nat} {x : BT} (hx : (vals r.1)[i]? = some (bV x)) : ∃ b, l[i]? = some b ∧ bV b = bV x := by
  rw [h, List.getElem?_map] at hx
  cases hl : l[i]? with
  | none => rw [hl] at hx; cases hx
  | some b => rw [hl] at hx; injection hx with hx; exact ⟨b, rfl, hx⟩
def F_getKO (k : Nat) {X : Type} (val : X → Value) (Ok : X → Prop) : List Value → List Slot → Ctr := fun vs hs => ⟨X, val, fun _ => hs, fun zx => rdK k (scells (sarg hs 0)) (voff (varg vs 0)) = val zx ∧ Ok zx⟩
theorem xgetKO {P : Program} {t e : TypeId} {k : Nat} {z : Value} (h : SkT P t e k z) {X : Type} (val : X → Value) (Ok : X → Prop) (r : RK k) (n : Nat) (hx : ∃ x0, (vals r.1)[n]? = some (val x0) ∧ Ok x0) :
    OpT P (do pure (.value (← Instr.loadAt e (.pointer (some ⟨vblk (sv r.1), n * k, none⟩))))) [sk e r.1] X val (fun _ => [sk e r.1]) (fun x => rdK k (scells (sk e r.1)) (n * k) = val x ∧ Ok x) := by
  obtain ⟨x0, hx, ho0⟩ := hx
  intro R w ho
  obtain ⟨_, w', _, hr, ho', he⟩ := xgetK h r n (val x0) hx R w ho
  exact ⟨x0, w', ⟨rdK_row r e hx, ho0⟩, hr, ho', he⟩
theorem wgetKO {e : TypeId} {k : Nat} {X : Type} {val : X → Value} {Ok : X → Prop} {r : RK k} {n : Nat} (hx : ∃ x0, (vals r.1)[n]? = some (val x0) ∧ Ok x0) : ∃ x, (fun x => rdK k (scells (sk e r.1)) (n * k) = val x ∧ Ok x) x :=
  let ⟨x0, h, h'⟩ := hx; ⟨x0, rdK_row r e h, h'⟩
theorem egetKO {e : TypeId} {k : Nat} {X : Type} {val : X → Value} {Ok : X → Prop} {r : RK k} {n : Nat} (hx : ∃ x0, (vals r.1)[n]? = some (val x0) ∧ Ok x0) {x : X} (h : rdK k (scells (sk e r.1)) (n * k) = val x ∧ Ok x) : (vals r.1)[n]? = some (val x) ∧ Ok x := by
  obtain ⟨x0, h0, _⟩ := hx
  exact ⟨by rw [← h.1, rdK_row r e h0]; exact h0, h.2⟩
theorem rows_ok {r : RK 42} {l : List BT} (h : vals r.1 = l.map bV) (ho : ∀ b ∈ l, okB b) {i : Nat} (hi : i < l.length) : ∃ x0, (vals r.1)[i]? = some (bV x0) ∧ okB x0 :=
  ⟨l[i], by rw [h, List.getElem?_map, List.getElem?_eq_getElem hi]; rfl, ho _ (List.getElem_mem hi)⟩
theorem row_is {r : RK 42} {l : List BT} (h : vals r.1 = l.map bV) (ho : ∀ b ∈ l, okB b) {i : Nat} {x : BT} (hx : (vals r.1)[i]? = some (bV x) ∧ okB x) : l[i]? = some x := by
  obtain ⟨b, h1, h2⟩ := row_el h hx.1
  rw [h1, bV_inj (ho b (List.mem_of_getElem? h1)) hx.2 h2]
theorem fin_step {l : List BT} {i : Nat} {x : BT} (h : ∀ j b, j < i → l[j]? = some b → b.2 = true) (hx : l[i]? = some x) (hf : x.2 = true) {j : Nat} {b : BT} (hj : j < i + 1) (hb : l[j]? = some b) : b.2 = true := by
  rcases Nat.lt_or_ge j i with q | q
  · exact h j b q hb
  · have : j = i := by omega
    subst this
    rw [hx] at hb; injection hb with hb; rw [← hb]; exact hf
theorem revB_filter {m : KV} {n : Int} (h : ∀ b ∈ allB m, ¬ (b.1 0 < n)) : (allB m).filter (fun b => !decide (b.1 0 < n)) = allB m :=
  List.filter_eq_self.2 fun b hb => by simpa using h b hb
theorem okB_fin {b : BT} (h : okB b) (t : Bool) : okB (b.1, t) := ⟨h.n, h.fr, h.to, h.bl, h.rest⟩
end Go.Sx

namespace Go.Sx
open Go.RowKit
def bP (to : Int) (r : Nat → Int) (poster : Int) (h : Nat → Int) (block : Int) : BT := (fnL [0, 0, to, r 0, r 1, r 2, r 3, r 4, r 5, r 6, r 7, r 8, r 9, r 10, r 11, r 12, r 13, r 14, r 15, r 16, r 17, r 18, r 19, r 20, r 21, r 22, r 23, r 24, r 25, r 26, r 27, r 28, r 29, r 30, r 31, poster, h 0, h 1, h 2, h 3, block], false)
theorem okBP {to : Int} {r : Nat → Int} {poster : Int} {h : Nat → Int} {block : Int} (h1 : (Lit.int .u64 to).wf = true) (h2 : (Lit.int .u64 block).wf = true) : okB (bP to r poster h block) := ⟨rfl, rfl, h1, h2, fnL_rest rfl⟩
theorem lastB_none : lastB [] = b0 := by unfold lastB; rw [allB_nil]; rfl
theorem postB_nil {to : Int} {r : Nat → Int} {poster : Int} {h : Nat → Int} {block : Int} (h1 : poster < 16) (h2 : block ≤ 1099511627776) (h3 : 0 ≤ to) (h4 : 0 ≤ block) :
    postB [] [] to r poster h block = ((bP to r poster h block, 0), [(.int .u32 0, bV (bP to r poster h block))], [(.int .u8 0, .int .u32 1)]) := by
  unfold postB
  rw [lastB_none, if_neg (by omega), if_neg (by show ¬ (to < 0 ∨ block < 0); omega)]
  have e : ci ((mget [] (Value.int .u8 0)).getD (.int .u32 0)) = 0 := rfl
  rw [e, if_neg (by omega)]
  simp only [mset_nil]
  rfl
theorem postB_far {m p : KV} {to : Int} {r : Nat → Int} {poster : Int} {h : Nat → Int} {block : Int} (h2 : 1099511627776 < block) : postB m p to r poster h block = ((b0, 1), m, p) := by
  unfold postB
  rw [if_pos (by omega)]
theorem kok_one {K : MK} (B : KB K) {n : Int} {b : BT} (hb : okB b) : KOK K [(.int .u32 n, bV b)] := by
  rw [← mset_nil]; exact KOK.nil.set (B.k' n) (B.v' b hb)
theorem finB_one {n : Int} {b : BT} (hb : okB b) (hf : b.2 = false) (hn : b.1 0 = n) (w a : Int) :
    finB [(.int .u32 n, bV b)] w a = if openB w (b.1 40) a then ((b0, 15), [(.int .u32 n, bV b)]) else (((b.1, true), 0), [(.int .u32 n, bV (b.1, true))]) := by
  have e : mset [(Value.int .u32 n, bV b)] (.int .u32 n) (bV (b.1, true)) = [(.int .u32 n, bV (b.1, true))] := by
    unfold mset; rw [mget_cons, if_pos rfl]; simp
  unfold finB
  rw [allB_one hb]
  simp only [List.find?_cons, hf, Bool.not_false]
  rw [hn, e]
theorem revB_one {n : Int} {b : BT} (hb : okB b) (hf : b.2 = false) (hn : b.1 0 = n) (w a : Int) :
    revB [(.int .u32 n, bV b)] w n a = if openB w (b.1 40) a then (([b], 0), []) else (([], 15), [(.int .u32 n, bV b)]) := by
  have e : mget [(Value.int .u32 n, bV b)] (.int .u32 n) = some (bV b) := by rw [mget_cons, if_pos rfl]
  have ed : mdel [(Value.int .u32 n, bV b)] (.int .u32 n) = [] := by unfold mdel; simp
  unfold revB
  rw [e, allB_one hb]
  simp only [Option.getD_some, unB_bV hb, hf, Option.isSome_some]
  cases ho : openB w (b.1 40) a
  · simp
  · simp [hn, dropB, ed]
theorem covB_one {n i : Int} {b : BT} (hb : okB b) (hf : b.2 = true) (hi : b.1 2 ≤ i) : covB [(.int .u32 n, bV b)] n i = 10 := by
  have e : mget [(Value.int .u32 n, bV b)] (.int .u32 n) = some (bV b) := by rw [mget_cons, if_pos rfl]
  unfold covB
  rw [e]
  simp [unB_bV hb, hf, hi]
theorem all_one {n : Int} {b : BT} (hb : okB b) (hn : b.1 0 = n) : ∀ c ∈ allB [(.int .u32 n, bV b)], ¬ (c.1 0 < n) := by
  intro c hc
  rw [allB_one hb] at hc
  simp at hc; subst hc; omega
/-- What a post of the first batch leaves. -/
structure One (K : MK) (m : KV) (b : BT) : Prop where
  ok : okB b
  n : b.1 0 = 0
  nf : b.2 = false
  eq : m = [(.int .u32 0, bV b)]
  k : KOK K m
theorem One.of {K : MK} (B : KB K) {x : BT × Int} {m p : KV} {to : Int} {r : Nat → Int} {poster : Int} {h : Nat → Int} {block : Int} (h1 : poster < 16) (h2 : block ≤ 1099511627776) (h3 : (Lit.int .u64 to).wf = true) (h4 : (Lit.int .u64 block).wf = true)
    (e : (x, m, p) = postB [] [] to r poster h block) : x = (bP to r poster h block, 0) ∧ One K m (bP to r poster h block) := by
  have q3 := wf64 h3
  have q4 := wf64 h4
  rw [postB_nil h1 h2 q3.1 q4.1] at e
  injection e with e1 e2
  injection e2 with e2 e3
  subst e2
  exact ⟨e1, ⟨okBP h3 h4, rfl, rfl, rfl, kok_one B (okBP h3 h4)⟩⟩
theorem One.len {K : MK} {m : KV} {b : BT} (o : One K m b) : m.length ≤ 1000 := by rw [o.eq]; simp
theorem One.all {K : MK} {m : KV} {b : BT} (o : One K m b) : allB m = [b] := by rw [o.eq]; exact allB_one o.ok
theorem One.fin {K : MK} {m : KV} {b : BT} (o : One K m b) (w a : Int) {x : (BT × Int)} {m' : KV} (e : (x, m') = finB m w a) : (openB w (b.1 40) a = true ∧ x = (b0, 15) ∧ m' = m) ∨ (openB w (b.1 40) a = false ∧ x = ((b.1, true), 0) ∧ m' = [(.int .u32 0, bV (b.1, true))]) := by
  rw [o.eq, finB_one o.ok o.nf o.n] at e
  cases ho : openB w (b.1 40) a with
  | true => rw [ho, if_pos rfl] at e; injection e with e1 e2; exact .inl ⟨rfl, e1, by rw [e2, o.eq]⟩
  | false => rw [ho, if_neg (by decide)] at e; injection e with e1 e2; exact .inr ⟨rfl, e1, e2⟩
theorem One.fin_t {K : MK} {m : KV} {b : BT} (o : One K m b) {w a : Int} {x : (BT × Int)} {m' : KV} (e : (x, m') = finB m w a) (ho : openB w (b.1 40) a = true) : x = (b0, 15) ∧ m' = m := by
  rcases o.fin w a e with ⟨_, h⟩ | ⟨h, _⟩
  · exact h
  · rw [ho] at h; cases h
theorem One.fin_f {K : MK} {m : KV} {b : BT} (o : One K m b) {w a : Int} {x : (BT × Int)} {m' : KV} (e : (x, m') = finB m w a) (ho : openB w (b.1 40) a = false) : x = ((b.1, true), 0) ∧ m' = [(.int .u32 0, bV (b.1, true))] := by
  rcases o.fin w a e with ⟨h, _⟩ | ⟨_, h⟩
  · rw [ho] at h; cases h
  · exact h
theorem One.rev {K : MK} {m : KV} {b : BT} (o : One K m b) (w a : Int) : revB m w 0 a = if openB w (b.1 40) a then (([b], 0), []) else (([], 15), m) := by
  rw [o.eq]; exact revB_one o.ok o.nf o.n w a
theorem One.not {K : MK} {m : KV} {b : BT} (o : One K m b) : ∀ c ∈ allB m, ¬ (c.1 0 < 0) := by rw [o.eq]; exact all_one o.ok o.n
theorem open_t {w b a : Int} (h : a < b + w) : openB w b a = true := by unfold openB; exact decide_eq_true h
theorem open_f {w b a : Int} (h : ¬ (a < b + w)) : openB w b a = false := by unfold openB; exact decide_eq_false h
end Go.Sx

namespace Go.Sx
open Go.RowKit
abbrev nk (b : BT) : Value := .int .u32 (b.1 0)
/-- The map's entries are the batches of l, by their numbers, which rise. -/
structure MB (K : MK) (m : KV) (l : List BT) : Prop where
  kok : KOK K m
  ok : ∀ b ∈ l, okB b
  up : l.Pairwise fun a b => a.1 0 < b.1 0
  get : ∀ k v, mget m k = some v ↔ ∃ b ∈ l, k = nk b ∧ v = bV b
theorem MB.nil {K : MK} : MB K [] [] := ⟨KOK.nil, (fun b h => by cases h), List.Pairwise.nil, fun k v => by rw [mget_nil]; simp⟩
theorem MB.keys {K : MK} {m : KV} {l : List BT} (h : MB K m l) : KeysOf .u32 m (l.map nk) := by
  have up : Rise (l.map nk) := by unfold Rise; rw [List.pairwise_map]; exact h.up
  have nd : (l.map nk).Nodup := up.imp fun {a b} hab e => by rw [e] at hab; omega
  refine ⟨?_, up, fun v hv => ?_⟩
  · refine (List.perm_ext_iff_of_nodup nd h.kok.once).2 fun k => ?_
    constructor
    · intro hk
      obtain ⟨b, hb, rfl⟩ := List.mem_map.1 hk
      exact List.mem_map_of_mem (f := (·.1)) (mget_mem ((h.get _ _).2 ⟨b, hb, rfl, rfl⟩))
    · intro hk
      obtain ⟨e, he, rfl⟩ := List.mem_map.1 hk
      obtain ⟨b, hb, e1, _⟩ := (h.get _ _).1 (mget_of_mem h.kok.once he)
      rw [e1]; exact List.mem_map_of_mem hb
  · obtain ⟨b, _, rfl⟩ := List.mem_map.1 hv
    exact ⟨_, rfl⟩
theorem MB.at {K : MK} {m : KV} {l : List BT} (h : MB K m l) {b : BT} (hb : b ∈ l) : mget m (nk b) = some (bV b) := (h.get _ _).2 ⟨b, hb, rfl, rfl⟩
theorem MB.all {K : MK} {m : KV} {l : List BT} (h : MB K m l) : allB m = l := by
  unfold allB
  rw [srt_eq h.kok.once h.keys, List.map_map]
  have : ∀ b ∈ l, ((fun k => unB ((mget m k).getD (bV b0))) ∘ nk) b = b := fun b hb => by
    simp only [Function.comp]
    rw [h.at hb, Option.getD_some, unB_bV (h.ok b hb)]
  rw [List.map_congr_left this, List.map_id']
theorem MB.len {K : MK} {m : KV} {l : List BT} (h : MB K m l) : m.length = l.length := by
  have := h.keys.len
  simpa using this.symm
theorem MB.inj {K : MK} {m : KV} {l : List BT} (h : MB K m l) {a b : BT} (ha : a ∈ l) (hb : b ∈ l) (e : a.1 0 = b.1 0) : a = b := by
  have h1 := h.at ha
  have h2 := h.at hb
  rw [show nk a = nk b by unfold nk; rw [e], h2] at h1
  injection h1 with h1
  exact (bV_inj (h.ok b hb) (h.ok a ha) h1).symm
theorem MB.add {K : MK} (B : KB K) {m : KV} {l : List BT} (h : MB K m l) {b : BT} (hb : okB b) (hn : ∀ a ∈ l, a.1 0 < b.1 0) : MB K (mset m (nk b) (bV b)) (l ++ [b]) := by
  refine ⟨h.kok.set (B.k' _) (B.v' b hb), fun a ha => ?_, ?_, fun k v => ?_⟩
  · rcases List.mem_append.1 ha with ha | ha
    · exact h.ok a ha
    · simp at ha; subst ha; exact hb
  · rw [List.pairwise_append]
    exact ⟨h.up, by simp, fun a ha c hc => by simp at hc; subst hc; exact hn a ha⟩
  · rw [mget_set]
    by_cases e : k = nk b
    · rw [if_pos e]
      constructor
      · intro hv; injection hv with hv; exact ⟨b, by simp, e, hv.symm⟩
      · rintro ⟨c, hc, e1, rfl⟩
        rcases List.mem_append.1 hc with hc | hc
        · have := hn c hc
          rw [e1] at e
          injection e with _ e; omega
        · simp at hc; subst hc; rfl
    · rw [if_neg e, h.get]
      constructor
      · rintro ⟨c, hc, e1, e2⟩; exact ⟨c, List.mem_append_left _ hc, e1, e2⟩
      · rintro ⟨c, hc, e1, e2⟩
        rcases List.mem_append.1 hc with hc | hc
        · exact ⟨c, hc, e1, e2⟩
        · simp at hc; subst hc; exact absurd e1 e
theorem MB.put {K : MK} (B : KB K) {m : KV} {l : List BT} (h : MB K m l) {i : Nat} {b c : BT} (hi : l[i]? = some b) (hc : okB c) (hn : c.1 0 = b.1 0) : MB K (mset m (nk b) (bV c)) (l.set i c) := by
  have hlt := (List.getElem?_eq_some_iff.1 hi).1
  have hbm := List.mem_of_getElem? hi
  have hk : nk c = nk b := by unfold nk; rw [hn]
  have mem : ∀ a, a ∈ l.set i c ↔ a = c ∨ (a ∈ l ∧ a.1 0 ≠ b.1 0) := by
    intro a
    constructor
    · intro ha
      obtain ⟨j, hj⟩ := List.getElem?_of_mem ha
      rw [List.getElem?_set] at hj
      by_cases e : i = j
      · subst e
        rw [if_pos rfl, if_pos hlt] at hj
        injection hj with hj; exact .inl hj.symm
      · rw [if_neg e] at hj
        refine .inr ⟨List.mem_of_getElem? hj, fun e2 => ?_⟩
        obtain ⟨g1, g2⟩ := List.getElem?_eq_some_iff.1 hi
        obtain ⟨g3, g4⟩ := List.getElem?_eq_some_iff.1 hj
        rcases Nat.lt_or_gt_of_ne e with q | q
        · have := List.pairwise_iff_getElem.1 h.up i j g1 g3 q; rw [g2, g4] at this; omega
        · have := List.pairwise_iff_getElem.1 h.up j i g3 g1 q; rw [g2, g4] at this; omega
    · rintro (rfl | ⟨ha, hne⟩)
      · exact List.mem_iff_getElem?.2 ⟨i, by rw [List.getElem?_set, if_pos rfl, if_pos hlt]⟩
      · obtain ⟨j, hj⟩ := List.getElem?_of_mem ha
        refine List.mem_iff_getElem?.2 ⟨j, ?_⟩
        rw [List.getElem?_set, if_neg (fun e => ?_)]; · exact hj
        subst e
        rw [hi] at hj; injection hj with hj; subst hj; exact hne rfl
  refine ⟨h.kok.set (B.k' _) (B.v' c hc), fun a ha => ?_, ?_, fun k v => ?_⟩
  · rcases (mem a).1 ha with rfl | ⟨ha, _⟩
    · exact hc
    · exact h.ok a ha
  · rw [List.pairwise_iff_getElem]
    intro j k hj hk' hjk
    have hu := List.pairwise_iff_getElem.1 h.up j k (by simpa using hj) (by simpa using hk') hjk
    obtain ⟨g1, g2⟩ := List.getElem?_eq_some_iff.1 hi
    rw [List.getElem_set, List.getElem_set]
    split
    · rename_i e; subst e
      rw [if_neg (by omega)]; rw [g2] at hu; omega
    · split
      · rename_i e; subst e; rw [g2] at hu; omega
      · exact hu
  · rw [mget_set]
    by_cases e : k = nk b
    · rw [if_pos e]
      constructor
      · intro hv; injection hv with hv; exact ⟨c, (mem c).2 (.inl rfl), by rw [hk]; exact e, hv.symm⟩
      · rintro ⟨a, ha, e1, rfl⟩
        rcases (mem a).1 ha with rfl | ⟨_, hne⟩
        · rfl
        · rw [e1] at e; injection e with _ e; exact absurd e hne
    · rw [if_neg e, h.get]
      constructor
      · rintro ⟨a, ha, e1, e2⟩
        exact ⟨a, (mem a).2 (.inr ⟨ha, fun e3 => e (by rw [e1]; unfold nk; rw [e3])⟩), e1, e2⟩
      · rintro ⟨a, ha, e1, e2⟩
        rcases (mem a).1 ha with rfl | ⟨ha, _⟩
        · exact absurd (e1.trans hk) e
        · exact ⟨a, ha, e1, e2⟩
theorem mget_drop {m : KV} (hm : MOK m) : ∀ (g : List BT) (k : Value), mget (dropB m g) k = (if ∃ b ∈ g, k = nk b then none else mget m k) ∧ MOK (dropB m g) := by
  intro g
  induction g generalizing m with
  | nil => intro k; exact ⟨by simp [dropB], hm⟩
  | cons a g ih =>
    intro k
    have := ih (m := mdel m (nk a)) (hm.del _) k
    refine ⟨?_, this.2⟩
    show mget (dropB (mdel m (nk a)) g) k = _
    rw [this.1, mget_del hm]
    by_cases e : k = nk a
    · simp [e]
    · by_cases e2 : ∃ b ∈ g, k = nk b
      · rw [if_pos e2, if_pos]
        obtain ⟨b, hb, e3⟩ := e2
        exact ⟨b, List.mem_cons_of_mem _ hb, e3⟩
      · rw [if_neg e2, if_neg e, if_neg]
        rintro ⟨b, hb, e3⟩
        rcases List.mem_cons.1 hb with rfl | hb
        · exact e e3
        · exact e2 ⟨b, hb, e3⟩
theorem MB.drop {K : MK} {m : KV} {l : List BT} (h : MB K m l) (n : Int) : MB K (dropB m (l.filter fun b => !decide (b.1 0 < n))) (l.filter fun b => decide (b.1 0 < n)) := by
  have hd := fun k => mget_drop h.kok.once (l.filter fun b => !decide (b.1 0 < n)) k
  refine ⟨⟨(hd undef).2, fun e he => ?_⟩, fun b hb => h.ok b (List.mem_filter.1 hb).1, h.up.filter _, fun k v => ?_⟩
  · have := mget_of_mem (hd undef).2 he
    rw [(hd e.1).1] at this
    split at this
    · cases this
    · exact h.kok.ok e (mget_mem this)
  · rw [(hd k).1]
    constructor
    · intro hv
      split at hv
      · cases hv
      · rename_i hno
        obtain ⟨b, hb, e1, e2⟩ := (h.get _ _).1 hv
        refine ⟨b, List.mem_filter.2 ⟨hb, ?_⟩, e1, e2⟩
        by_cases q : b.1 0 < n
        · simpa using q
        · exact absurd ⟨b, List.mem_filter.2 ⟨hb, by simpa using q⟩, e1⟩ hno
    · rintro ⟨b, hb, e1, e2⟩
      obtain ⟨hb1, hb2⟩ := List.mem_filter.1 hb
      rw [if_neg]
      · exact (h.get _ _).2 ⟨b, hb1, e1, e2⟩
      · rintro ⟨c, hc, e3⟩
        obtain ⟨_, hc2⟩ := List.mem_filter.1 hc
        rw [e1] at e3
        injection e3 with _ e3
        simp at hb2 hc2; omega
end Go.Sx

namespace Go.Sx
open Go.RowKit
/-! ### An element written -/
def ssetK (s : Slot) (o : Nat) (v : Value) : Slot := match s with | .blk b (.cells cs t f) => .blk b (.cells (putAll cs o v.cells.toList) t f) | s => s
def RK.set {k : Nat} (r : RK k) (n : Nat) (v : Value) (hv : Ag k v) : RK k := ⟨r.1.set n v, by
  obtain ⟨r, hr⟩ := r
  cases r with
  | nil => trivial
  | mk b vs ex =>
    intro x hx
    rcases List.mem_append.1 hx with hx | hx
    · rcases List.mem_or_eq_of_mem_set hx with hx | rfl
      · exact hr x (List.mem_append_left _ hx)
      · exact hv
    · exact hr x (List.mem_append_right _ hx)⟩
theorem RK.vals_set {k : Nat} (r : RK k) (n : Nat) (v : Value) (hv : Ag k v) : vals (r.set n v hv).1 = (vals r.1).set n v := Sx.vals_set r.1 n v
theorem RK.sv_set {k : Nat} (r : RK k) (n : Nat) (v : Value) (hv : Ag k v) : sv (r.set n v hv).1 = sv r.1 := Sx.sv_set r.1 n v
theorem putAll_set {k : Nat} {l : List Value} (h : ∀ v ∈ l, Ag k v) {n : Nat} (hn : n < l.length) {v : Value} (hv : Ag k v) : putAll (fl l).toArray (n * k) v.cells.toList = (fl (l.set n v)).toArray := by
  have h1 : l = l.take n ++ l[n] :: l.drop (n + 1) := by rw [← List.drop_eq_getElem_cons hn, List.take_append_drop]
  have ht : ∀ x ∈ l.take n, Ag k x := fun x hx => h x (List.mem_of_mem_take hx)
  have e1 : fl l = fl (l.take n) ++ l[n].cells.toList ++ fl (l.drop (n + 1)) := by
    conv => lhs; rw [h1]
    rw [fl_append, fl_cons, List.append_assoc]
  have hl : (fl (l.take n)).length = n * k := by rw [fl_length ht, List.length_take, Nat.min_eq_left (by omega)]
  have := putAll_eq v.cells.toList (fl (l.take n)) l[n].cells.toList (fl (l.drop (n + 1))) (by rw [(h _ (List.getElem_mem hn)).len, hv.len])
  rw [hl] at this
  rw [e1, this]
  congr 1
  rw [List.set_eq_take_append_cons_drop, if_pos hn, fl_append, fl_cons, List.append_assoc]
theorem ssetK_eq {k : Nat} (r : RK k) (e : TypeId) {n : Nat} (hn : n < (vals r.1).length) {v : Value} (hv : Ag k v) : ssetK (sk e r.1) (n * k) v = sk e (r.set n v hv).1 := by
  obtain ⟨r, hr⟩ := r
  cases r with
  | nil => simp [vals] at hn
  | mk b vs ex =>
    simp only [vals] at hn
    show Slot.blk b (.cells (putAll (fl (vs ++ ex)).toArray (n * k) v.cells.toList) e (0, 0)) = .blk b (.cells (fl (vs.set n v ++ ex)).toArray e (0, 0))
    rw [putAll_set hr (by simp; omega) hv, List.set_append_left _ _ hn]
def F_putK : List Value → List Slot → Ctr := fun vs hs => ⟨Unit, fun _ => undef, fun _ => [ssetK (sarg hs 0) (voff (varg vs 0)) (varg vs 1)], fun _ => True⟩
theorem xputK {P : Program} {t e : TypeId} {k : Nat} {z : Value} (h : SkT P t e k z) (r : RK k) (n : Nat) (v : Value) (hv : Ag k v) (h2 : ∀ u ∈ v.cells.toList, u.oneCell' = true) (hn : n < (vals r.1).length) :
    OpT P (do Instr.storeAt e (.pointer (some ⟨vblk (sv r.1), n * k, none⟩)) v; pure .skip) [sk e r.1] Unit (fun _ => undef) (fun _ => [ssetK (sk e r.1) (n * k) v]) (fun _ => True) := by
  obtain ⟨r, hr⟩ := r
  intro R w ho
  cases r with
  | nil => simp [vals] at hn
  | mk b vs ex =>
    simp only [vals] at hn
    have hb : w.heap[b]? = some (.cells (fl (vs ++ ex)).toArray e (0, 0)) := ho.block (i := 0) rfl
    have hc : ∀ j, j < v.cells.toList.length → (w.cell? ⟨b, n * k + 0 + j, none⟩).isSome = true := by
      intro j hj
      rw [hv.len] at hj
      have hlen : n * k + 0 + j < (fl (vs ++ ex)).length := by
        rw [fl_length hr, List.length_append]
        have : (n + 1) * k ≤ (vs.length + ex.length) * k := Nat.mul_le_mul_right _ (by omega)
        rw [Nat.succ_mul] at this; omega
      have hlen' : n * k + j < (fl (vs ++ ex)).length := by omega
      simp [World.cell?, hb, hlen']
    have hst := run_storeCells_cells (P := P) b (n * k) v.cells.toList 0 w hc (fun j hj => frozen_of_row w b _ _ e hb) h2
    simp only [Nat.add_zero] at hst
    have hh := heap_setCells_same b e v.cells.toList (n * k) w _ hb
    refine ⟨(), w.setCells b (n * k) v.cells.toList, trivial, .inr ⟨?_, rfl⟩, ?_, ext_setCells b _ _ w⟩
    · have hsz : (sizeOf e).run P w = .ok k w := h.size w
      have hk : v.cells.size = k := by have := hv.len; simpa using this
      simp [Instr.storeAt, Instr.sureAddr, vblk, sv, storeVar, Sem.run_bind, hsz, hk, hst]
    · have := ho.set (i := 0) (b := b) rfl hh (fun c hc => heap_setCells_other' b _ _ w c hc)
      refine (congrArg (fun H => Own H R (w.setCells b (n * k) v.cells.toList)) ?_).mp this
      funext i
      cases i <;> rfl
/-! ### A part of a row -/
def vdropK (k : Nat) (v : Value) (m : Nat) : Value := match v with | .slice a l c => sliced a m l c k | v => v
theorem xdropK {P : Program} {t e : TypeId} {n : Nat} {z : Value} (h : SkT P t e n z) (he : P.elem t = e) (r : Row) (k : IntKind) (i : Int) (h0 : 0 ≤ i) (h1 : i ≤ ((vals r).length : Nat)) :
    PureRun P (do pure (.value (← Instr.sliceAt t (sv r) (some (.int k i)) none none))) (vdropK n (sv r) i.toNat) := by
  intro w
  have hu : P.underlying t = some (.slice (P.elem t)) := by rw [he]; exact h.und
  have hs := h.size w
  rw [← he] at hs
  have key : ∀ (a : Option Addr) (l c : Nat), sv r = .slice a l c → i ≤ (l : Int) → (Instr.sliceAt t (sv r) (some (.int k i)) none none).run P w = .ok (vdropK n (sv r) i.toNat) w := by
    intro a l c hv hc
    rw [hv, run_sliceAt_slice w t _ _ _ _ hu, run_slice_l w t a l c hu k i h0 hc, hs]
    rfl
  have hk : (Instr.sliceAt t (sv r) (some (.int k i)) none none).run P w = .ok (vdropK n (sv r) i.toNat) w := by
    cases r with
    | nil => exact key none 0 0 rfl h1
    | mk b vs ex => exact key _ _ _ rfl h1
  rw [Sem.run_bind, hk]; rfl
theorem xtakeK {P : Program} {t e : TypeId} {n : Nat} {z : Value} (h : SkT P t e n z) (he : P.elem t = e) (r : Row) (k : IntKind) (i : Int) (h0 : 0 ≤ i) (h1 : i ≤ ((vals r).length : Nat)) :
    PureRun P (do pure (.value (← Instr.sliceAt t (sv r) none (some (.int k i)) none))) (vtake (sv r) i.toNat) := by
  intro w
  have hu : P.underlying t = some (.slice (P.elem t)) := by rw [he]; exact h.und
  have hs := h.size w
  rw [← he] at hs
  have key : ∀ (a : Option Addr) (l c : Nat), sv r = .slice a l c → (a.map (·.add 0) = a) → i ≤ (c : Int) → (Instr.sliceAt t (sv r) none (some (.int k i)) none).run P w = .ok (vtake (sv r) i.toNat) w := by
    intro a l c hv ha hc
    rw [hv, run_sliceAt_slice w t _ _ _ _ hu, run_slice_h w t a l c hu k i h0 hc, hs]
    show Result.ok (sliced a 0 i.toNat c n) w = _
    unfold sliced vtake
    simp [ha]
  have hk : (Instr.sliceAt t (sv r) none (some (.int k i)) none).run P w = .ok (vtake (sv r) i.toNat) w := by
    cases r with
    | nil =>
      simp only [vals, List.length_nil] at h1
      exact key none 0 0 rfl rfl (by omega)
    | mk b vs ex =>
      simp only [vals] at h1
      exact key _ _ _ rfl (by simp [Addr.add]) (by omega)
  rw [Sem.run_bind, hk]; rfl
/-! ### A part cleared -/
theorem zero_fl {k : Nat} {z : Value} (hz : Ag k z) (hk : 0 < k) (n : Nat) : (Builtin.zeroCells z.cells n).toList = fl (List.replicate n z) := by
  have hzk : z.cells.size = k := by have := hz.len; simpa using this
  have ha : ∀ v ∈ List.replicate n z, Ag k v := fun v hv => by rw [List.eq_of_mem_replicate hv]; exact hz
  apply List.ext_getElem?
  intro i
  rcases Nat.lt_or_ge i (n * k) with q | q
  · have hq : i / k < n := Nat.div_lt_of_lt_mul (by rw [Nat.mul_comm]; exact q)
    have hm : i % k < k := Nat.mod_lt _ hk
    have h1 : (List.replicate n z)[i / k]? = some z := by rw [List.getElem?_replicate, if_pos hq]
    have h2 : z.cells.toList[i % k]? = some z.cells[i % k] := by simp [hzk, hm]
    have h3 := fl_get ha h1 h2
    rw [Nat.div_add_mod' i k] at h3
    rw [h3]
    simp [Builtin.zeroCells, hzk, q, hm]
  · rw [List.getElem?_eq_none (by simp [Builtin.zeroCells, hzk]; exact q), List.getElem?_eq_none (by rw [fl_length ha]; simpa using q)]
def sclrK (z : Value) (s : Slot) (o n : Nat) : Slot := match s with | .blk b (.cells cs t f) => .blk b (.cells (putAll cs o (Builtin.zeroCells z.cells n).toList) t f) | s => s
def Row.clr (z : Value) (m : Nat) : Row → Row
  | .nil => .nil
  | .mk b vs ex => .mk b (vs.take m ++ List.replicate (vs.length - m) z) ex
def RK.clr {k : Nat} (r : RK k) (m : Nat) (z : Value) (hz : Ag k z) : RK k := ⟨r.1.clr z m, by
  obtain ⟨r, hr⟩ := r
  cases r with
  | nil => trivial
  | mk b vs ex =>
    intro x hx
    rcases List.mem_append.1 hx with hx | hx
    · rcases List.mem_append.1 hx with hx | hx
      · exact hr x (List.mem_append_left _ (List.mem_of_mem_take hx))
      · rw [List.eq_of_mem_replicate hx]; exact hz
    · exact hr x (List.mem_append_right _ hx)⟩
theorem RK.vals_clr {k : Nat} (r : RK k) (m : Nat) (z : Value) (hz : Ag k z) : vals (r.clr m z hz).1 = (vals r.1).take m ++ List.replicate ((vals r.1).length - m) z := by
  obtain ⟨r, hr⟩ := r
  cases r <;> simp [RK.clr, Row.clr, vals]
theorem RK.sv_clr {k : Nat} (r : RK k) (m : Nat) (hm : m ≤ (vals r.1).length) (z : Value) (hz : Ag k z) : sv (r.clr m z hz).1 = sv r.1 := by
  obtain ⟨r, hr⟩ := r
  cases r with
  | nil => rfl
  | mk b vs ex =>
    simp only [vals] at hm
    simp only [RK.clr, Row.clr, sv, List.length_append, List.length_take, List.length_replicate, Nat.min_eq_left hm]
    congr 1 <;> omega
theorem putAll_many {k : Nat} {l : List Value} (h : ∀ v ∈ l, Ag k v) {m n : Nat} (hn : m + n ≤ l.length) {u : List Value} (hu : ∀ v ∈ u, Ag k v) (hl : u.length = n) : putAll (fl l).toArray (m * k) (fl u) = (fl (l.take m ++ u ++ l.drop (m + n))).toArray := by
  have ht : ∀ x ∈ l.take m, Ag k x := fun x hx => h x (List.mem_of_mem_take hx)
  have hd : ∀ x ∈ (l.drop m).take n, Ag k x := fun x hx => h x (List.mem_of_mem_drop (List.mem_of_mem_take hx))
  have h1 : l = l.take m ++ (l.drop m).take n ++ l.drop (m + n) := by
    rw [List.append_assoc, ← List.drop_drop, List.take_append_drop, List.take_append_drop]
  have e1 : fl l = fl (l.take m) ++ fl ((l.drop m).take n) ++ fl (l.drop (m + n)) := by
    conv => lhs; rw [h1]
    rw [fl_append, fl_append]
  have hll : (fl (l.take m)).length = m * k := by rw [fl_length ht, List.length_take, Nat.min_eq_left (by omega)]
  have := putAll_eq (fl u) (fl (l.take m)) (fl ((l.drop m).take n)) (fl (l.drop (m + n))) (by rw [fl_length hd, fl_length hu, hl, List.length_take, List.length_drop, Nat.min_eq_left (by omega)])
  rw [hll] at this
  rw [e1, this, fl_append, fl_append]
theorem sclrK_eq {k : Nat} (r : RK k) (e : TypeId) {m : Nat} (hm : m ≤ (vals r.1).length) {z : Value} (hz : Ag k z) (hk : 0 < k) : sclrK z (sk e r.1) (m * k) ((vals r.1).length - m) = sk e (r.clr m z hz).1 := by
  obtain ⟨r, hr⟩ := r
  cases r with
  | nil => rfl
  | mk b vs ex =>
    simp only [vals] at hm
    show Slot.blk b (.cells (putAll (fl (vs ++ ex)).toArray (m * k) (Builtin.zeroCells z.cells (vs.length - m)).toList) e (0, 0)) = .blk b (.cells (fl ((vs.take m ++ List.replicate (vs.length - m) z) ++ ex)).toArray e (0, 0))
    rw [zero_fl hz hk, putAll_many (n := vs.length - m) hr (by simp; omega) (fun v hv => by rw [List.eq_of_mem_replicate hv]; exact hz) (by simp), List.take_append_of_le_length hm]
    congr 4
    have : m + (vs.length - m) = vs.length := by omega
    rw [this, List.drop_append_of_le_length (Nat.le_refl _), List.drop_length, List.nil_append]
def F_clrK (z : Value) (k : Nat) (m : Nat) : List Value → List Slot → Ctr := fun vs hs => ⟨Unit, fun _ => .tuple #[], fun _ => [sclrK z (sarg hs 0) (m * k) (vlen (varg vs 0))], fun _ => True⟩
theorem vlen_dropK {k : Nat} (r : Row) (m : Nat) : vlen (vdropK k (sv r) m) = (vals r).length - m := by cases r <;> simp [vdropK, sv, sliced, vlen, vals]
theorem xclrK {P : Program} {t e : TypeId} {k : Nat} {z : Value} (h : SkT P t e k z) (hz : Ag k z) (h2 : ∀ u ∈ z.cells.toList, u.oneCell' = true) (hzv : ∀ w, (zeroValue e).run P w = .ok z w) (hk : 0 < k) (ty : TypeId) (r : RK k) (m : Nat) (hm : m ≤ (vals r.1).length) :
    OpT P (do pure (.value (← Builtin.clear_ #[t] ty #[vdropK k (sv r.1) m]))) [sk e r.1] Unit (fun _ => .tuple #[]) (fun _ => [sclrK z (sk e r.1) (m * k) (vlen (vdropK k (sv r.1) m))]) (fun _ => True) := by
  obtain ⟨r, hr⟩ := r
  rw [vlen_dropK]
  intro R w ho
  cases r with
  | nil => exact ⟨(), w, trivial, .inl (by simp [Builtin.clear_, run_underlying h.und, vdropK, sv, sliced]), ho, Ext.refl w⟩
  | mk b vs ex =>
    simp only [vals] at hm ⊢
    have hb : w.heap[b]? = some (.cells (fl (vs ++ ex)).toArray e (0, 0)) := ho.block (i := 0) rfl
    obtain ⟨n, hn⟩ : ∃ n, n = vs.length - m := ⟨_, rfl⟩
    rw [← hn]
    cases n with
    | zero =>
      have hs : sclrK z (sk e (.mk b vs ex)) (m * k) 0 = sk e (.mk b vs ex) := by
        have : (Builtin.zeroCells z.cells 0).toList = [] := by simp [Builtin.zeroCells]
        simp only [sclrK, sk, this, putAll]
      rw [hs]
      refine ⟨(), w, trivial, .inl ?_, ho, Ext.refl w⟩
      simp only [vdropK, sv, sliced, ← hn]
      by_cases hcap : vs.length + ex.length = m
      · simp [Builtin.clear_, run_underlying h.und, hcap]
      · simp [Builtin.clear_, run_underlying h.und, hcap]
    | succ n =>
      have hlt : m < vs.length := by omega
      have hz1 : (Builtin.zeroCells z.cells (n + 1)).toList = fl (List.replicate (n + 1) z) := zero_fl hz hk _
      have hzl : (Builtin.zeroCells z.cells (n + 1)).toList.length = (n + 1) * k := by rw [hz1, fl_length (fun v hv => by rw [List.eq_of_mem_replicate hv]; exact hz)]; simp
      have hc : ∀ j, j < (Builtin.zeroCells z.cells (n + 1)).toList.length → (w.cell? ⟨b, m * k + 0 + j, none⟩).isSome = true := by
        intro j hj
        rw [hzl] at hj
        have hlen' : m * k + j < (fl (vs ++ ex)).length := by
          rw [fl_length hr, List.length_append]
          have e1 : (m + (n + 1)) * k ≤ (vs.length + ex.length) * k := Nat.mul_le_mul_right _ (by omega)
          rw [Nat.add_mul] at e1; omega
        simp [World.cell?, hb, hlen']
      have h1 : ∀ v ∈ (Builtin.zeroCells z.cells (n + 1)).toList, v.oneCell' = true := by
        intro v hv
        rw [hz1] at hv
        unfold fl at hv
        obtain ⟨u, hu, hv⟩ := List.mem_flatMap.1 hv
        rw [List.eq_of_mem_replicate hu] at hv
        exact h2 v hv
      have hst := run_storeCells_cells (P := P) b (m * k) (Builtin.zeroCells z.cells (n + 1)).toList 0 w hc (fun j hj => frozen_of_row w b _ _ e hb) h1
      simp only [Nat.add_zero] at hst
      have hh := heap_setCells_same b e (Builtin.zeroCells z.cells (n + 1)).toList (m * k) w _ hb
      refine ⟨(), w.setCells b (m * k) (Builtin.zeroCells z.cells (n + 1)).toList, trivial, .inl ?_, ?_, ext_setCells b _ _ w⟩
      · have hcap : ¬ (vs.length + ex.length = m) := by omega
        simp only [vdropK, sv, sliced, ← hn, hcap, if_false]
        simp [Builtin.clear_, run_underlying h.und, hzv, Addr.add_lit, hst, Result.andThen]
      · have := ho.set (i := 0) (b := b) rfl hh (fun c hc => heap_setCells_other' b _ _ w c hc)
        refine (congrArg (fun H => Own H R _) ?_).mp this
        funext i
        cases i <;> rfl
def RK.take {k : Nat} (r : RK k) (m : Nat) : RK k := ⟨r.1.take m, by
  obtain ⟨r, hr⟩ := r
  cases r with
  | nil => trivial
  | mk b vs ex =>
    intro x hx
    refine hr x ?_
    rcases List.mem_append.1 hx with hx | hx
    · exact List.mem_append_left _ (List.mem_of_mem_take hx)
    · rcases List.mem_append.1 hx with hx | hx
      · exact List.mem_append_left _ (List.mem_of_mem_drop hx)
      · exact List.mem_append_right _ hx⟩
theorem sk_take {k : Nat} (r : RK k) (e : TypeId) (m : Nat) : sk e (r.take m).1 = sk e r.1 := by
  obtain ⟨r, hr⟩ := r
  cases r with
  | nil => rfl
  | mk b vs ex => simp [RK.take, Row.take, sk, ← List.append_assoc]
end Go.Sx

namespace Go.Sx
open Go.RowKit
abbrev kp (n : Int) : BT → Bool := fun b => !decide (b.1 0 < n)
/-- The state of DeleteFunc's second loop. -/
structure DF (l : List BT) (n : Int) (i j : Nat) (r : RK 42) : Prop where
  ij : i < j
  jl : j ≤ l.length
  len : (vals r.1).length = l.length
  cnt : i = ((l.take j).filter (kp n)).length
  a : (vals r.1).take i = ((l.take j).filter (kp n)).map bV
  b : (vals r.1).drop j = (l.drop j).map bV
theorem DF.start {l : List BT} {n : Int} {r : RK 42} (h : vals r.1 = l.map bV) {i : Nat} {b : BT} (hb : l[i]? = some b) (hp : b.1 0 < n) (hn : ∀ j c, j < i → l[j]? = some c → ¬ (c.1 0 < n)) : DF l n i (i + 1) r := by
  have hlt := (List.getElem?_eq_some_iff.1 hb).1
  have hf : (l.take (i + 1)).filter (kp n) = l.take i := by
    rw [List.take_add_one, hb, List.filter_append]
    have h1 : (l.take i).filter (kp n) = l.take i := List.filter_eq_self.2 fun c hc => by
      obtain ⟨j, hj⟩ := List.getElem?_of_mem hc
      have hji : j < i := by have := (List.getElem?_eq_some_iff.1 hj).1; simp at this; omega
      rw [List.getElem?_take_of_lt hji] at hj
      simpa [kp] using hn j c hji hj
    rw [h1]
    simp [kp, hp]
  refine ⟨Nat.lt_succ_self i, hlt, by rw [h, List.length_map], ?_, ?_, ?_⟩
  · rw [hf, List.length_take, Nat.min_eq_left (by omega)]
  · rw [hf, h, List.map_take]
  · rw [h, List.map_drop]
theorem DF.el {l : List BT} {n : Int} {i j : Nat} {r : RK 42} (d : DF l n i j r) (ho : ∀ b ∈ l, okB b) (hj : j < l.length) : ∃ x0, (vals r.1)[j]? = some (bV x0) ∧ okB x0 := by
  refine ⟨l[j], ?_, ho _ (List.getElem_mem hj)⟩
  have := congrArg (fun l => l[0]?) d.b
  simp only [List.getElem?_drop, Nat.add_zero, List.getElem?_map] at this
  rw [this, List.getElem?_eq_getElem hj]; rfl
theorem DF.is {l : List BT} {n : Int} {i j : Nat} {r : RK 42} (d : DF l n i j r) (ho : ∀ b ∈ l, okB b) {x : BT} (hx : (vals r.1)[j]? = some (bV x) ∧ okB x) (hj : j < l.length) : l[j]? = some x := by
  have := congrArg (fun l => l[0]?) d.b
  simp only [List.getElem?_drop, Nat.add_zero, List.getElem?_map] at this
  rw [hx.1, List.getElem?_eq_getElem hj] at this
  simp only [Option.map_some, Option.some.injEq] at this
  rw [List.getElem?_eq_getElem hj, bV_inj hx.2 (ho _ (List.getElem_mem hj)) this]
theorem DF.skip {l : List BT} {n : Int} {i j : Nat} {r : RK 42} (d : DF l n i j r) {x : BT} (hx : l[j]? = some x) (hp : x.1 0 < n) : DF l n i (j + 1) r := by
  have hlt := (List.getElem?_eq_some_iff.1 hx).1
  have hf : (l.take (j + 1)).filter (kp n) = (l.take j).filter (kp n) := by
    rw [List.take_add_one, hx, List.filter_append]; simp [kp, hp]
  refine ⟨Nat.lt_succ_of_lt d.ij, hlt, d.len, by rw [hf]; exact d.cnt, by rw [hf]; exact d.a, ?_⟩
  have := congrArg (List.drop 1) d.b
  simpa [List.drop_drop] using this
theorem DF.keep {l : List BT} {n : Int} {i j : Nat} {r : RK 42} (d : DF l n i j r) {x : BT} (hx : l[j]? = some x) (hp : ¬ (x.1 0 < n)) : DF l n (i + 1) (j + 1) (r.set i (bV x) (bV_Ag x)) := by
  have hlt := (List.getElem?_eq_some_iff.1 hx).1
  have hij := d.ij
  have hl := d.len
  have hf : (l.take (j + 1)).filter (kp n) = (l.take j).filter (kp n) ++ [x] := by
    rw [List.take_add_one, hx, List.filter_append]; simp [kp, hp]
  refine ⟨Nat.succ_le_succ hij, hlt, by rw [RK.vals_set, List.length_set]; exact hl, ?_, ?_, ?_⟩
  · rw [hf, List.length_append, ← d.cnt]; rfl
  · rw [RK.vals_set, hf, List.map_append, ← d.a]
    rw [List.take_add_one, List.getElem?_set_self (by omega)]
    rw [List.take_set_of_le (Nat.le_refl i)]; rfl
  · rw [RK.vals_set, List.drop_set_of_lt (by omega)]
    have := congrArg (List.drop 1) d.b
    simpa [List.drop_drop] using this
def bz : Value := bV b0
theorem bz_Ag : Ag 42 bz := bV_Ag b0
theorem DF.done {l : List BT} {n : Int} {i j : Nat} {r : RK 42} (d : DF l n i j r) (hj : j = l.length) : i ≤ (vals r.1).length ∧ vals ((r.clr i bz bz_Ag).take i).1 = (l.filter (kp n)).map bV := by
  subst hj
  have hij := d.ij
  have hl := d.len
  refine ⟨by omega, ?_⟩
  show vals (Row.take (r.clr i bz bz_Ag).1 i) = _
  have ha := d.a
  rw [vals_take, RK.vals_clr, List.take_append_of_le_length (by rw [List.length_take]; omega), List.take_take, Nat.min_self, ha, List.take_length]
theorem del_val {r : RK 42} {i : Nat} (h : i ≤ (vals r.1).length) : vtake (sv r.1) i = sv ((r.clr i bz bz_Ag).take i).1 := by
  rw [← RK.sv_clr r i h bz bz_Ag]
  exact vtake_sv _ _ (by rw [RK.vals_clr]; simp; omega)
theorem del_slot {r : RK 42} {e : TypeId} {i : Nat} (h : i ≤ (vals r.1).length) : sclrK bz (sk e r.1) (i * 42) (vlen (vdropK 42 (sv r.1) i)) = sk e ((r.clr i bz bz_Ag).take i).1 := by
  rw [vlen_dropK, sclrK_eq r e h bz_Ag (by decide), sk_take]
def IxP (l : List BT) (n : Int) (x : Int) : Prop := (x = -1 ∧ ∀ b ∈ l, ¬ (b.1 0 < n)) ∨ ∃ i b, x = ((i : Nat) : Int) ∧ l[i]? = some b ∧ b.1 0 < n ∧ ∀ j c, j < i → l[j]? = some c → ¬ (c.1 0 < n)
theorem ix_wit (n : Int) : ∀ l : List BT, ∃ x, (fun x => IxP l n x) x
  | [] => ⟨-1, .inl ⟨rfl, fun b h => by cases h⟩⟩
  | a :: l => by
    by_cases ha : a.1 0 < n
    · exact ⟨((0 : Nat) : Int), .inr ⟨0, a, rfl, rfl, ha, fun j c h => absurd h (Nat.not_lt_zero _)⟩⟩
    · obtain ⟨x, hx⟩ := ix_wit n l
      rcases hx with ⟨rfl, h⟩ | ⟨i, b, rfl, h1, h2, h3⟩
      · exact ⟨-1, .inl ⟨rfl, fun b hb => by
          rcases List.mem_cons.1 hb with rfl | hb
          · exact ha
          · exact h b hb⟩⟩
      · refine ⟨(((i + 1 : Nat) : Nat) : Int), .inr ⟨i + 1, b, rfl, by simpa using h1, h2, fun j c hj hc => ?_⟩⟩
        cases j with
        | zero => simp at hc; subst hc; exact ha
        | succ j => exact h3 j c (by omega) (by simpa using hc)
theorem kp_all {l : List BT} {n : Int} (h : ∀ b ∈ l, ¬ (b.1 0 < n)) : l.filter (kp n) = l := List.filter_eq_self.2 fun b hb => by simpa [kp] using h b hb
theorem ix_bd {l : List BT} {n x : Int} (h : IxP l n x) : -1 ≤ x ∧ x < l.length := by
  rcases h with ⟨rfl, _⟩ | ⟨i, b, rfl, hb, _⟩
  · omega
  · have := (List.getElem?_eq_some_iff.1 hb).1; omega
theorem filt_ok {K : MK} (B : KB K) {m : KV} (h : KOK K m) {n : Int} : ∀ b ∈ (allB m).filter (kp n), okB b := fun b hb => allB_ok B h b (List.mem_filter.1 hb).1
theorem ix_step {l : List BT} {n : Int} {i : Nat} {x : BT} (h : ∀ j c, j < i → l[j]? = some c → ¬ (c.1 0 < n)) (hx : l[i]? = some x) (hp : ¬ (x.1 0 < n)) : ∀ j c, j < i + 1 → l[j]? = some c → ¬ (c.1 0 < n) := by
  intro j c hj hc
  rcases Nat.lt_or_ge j i with q | q
  · exact h j c q hc
  · have : j = i := by omega
    subst this
    rw [hx] at hc; injection hc with hc; rw [← hc]; exact hp
theorem ix_all {l : List BT} {n : Int} {i : Nat} (h : ∀ j c, j < i → l[j]? = some c → ¬ (c.1 0 < n)) (hi : i = l.length) {b : BT} (hb : b ∈ l) : ¬ (b.1 0 < n) := by
  obtain ⟨j, hj⟩ := List.getElem?_of_mem hb
  exact h j b (by rw [hi]; exact (List.getElem?_eq_some_iff.1 hj).1) hj
end Go.Sx

namespace Go.Sx
open Go.RowKit
def endF (fs : List (Nat → Int)) : Int := (fs.getLastD fun _ => 0) 2
theorem endF_nil : endF [] = 0 := rfl
theorem endF_take {fs : List (Nat → Int)} {i : Nat} {f : Nat → Int} (h : fs[i]? = some f) : endF (fs.take (i + 1)) = f 2 := by
  unfold endF
  rw [List.take_add_one, h]
  simp [List.getLastD_eq_getLast?]
structure Chn (fs : List (Nat → Int)) : Prop where
  fr : ∀ (i : Nat) (f : Nat → Int), fs[i]? = some f → f 1 = endF (fs.take i)
  to : ∀ (i : Nat) (f : Nat → Int), fs[i]? = some f → f 1 ≤ f 2
  bl : ∀ (i : Nat) (f g : Nat → Int), fs[i]? = some f → fs[i + 1]? = some g → f 40 ≤ g 40
theorem Chn.nil : Chn [] := ⟨fun i f h => by simp at h, fun i f h => by simp at h, fun i f g h => by simp at h⟩
theorem Chn.take {fs : List (Nat → Int)} (h : Chn fs) (j : Nat) : Chn (fs.take j) := by
  have at_ : ∀ (i : Nat) (f : Nat → Int), (fs.take j)[i]? = some f → i < j ∧ fs[i]? = some f := by
    intro i f hf
    have hi : i < j := by have := (List.getElem?_eq_some_iff.1 hf).1; simp at this; omega
    rw [List.getElem?_take_of_lt hi] at hf
    exact ⟨hi, hf⟩
  refine ⟨fun i f hf => ?_, fun i f hf => h.to i f (at_ i f hf).2, fun i f g hf hg => h.bl i f g (at_ i f hf).2 (at_ _ g hg).2⟩
  obtain ⟨hi, hf'⟩ := at_ i f hf
  rw [List.take_take, Nat.min_eq_left (by omega)]
  exact h.fr i f hf'
theorem Chn.add {fs : List (Nat → Int)} (h : Chn fs) {g : Nat → Int} (h1 : g 1 = endF fs) (h2 : g 1 ≤ g 2) (h3 : (fs.getLastD fun _ => 0) 40 ≤ g 40) : Chn (fs ++ [g]) := by
  refine ⟨fun i f hf => ?_, fun i f hf => ?_, fun i f k hf hk => ?_⟩
  · rcases Nat.lt_or_ge i fs.length with q | q
    · rw [List.getElem?_append_left q] at hf
      rw [List.take_append_of_le_length (by omega)]; exact h.fr i f hf
    · have hi : i = fs.length := by have := (List.getElem?_eq_some_iff.1 hf).1; simp at this; omega
      subst hi
      simp at hf; subst hf
      rw [List.take_append_of_le_length (Nat.le_refl _), List.take_length]; exact h1
  · rcases Nat.lt_or_ge i fs.length with q | q
    · rw [List.getElem?_append_left q] at hf; exact h.to i f hf
    · have hi : i = fs.length := by have := (List.getElem?_eq_some_iff.1 hf).1; simp at this; omega
      subst hi
      simp at hf; subst hf; exact h2
  · rcases Nat.lt_or_ge (i + 1) fs.length with q | q
    · rw [List.getElem?_append_left (by omega)] at hf
      rw [List.getElem?_append_left q] at hk
      exact h.bl i f k hf hk
    · have hi : i + 1 = fs.length := by have := (List.getElem?_eq_some_iff.1 hk).1; simp at this; omega
      rw [hi] at hk
      simp at hk; subst hk
      rw [List.getElem?_append_left (by omega)] at hf
      rw [List.getLastD_eq_getLast?, List.getLast?_eq_getElem?, show fs.length - 1 = i by omega, hf] at h3
      exact h3
noncomputable abbrev nxt (p : KV) : Int := ci ((mget p (.int .u8 0)).getD (.int .u32 0))
structure CS (K Kp : MK) (m p : KV) (l fin : List BT) : Prop where
  mb : MB K m l
  kp : KOK Kp p
  nx : ∀ b ∈ l, b.1 0 < nxt p
  fl : fin.length ≤ l.length
  fb : ∀ (i : Nat) (b : BT), l[i]? = some b → b.2 = decide (i < fin.length)
  fe : ∀ i : Nat, i < fin.length → l[i]? = fin[i]?
  ch : Chn (l.map (·.1))
theorem CS.start {K Kp : MK} : CS K Kp [] [] [] [] := ⟨MB.nil, KOK.nil, fun b h => (by cases h), Nat.le_refl _, fun i b h => by simp at h, fun i h => by simp at h, Chn.nil⟩
structure KP (Kp : MK) : Prop where
  k : Kp.OkK (.int .u8 0)
  v : ∀ n : Int, (Lit.int .u32 n).wf = true → Kp.OkV (.int .u32 n)
  v' : ∀ x, Kp.OkV x → ∃ n : Int, (Lit.int .u32 n).wf = true ∧ x = .int .u32 n
theorem KP.nxt {Kp : MK} (P : KP Kp) {p : KV} (h : KOK Kp p) : (Lit.int .u32 (nxt p)).wf = true := by
  obtain ⟨n, hn, e⟩ := P.v' _ (kok_val h (z := .int .u32 0) (P.v 0 rfl) (.int .u8 0))
  unfold Sx.nxt
  rw [e]; exact hn
theorem lastB_map {K : MK} {m : KV} {l : List BT} (h : MB K m l) : (lastB m).1 = (l.map (·.1)).getLastD fun _ => 0 := by
  unfold lastB
  rw [h.all, List.getLastD_eq_getLast?, List.getLastD_eq_getLast?, List.getLast?_map]
  cases l.getLast? <;> rfl
theorem CS.lend {K Kp : MK} {m p : KV} {l fin : List BT} (c : CS K Kp m p l fin) : (lastB m).1 2 = endF (l.map (·.1)) := by rw [lastB_map c.mb]; rfl
/-- A post: nothing, or one more. -/
theorem CS.post {K Kp : MK} (B : KB K) (P : KP Kp) {m p : KV} {l fin : List BT} (c : CS K Kp m p l fin) {x : BT × Int} {m' p' : KV} {to : Int} {r : Nat → Int} {poster : Int} {h : Nat → Int} {block : Int} (hto : (Lit.int .u64 to).wf = true) (hbl : (Lit.int .u64 block).wf = true)
    (e : (x, m', p') = postB m p to r poster h block) : ∃ l', CS K Kp m' p' l' fin ∧ l'.length ≤ l.length + 1 := by
  have triv : m' = m → p' = p → ∃ l', CS K Kp m' p' l' fin ∧ l'.length ≤ l.length + 1 := by
    intro e1 e2
    subst e1 e2
    exact ⟨l, c, Nat.le_succ _⟩
  unfold postB at e
  split at e
  · injection e with e0 e; injection e with e1 e2; exact triv e1 e2
  split at e
  · injection e with e0 e; injection e with e1 e2; exact triv e1 e2
  split at e
  · injection e with e0 e; injection e with e1 e2; exact triv e1 e2
  rename_i g1 g2 g3
  injection e with e0 e
  injection e with e1 e2
  have hw := P.nxt c.kp
  have hw' := wf32 hw
  have hl := lastB_ok B c.mb.kok
  obtain ⟨b, hb⟩ : ∃ b : BT, b = (fnL [nxt p, (lastB m).1 2, to, r 0, r 1, r 2, r 3, r 4, r 5, r 6, r 7, r 8, r 9, r 10, r 11, r 12, r 13, r 14, r 15, r 16, r 17, r 18, r 19, r 20, r 21, r 22, r 23, r 24, r 25, r 26, r 27, r 28, r 29, r 30, r 31, poster, h 0, h 1, h 2, h 3, block], false) := ⟨_, rfl⟩
  have hok : okB b := by rw [hb]; exact ⟨hw, hl.to, hto, hbl, fnL_rest rfl⟩
  have hn : b.1 0 = nxt p := by rw [hb]; rfl
  have h1 : b.1 1 = (lastB m).1 2 := by rw [hb]; rfl
  have h2 : b.1 2 = to := by rw [hb]; rfl
  have h40 : b.1 40 = block := by rw [hb]; rfl
  have hf : b.2 = false := by rw [hb]
  have e1' : m' = mset m (nk b) (bV b) := by rw [e1]; unfold nk; rw [hn, hb]
  have hnx : nxt p' = nxt p + 1 := by unfold nxt; rw [e2, mget_set, if_pos rfl]; rfl
  refine ⟨l ++ [b], ⟨by rw [e1']; exact c.mb.add B hok (fun a ha => by rw [hn]; exact c.nx a ha), ?_, ?_, by rw [List.length_append]; have := c.fl; omega, fun i a ha => ?_, fun i hi => ?_, ?_⟩, by simp⟩
  · rw [e2]
    exact c.kp.set P.k (P.v _ (wf32' (n := nxt p + 1) (by omega) (by have : nxt p ≠ 4294967295 := g3; omega)))
  · intro a ha
    rw [hnx]
    rcases List.mem_append.1 ha with ha | ha
    · have := c.nx a ha; omega
    · simp at ha; subst ha; omega
  · rcases Nat.lt_or_ge i l.length with q | q
    · rw [List.getElem?_append_left q] at ha; exact c.fb i a ha
    · have hi : i = l.length := by have := (List.getElem?_eq_some_iff.1 ha).1; simp at this; omega
      subst hi
      simp at ha; subst ha
      rw [hf]
      have := c.fl
      exact (decide_eq_false (by omega)).symm
  · rw [List.getElem?_append_left (by have := c.fl; omega)]; exact c.fe i hi
  · rw [List.map_append]
    refine c.ch.add ?_ ?_ ?_
    · show b.1 1 = _; rw [h1]; exact c.lend
    · show b.1 1 ≤ b.1 2; rw [h1, h2]; omega
    · show _ ≤ b.1 40; rw [h40, ← lastB_map c.mb]; omega
/-- Made final: nothing, or the first one that wasn't. -/
theorem CS.fin {K Kp : MK} (B : KB K) {m p : KV} {l fin : List BT} (c : CS K Kp m p l fin) {w a : Int} {x : BT × Int} {m' : KV} (e : (x, m') = finB m w a) : (x.2 ≠ 0 ∧ m' = m) ∨ (x.2 = 0 ∧ ∃ l', l'.length = l.length ∧ CS K Kp m' p l' (fin ++ [x.1])) := by
  unfold finB at e
  rw [c.mb.all] at e
  cases hf : l.find? (fun b => !b.2) with
  | none => rw [hf] at e; injection e with e1 e2; exact .inl ⟨by rw [e1]; decide, e2⟩
  | some b =>
    rw [hf] at e
    simp only at e
    split at e
    · injection e with e1 e2; exact .inl ⟨by rw [e1]; decide, e2⟩
    · injection e with e1 e2
      refine .inr ⟨by rw [e1], ?_⟩
      have hbf : b.2 = false := by have := List.find?_some hf; simpa using this
      obtain ⟨hp, us, bs, hl, hno⟩ := List.find?_eq_some_iff_append.1 hf
      have hlen : us.length = fin.length := by
        have hi : l[us.length]? = some b := by rw [hl]; simp
        have h1 := c.fb _ _ hi
        rw [hbf] at h1
        have h2 : fin.length ≤ us.length := by
          have := of_decide_eq_false h1.symm; omega
        rcases Nat.lt_or_ge fin.length us.length with q | q
        · have hj : l[fin.length]? = some us[fin.length] := by rw [hl, List.getElem?_append_left q, List.getElem?_eq_getElem q]
          have h3 := c.fb _ _ hj
          have h4 := hno _ (List.getElem_mem q)
          simp at h4
          rw [h4] at h3
          simp at h3
        · omega
      have hi : l[fin.length]? = some b := by rw [hl, ← hlen]; simp
      have hlt := (List.getElem?_eq_some_iff.1 hi).1
      have hbok := c.mb.ok b (List.mem_of_getElem? hi)
      have hx : x.1 = (b.1, true) := by rw [e1]
      rw [hx]
      refine ⟨l.set fin.length (b.1, true), by simp, by rw [e2]; exact c.mb.put B hi (okB_fin hbok true) rfl, c.kp, fun d hd => ?_, by simp; omega, fun i d hd => ?_, fun i hi' => ?_, ?_⟩
      · rcases List.mem_or_eq_of_mem_set hd with hd | rfl
        · exact c.nx d hd
        · exact c.nx b (List.mem_of_getElem? hi)
      · rw [List.getElem?_set] at hd
        split at hd
        · rename_i q
          subst q
          injection hd with hd; subst hd
          simp
        · rename_i q
          rw [c.fb i d hd]
          simp only [List.length_append, List.length_singleton]
          rw [Bool.eq_iff_iff, decide_eq_true_iff, decide_eq_true_iff]; omega
      · simp only [List.length_append, List.length_singleton] at hi'
        rw [List.getElem?_set]
        by_cases q : fin.length = i
        · subst q
          rw [if_pos rfl, if_pos hlt]; simp
        · rw [if_neg q, List.getElem?_append_left (by omega)]
          exact c.fe i (by omega)
      · rw [List.map_set]
        have : (l.map (·.1)).set fin.length b.1 = l.map (·.1) := by
          apply List.ext_getElem?
          intro i
          rw [List.getElem?_set]
          split
          · rename_i q
            subst q
            rw [if_pos (by simpa using hlt), List.getElem?_map, hi]; rfl
          · rfl
        rw [this]; exact c.ch
theorem filter_take : ∀ {l : List BT} (_ : l.Pairwise fun a b => a.1 0 < b.1 0) (n : Int), ∃ j, j ≤ l.length ∧ l.filter (fun b => decide (b.1 0 < n)) = l.take j ∧ ∀ i b, l[i]? = some b → (i < j ↔ b.1 0 < n)
  | [], _, n => ⟨0, Nat.le_refl _, rfl, fun i b h => by simp at h⟩
  | a :: l, h, n => by
    rw [List.pairwise_cons] at h
    by_cases ha : a.1 0 < n
    · obtain ⟨j, h1, h2, h3⟩ := filter_take h.2 n
      refine ⟨j + 1, by simp; omega, by rw [List.filter_cons_of_pos (by simpa using ha), h2, List.take_succ_cons], fun i b hb => ?_⟩
      cases i with
      | zero => simp at hb; subst hb; simp [ha]
      | succ i => rw [← h3 i b (by simpa using hb)]; omega
    · refine ⟨0, Nat.zero_le _, ?_, fun i b hb => ?_⟩
      · rw [List.take_zero, List.filter_eq_nil_iff]
        intro b hb
        simp only [decide_eq_true_eq]
        rcases List.mem_cons.1 hb with rfl | hb
        · exact ha
        · have := h.1 b hb; omega
      · have : ¬ b.1 0 < n := by
          cases i with
          | zero => simp at hb; subst hb; exact ha
          | succ i =>
            have := h.1 b (List.mem_of_getElem? (by simpa using hb : l[i]? = some b)); omega
        simp [this]
/-- Reverted: nothing, or all from a number on, none of them final. -/
theorem CS.rev {K Kp : MK} {m p : KV} {l fin : List BT} (c : CS K Kp m p l fin) (w n a : Int) : ∃ l', l'.length ≤ l.length ∧ CS K Kp (revB m w n a).2 p l' fin := by
  unfold revB
  simp only
  split
  · exact ⟨l, Nat.le_refl _, c⟩
  split
  · exact ⟨l, Nat.le_refl _, c⟩
  split
  · exact ⟨l, Nat.le_refl _, c⟩
  rename_i g1 g2 g3
  rw [c.mb.all]
  obtain ⟨j, hj, hf, hij⟩ := filter_take c.mb.up n
  have hmb := c.mb.drop n
  -- the one that is asked for
  obtain ⟨b, hb, hbn, hbv⟩ : ∃ b ∈ l, b.1 0 = n ∧ b.2 = false := by
    cases hg : mget m (.int .u32 n) with
    | none => rw [hg] at g1; exact absurd rfl g1
    | some v =>
      obtain ⟨b, hb, e1, e2⟩ := (c.mb.get _ _).1 hg
      rw [hg, e2, Option.getD_some, unB_bV (c.mb.ok b hb)] at g2
      injection e1 with _ e1
      exact ⟨b, hb, e1.symm, by simpa using g2⟩
  obtain ⟨i0, hi0⟩ := List.getElem?_of_mem hb
  have h0 : fin.length ≤ i0 := by
    have := c.fb i0 b hi0
    rw [hbv] at this
    have := of_decide_eq_false this.symm; omega
  have hfin : fin.length ≤ j := by
    rcases Nat.lt_or_ge j fin.length with q | q
    · have hlt : j < l.length := by have := c.fl; omega
      have h1 : l[j]? = some l[j] := List.getElem?_eq_getElem hlt
      have h2 := (hij j _ h1)
      have hi0l := (List.getElem?_eq_some_iff.1 hi0).1
      have h3 := List.pairwise_iff_getElem.1 c.mb.up j i0 hlt hi0l (by omega)
      rw [(List.getElem?_eq_some_iff.1 hi0).2, hbn] at h3
      have := h2.2 h3; omega
    · exact q
  refine ⟨l.take j, by rw [List.length_take]; omega, ?_⟩
  rw [hf] at hmb
  have at_ : ∀ (i : Nat) (d : BT), (l.take j)[i]? = some d → l[i]? = some d := by
    intro i d hd
    have hi : i < j := by have := (List.getElem?_eq_some_iff.1 hd).1; simp at this; omega
    rwa [List.getElem?_take_of_lt hi] at hd
  refine ⟨hmb, c.kp, fun d hd => c.nx d (List.mem_of_mem_take hd), by rw [List.length_take]; have := c.fl; omega, fun i d hd => c.fb i d (at_ i d hd), fun i hi => ?_, by rw [List.map_take]; exact c.ch.take j⟩
  rw [List.getElem?_take_of_lt (by omega)]; exact c.fe i hi
end Go.Sx

namespace Go.Sx
open Go.RowKit
def hOK (f : Nat → Int) : Prop := ∀ i, 32 ≤ i → f i = 0
theorem l32_at (f : Nat → Int) (i : Nat) (hi : i < 32) : (l32 f).getD i 0 = f i := by
  have hi' : i = 0 ∨ i = 1 ∨ i = 2 ∨ i = 3 ∨ i = 4 ∨ i = 5 ∨ i = 6 ∨ i = 7 ∨ i = 8 ∨ i = 9 ∨ i = 10 ∨ i = 11 ∨ i = 12 ∨ i = 13 ∨ i = 14 ∨ i = 15 ∨ i = 16 ∨ i = 17 ∨ i = 18 ∨ i = 19 ∨ i = 20 ∨ i = 21 ∨ i = 22 ∨ i = 23 ∨ i = 24 ∨ i = 25 ∨ i = 26 ∨ i = 27 ∨ i = 28 ∨ i = 29 ∨ i = 30 ∨ i = 31 := by omega
  rcases hi' with rfl | rfl | rfl | rfl | rfl | rfl | rfl | rfl | rfl | rfl | rfl | rfl | rfl | rfl | rfl | rfl | rfl | rfl | rfl | rfl | rfl | rfl | rfl | rfl | rfl | rfl | rfl | rfl | rfl | rfl | rfl | rfl <;> rfl
theorem hOK_ext {f g : Nat → Int} (hf : hOK f) (hg : hOK g) (h : hV f = hV g) : f = g := by
  funext i
  rcases Nat.lt_or_ge i 32 with q | q
  · rw [← l32_at f i q, ← l32_at g i q, l32_inj h]
  · rw [hf i q, hg i q]
theorem list32 {α : Type} {l : List α} (h : l.length = 32) : ∃ c0 c1 c2 c3 c4 c5 c6 c7 c8 c9 c10 c11 c12 c13 c14 c15 c16 c17 c18 c19 c20 c21 c22 c23 c24 c25 c26 c27 c28 c29 c30 c31, l = [c0, c1, c2, c3, c4, c5, c6, c7, c8, c9, c10, c11, c12, c13, c14, c15, c16, c17, c18, c19, c20, c21, c22, c23, c24, c25, c26, c27, c28, c29, c30, c31] := by
  match l, h with
  | [c0, c1, c2, c3, c4, c5, c6, c7, c8, c9, c10, c11, c12, c13, c14, c15, c16, c17, c18, c19, c20, c21, c22, c23, c24, c25, c26, c27, c28, c29, c30, c31], _ => exact ⟨c0, c1, c2, c3, c4, c5, c6, c7, c8, c9, c10, c11, c12, c13, c14, c15, c16, c17, c18, c19, c20, c21, c22, c23, c24, c25, c26, c27, c28, c29, c30, c31, rfl⟩
theorem opens_hash {P : Program} {t e : TypeId} (hu : P.underlying t = some (.array 32 e)) (he : P.underlying e = some (.int .u8)) (hc : P.cellsOf e = 1) : Opens P t 32 hV hOK := by
  intro H enc W base sp held fuel cs y hl h
  obtain ⟨xs, m, _, _, _, hlen, hx⟩ := DataW.trod_array hu h
  have one : ∀ (i : Nat) (c : Value), i < 32 → cs[i]? = some c → ∃ n, c = .int .u8 n := by
    intro i c hi hci
    have h1 := hx i hi
    rw [hc, Nat.mul_one] at h1
    have h2 : (cs.drop i).take 1 = [c] := by
      have hlt := (List.getElem?_eq_some_iff.1 hci).1
      rw [List.drop_eq_getElem_cons hlt]
      simp [(List.getElem?_eq_some_iff.1 hci).2]
    rw [h2] at h1
    have h3 : ∃ x, xs[i]? = some x := ⟨xs[i]'(by omega), List.getElem?_eq_getElem (by omega)⟩
    obtain ⟨x, hx'⟩ := h3
    rw [hx'] at h1
    obtain ⟨n, h4, _, _⟩ := DataW.trod_int he h1
    exact ⟨n, by simpa using h4⟩
  obtain ⟨c0, c1, c2, c3, c4, c5, c6, c7, c8, c9, c10, c11, c12, c13, c14, c15, c16, c17, c18, c19, c20, c21, c22, c23, c24, c25, c26, c27, c28, c29, c30, c31, rfl⟩ := list32 hl
  obtain ⟨n0, rfl⟩ := one 0 _ (by decide) rfl
  obtain ⟨n1, rfl⟩ := one 1 _ (by decide) rfl
  obtain ⟨n2, rfl⟩ := one 2 _ (by decide) rfl
  obtain ⟨n3, rfl⟩ := one 3 _ (by decide) rfl
  obtain ⟨n4, rfl⟩ := one 4 _ (by decide) rfl
  obtain ⟨n5, rfl⟩ := one 5 _ (by decide) rfl
  obtain ⟨n6, rfl⟩ := one 6 _ (by decide) rfl
  obtain ⟨n7, rfl⟩ := one 7 _ (by decide) rfl
  obtain ⟨n8, rfl⟩ := one 8 _ (by decide) rfl
  obtain ⟨n9, rfl⟩ := one 9 _ (by decide) rfl
  obtain ⟨n10, rfl⟩ := one 10 _ (by decide) rfl
  obtain ⟨n11, rfl⟩ := one 11 _ (by decide) rfl
  obtain ⟨n12, rfl⟩ := one 12 _ (by decide) rfl
  obtain ⟨n13, rfl⟩ := one 13 _ (by decide) rfl
  obtain ⟨n14, rfl⟩ := one 14 _ (by decide) rfl
  obtain ⟨n15, rfl⟩ := one 15 _ (by decide) rfl
  obtain ⟨n16, rfl⟩ := one 16 _ (by decide) rfl
  obtain ⟨n17, rfl⟩ := one 17 _ (by decide) rfl
  obtain ⟨n18, rfl⟩ := one 18 _ (by decide) rfl
  obtain ⟨n19, rfl⟩ := one 19 _ (by decide) rfl
  obtain ⟨n20, rfl⟩ := one 20 _ (by decide) rfl
  obtain ⟨n21, rfl⟩ := one 21 _ (by decide) rfl
  obtain ⟨n22, rfl⟩ := one 22 _ (by decide) rfl
  obtain ⟨n23, rfl⟩ := one 23 _ (by decide) rfl
  obtain ⟨n24, rfl⟩ := one 24 _ (by decide) rfl
  obtain ⟨n25, rfl⟩ := one 25 _ (by decide) rfl
  obtain ⟨n26, rfl⟩ := one 26 _ (by decide) rfl
  obtain ⟨n27, rfl⟩ := one 27 _ (by decide) rfl
  obtain ⟨n28, rfl⟩ := one 28 _ (by decide) rfl
  obtain ⟨n29, rfl⟩ := one 29 _ (by decide) rfl
  obtain ⟨n30, rfl⟩ := one 30 _ (by decide) rfl
  obtain ⟨n31, rfl⟩ := one 31 _ (by decide) rfl
  exact ⟨fnL [n0, n1, n2, n3, n4, n5, n6, n7, n8, n9, n10, n11, n12, n13, n14, n15, n16, n17, n18, n19, n20, n21, n22, n23, n24, n25, n26, n27, n28, n29, n30, n31], rfl, fun i hi => by unfold fnL; rw [List.getD_eq_getElem?_getD, List.getElem?_eq_none (by simpa using hi)]; rfl⟩
end Go.Sx

namespace Go.Sx
open Go.RowKit
theorem row_cellK {k : Nat} (r : RK k) (e : TypeId) {n j : Nat} {x c : Value} (hx : (vals r.1)[n]? = some x) (hj : x.cells.toList[j]? = some c) : (scells (sk e r.1))[n * k + j]? = some c := by
  obtain ⟨r, hr⟩ := r
  cases r with
  | nil => simp [vals] at hx
  | mk b vs ex =>
    simp only [vals] at hx
    have hn : n < vs.length := by
      rcases Nat.lt_or_ge n vs.length with q | q
      · exact q
      · rw [List.getElem?_eq_none q] at hx; cases hx
    have h1 : (vs ++ ex)[n]? = some x := by rw [List.getElem?_append_left hn, hx]
    have := fl_get hr h1 hj
    simpa [sk, scells] using this
theorem xgetKC {P : Program} {e : TypeId} {k : Nat} (te : TypeId) (ha : ∀ w, (isAgg te).run P w = .ok false w) {X : Type} (val : X → Value) (r : RK k) (n j : Nat) (hx : ∃ x0, ∃ v, (vals r.1)[n]? = some v ∧ v.cells.toList[j]? = some (val x0)) :
    OpT P (do pure (.value (← Instr.loadAt te (.pointer (some ⟨vblk (sv r.1), n * k + j, none⟩))))) [sk e r.1] X val (fun _ => [sk e r.1]) (fun x => (scells (sk e r.1))[n * k + j]? = some (val x)) := by
  obtain ⟨x0, v, hx, hj⟩ := hx
  obtain ⟨r, hr⟩ := r
  intro R w ho
  cases r with
  | nil => simp [vals] at hx
  | mk b vs ex =>
    have hb : w.heap[b]? = some (.cells (fl (vs ++ ex)).toArray e (0, 0)) := ho.block (i := 0) rfl
    have hc := row_cellK (e := e) (⟨.mk b vs ex, hr⟩ : RK k) hx hj
    refine ⟨x0, w, hc, .inl ?_, ho, Ext.refl w⟩
    have h1 : w.cell? ⟨b, n * k + j, none⟩ = some (val x0) := by
      rw [World.cell?, hb]; exact hc
    simp [Instr.loadAt, Instr.sureAddr, vblk, sv, loadVar, Sem.run_bind, ha, h1]
theorem wgetKC {e : TypeId} {k : Nat} {X : Type} {val : X → Value} {r : RK k} {n j : Nat} (hx : ∃ x0, ∃ v, (vals r.1)[n]? = some v ∧ v.cells.toList[j]? = some (val x0)) : ∃ x, (fun x => (scells (sk e r.1))[n * k + j]? = some (val x)) x :=
  let ⟨x0, _, h, h'⟩ := hx; ⟨x0, row_cellK r e h h'⟩
theorem egetKC {e : TypeId} {k : Nat} {X : Type} {val : X → Value} {r : RK k} {n j : Nat} {v c : Value} (hx : (vals r.1)[n]? = some v) (hj : v.cells.toList[j]? = some c) {x : X} (h : (scells (sk e r.1))[n * k + j]? = some (val x)) : val x = c := by
  rw [row_cellK r e hx hj] at h; injection h with h; exact h.symm
theorem revB_len {K : MK} {m : KV} {l : List BT} (h : MB K m l) (w n a : Int) : (revB m w n a).1.1.length ≤ l.length := by
  unfold revB
  simp only
  split
  · exact Nat.zero_le _
  split
  · exact Nat.zero_le _
  split
  · exact Nat.zero_le _
  rw [h.all]; exact List.length_filter_le _ _
theorem CS.fok {K Kp : MK} {m p : KV} {l fin : List BT} (c : CS K Kp m p l fin) : ∀ b ∈ fin, okB b := by
  intro b hb
  obtain ⟨i, hi⟩ := List.getElem?_of_mem hb
  have hlt := (List.getElem?_eq_some_iff.1 hi).1
  have := c.fe i hlt
  rw [hi] at this
  exact c.mb.ok b (List.mem_of_getElem? this)
theorem map1 {l : List BT} {i : Nat} {b : BT} (h : l[i]? = some b) : (l.map (·.1))[i]? = some b.1 := by rw [List.getElem?_map, h]; rfl
theorem CS.num {K Kp : MK} {m p : KV} {l fin : List BT} (c : CS K Kp m p l fin) {i : Nat} {a b : BT} (ha : l[i]? = some a) (hb : l[i + 1]? = some b) : a.1 0 < b.1 0 := by
  obtain ⟨h1, e1⟩ := List.getElem?_eq_some_iff.1 ha
  obtain ⟨h2, e2⟩ := List.getElem?_eq_some_iff.1 hb
  have := List.pairwise_iff_getElem.1 c.mb.up i (i + 1) h1 h2 (Nat.lt_succ_self i)
  rwa [e1, e2] at this
/-- The law's state. -/
def LS (K Kp : MK) (n : Nat) (i : Nat) (m p : KV) (L : List Ent) (fin : RK 42) : Prop := i ≤ n ∧ List.length L ≤ 50 * i ∧ ∃ l fl, CS K Kp m p l fl ∧ vals fin.1 = fl.map bV ∧ l.length ≤ i
theorem LS.start {K Kp : MK} {n : Nat} : LS K Kp n 0 [] [] [] (RK.nil 42) := ⟨Nat.zero_le _, Nat.le_refl _, [], [], CS.start, rfl, Nat.le_refl _⟩
/-- .. within the look at what stands: the place, the end so far. -/
def LI (K Kp : MK) (n i : Nat) (m p : KV) (L : List Ent) (fin y : RK 42) (j : Nat) (e : Int) : Prop := i ≤ n ∧ List.length L ≤ 50 * i ∧ ∃ l fl, CS K Kp m p l fl ∧ vals fin.1 = fl.map bV ∧ l.length ≤ i ∧ vals y.1 = l.map bV ∧ j ≤ l.length ∧ e = endF ((l.map (·.1)).take j)
theorem prev_at {r : RK 42} {l : List BT} (h : vals r.1 = l.map bV) {j : Nat} {b : BT} (hb : l[j - 1]? = some b) : (vals r.1)[Int.toNat (((j : Nat) : Int) - 1)]? = some (bV b) := by
  rw [show Int.toNat (((j : Nat) : Int) - 1) = j - 1 by omega, h, List.getElem?_map, hb]; rfl
end Go.Sx

namespace Go.Sx
open Go
theorem trod_field {H : Type} {enc : TypeId × Value → H} {P : Program} {w : World} {base : Nat} {sp : Nat → Bool} {held : Bool} {fs : Array Field} {cs : List Value} {xs : List (DataW H × List MemPlace)} {n : Nat} (hlen : xs.length = fs.size)
    (hf : ∀ (i : Nat) (f : Field), fs[i]? = some f → DataW.trod enc P w base sp held n f.type ((cs.drop f.offset).take (P.cellsOf f.type)) = xs[i]?) (i : Nat) {f : Field} (h : fs[i]? = some f) {t off k : Nat} (ht : f.type = t) (ho : f.offset = off) (hk : P.cellsOf t = k) :
    ∃ y, DataW.trod enc P w base sp held n t ((cs.drop off).take k) = some y := by
  have hi : i < fs.size := by
    rcases Nat.lt_or_ge i fs.size with q | q
    · exact q
    · rw [Array.getElem?_eq_none q] at h; cases h
  have g := hf i f h
  rw [ht, ho, hk, List.getElem?_eq_getElem (by omega)] at g
  exact ⟨_, g⟩
end Go.Sx
