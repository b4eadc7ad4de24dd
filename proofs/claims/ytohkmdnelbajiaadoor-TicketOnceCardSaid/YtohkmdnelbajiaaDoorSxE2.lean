/- Maps: what they hold, as a list; laws of the operations on them. -/
import Derived.Test.YtohkmdnelbajiaaDoorSxE1
import Derived.Test.YtohkmdnelbajiaaDoorSxB13
set_option linter.unusedVariables false
set_option linter.unusedSimpArgs false
namespace Go.Sx
open Go.RowKit
abbrev KV := List (Value × Value)
noncomputable instance decValue : DecidableEq Value := fun _ _ => Classical.propDecidable _
def kvs (es : Array MapEntry) : KV := es.toList.map fun e => (e.key, e.val)
/-- The map at block r holds m. -/
def mo (r : Nat) (m : KV) : Slot := .par [r] (.kv m) (fun h => ∃ es clock, h r = some (.map es clock) ∧ (∀ c, c ≠ r → h c = none) ∧ kvs es = m)
def skv (s : Slot) : KV := match s with | .par _ (.kv m) _ => m | _ => []
def snum (s : Slot) (i : Nat) : Nat := match s with | .par ns _ _ => ns.getD i 0 | _ => 0
def sents (s : Slot) : List Ent := match s with | .par _ (.ents L) _ => L | _ => []
theorem mo_open {r : Nat} {m : KV} {l : List Slot} {R : HP} {w : World} (h : Own (ofList (mo r m :: l)) R w) : ∃ es clock, kvs es = m ∧ Own (ofList (.blk r (.map es clock) :: l)) R w := by
  obtain ⟨p, q, hs, rest⟩ := h
  obtain ⟨es, clock, h1, h2, h3⟩ := hs 0
  refine ⟨es, clock, h3, p, q, fun i => ?_, rest⟩
  cases i with
  | zero => exact ⟨h1, h2⟩
  | succ i => exact hs (i + 1)
theorem mo_shut {r : Nat} {m : KV} {es : Array MapEntry} {clock : Nat} {l : List Slot} {R : HP} {w : World} (e : kvs es = m) (h : Own (ofList (.blk r (.map es clock) :: l)) R w) : Own (ofList (mo r m :: l)) R w := by
  obtain ⟨p, q, hs, rest⟩ := h
  refine ⟨p, q, fun i => ?_, rest⟩
  cases i with
  | zero => exact ⟨es, clock, (hs 0).1, (hs 0).2, e⟩
  | succ i => exact hs (i + 1)

noncomputable def mget (m : KV) (k : Value) : Option Value := (m.find? fun e => decide (e.1 = k)).map (·.2)

noncomputable def mset (m : KV) (k v : Value) : KV := if (mget m k).isSome then m.map (fun e => if e.1 = k then (k, v) else e) else m ++ [(k, v)]

noncomputable def mdel (m : KV) (k : Value) : KV := m.eraseP fun e => decide (e.1 = k)
/-- Keys stand once. -/
def MOK (m : KV) : Prop := (m.map (·.1)).Nodup
theorem mget_nil (k : Value) : mget [] k = none := rfl
theorem mget_cons (e : Value × Value) (m : KV) (k : Value) : mget (e :: m) k = if e.1 = k then some e.2 else mget m k := by
  unfold mget
  rw [List.find?_cons]
  by_cases h : e.1 = k <;> simp [h]
theorem mget_none {m : KV} {k : Value} : mget m k = none ↔ ∀ e ∈ m, e.1 ≠ k := by
  unfold mget
  rw [Option.map_eq_none_iff, List.find?_eq_none]
  simp
theorem mget_append (m n : KV) (k : Value) : mget (m ++ n) k = (mget m k).or (mget n k) := by
  induction m with
  | nil => rfl
  | cons e m ih => rw [List.cons_append, mget_cons, mget_cons, ih]; split <;> rfl
theorem mget_map_set (m : KV) (k v : Value) (k' : Value) : mget (m.map fun e => if e.1 = k then (k, v) else e) k' = if k' = k then (mget m k).map (fun _ => v) else mget m k' := by
  induction m with
  | nil => simp [mget_nil]
  | cons e m ih =>
    rw [List.map_cons, mget_cons, mget_cons, mget_cons, ih]
    by_cases h : e.1 = k
    · rw [if_pos h]
      by_cases h' : k' = k
      · subst h'; simp [h]
      · rw [if_neg (fun x => h' x.symm), if_neg h', if_neg h', if_neg (fun x => h' (x.symm.trans h))]
    · rw [if_neg h]
      by_cases h' : k' = k
      · subst h'; simp [h]
      · simp [h']
theorem mget_set (m : KV) (k v k' : Value) : mget (mset m k v) k' = if k' = k then some v else mget m k' := by
  unfold mset
  split
  · rename_i h
    rw [mget_map_set]
    split
    · obtain ⟨x, hx⟩ := Option.isSome_iff_exists.1 h
      rw [hx]; rfl
    · rfl
  · rename_i h
    have hn : mget m k = none := by simpa using h
    rw [mget_append, mget_cons, mget_nil]
    split
    · rename_i e; subst e; rw [hn]; simp
    · rename_i e; rw [if_neg (fun x => e x.symm)]; simp
theorem mget_del {m : KV} (hm : MOK m) (k k' : Value) : mget (mdel m k) k' = if k' = k then none else mget m k' := by
  induction m with
  | nil => simp [mdel, mget_nil]
  | cons e m ih =>
    unfold MOK at hm
    rw [List.map_cons, List.nodup_cons] at hm
    unfold mdel
    rw [List.eraseP_cons]
    by_cases h : e.1 = k
    · simp only [h, decide_true, cond_true]
      rw [mget_cons]
      by_cases h' : k' = k
      · subst h'
        rw [if_pos rfl]
        refine mget_none.2 fun x hx he => hm.1 ?_
        exact List.mem_map.2 ⟨x, hx, by rw [he, h]⟩
      · rw [if_neg h', if_neg (fun x => h' (x.symm.trans h))]
    · simp only [h, decide_false, cond_false]
      rw [mget_cons, mget_cons]
      have := ih hm.2
      unfold mdel at this
      rw [this]
      by_cases h' : e.1 = k'
      · simp only [h', if_true]; rw [if_neg (fun x => h (h'.trans x))]
      · simp [h']
theorem keys_map_set (m : KV) (k v : Value) : (m.map fun e => if e.1 = k then (k, v) else e).map (·.1) = m.map (·.1) := by
  rw [List.map_map]
  apply List.map_congr_left
  intro e he
  by_cases h : e.1 = k <;> simp [h]
theorem MOK.set {m : KV} (h : MOK m) (k v : Value) : MOK (mset m k v) := by
  unfold mset
  split
  · unfold MOK; rw [keys_map_set]; exact h
  · rename_i hn
    have hn : mget m k = none := by simpa using hn
    unfold MOK
    rw [List.map_append, List.map_cons, List.map_nil, List.nodup_append]
    refine ⟨h, by simp, fun a ha b hb => ?_⟩
    simp at hb; subst hb
    obtain ⟨e, he, rfl⟩ := List.mem_map.1 ha
    exact mget_none.1 hn e he
theorem MOK.del {m : KV} (h : MOK m) (k : Value) : MOK (mdel m k) := by
  unfold MOK mdel
  exact h.sublist (List.eraseP_sublist.map _)
theorem MOK.nil : MOK [] := List.nodup_nil
/-! ### Keys -/
/-- How the model compares keys of type kt: as values. -/
structure KL (P : Program) (kt : TypeId) (Ok : Value → Prop) : Prop where
  check : ∀ b k w, Ok k → (Instr.checkKey b 10000 kt k).run P w = .ok () w
  find : ∀ k (es : List MapEntry) w, Ok k → (∀ e ∈ es, Ok e.key) → ∃ o, (Instr.findKey kt k es).run P w = .ok o w ∧
    (match o with | none => mget (es.map fun e => (e.key, e.val)) k = none | some (i, v) => ∃ e, es[i]? = some e ∧ e.key = k ∧ e.val = v ∧ ∀ j e', j < i → es[j]? = some e' → e'.key ≠ k)
  same : ∀ k, Ok k → Instr.sameBits 10000 k k = true
theorem mget_found {es : List MapEntry} {k : Value} {i : Nat} {e : MapEntry} (h : es[i]? = some e) (hk : e.key = k) (hl : ∀ j e', j < i → es[j]? = some e' → e'.key ≠ k) : mget (es.map fun e => (e.key, e.val)) k = some e.val := by
  induction es generalizing i with
  | nil => simp at h
  | cons x es ih =>
    rw [List.map_cons, mget_cons]
    cases i with
    | zero => simp at h; subst h; simp [hk]
    | succ i =>
      have hx := hl 0 x (by omega) (by simp)
      rw [if_neg hx]
      exact ih (by simpa using h) fun j e' hj he => hl (j + 1) e' (by omega) (by simpa using he)
structure TM (P : Program) (t kt vt : TypeId) (Ok : Value → Prop) (z : Value) : Prop where
  und : P.underlying t = some (.map kt vt)
  key : KL P kt Ok
  zero : ∀ w, (zeroValue vt).run P w = .ok z w
def KeysOk (Ok : Value → Prop) (m : KV) : Prop := ∀ e ∈ m, Ok e.1
theorem kvs_keys {Ok : Value → Prop} {es : Array MapEntry} {m : KV} (e : kvs es = m) (h : KeysOk Ok m) : ∀ x ∈ es.toList, Ok x.key := fun x hx => h (x.key, x.val) (by rw [← e]; exact List.mem_map.2 ⟨x, hx, rfl⟩)
theorem run_getMap {P : Program} {w : World} {r : Nat} {es : Array MapEntry} {clock : Nat} (h : w.heap[r]? = some (.map es clock)) : (getObj r).run P w = .ok (.map es clock) w := by
  simp [getObj, Sem.run, h]
theorem xlookup {P : Program} {t kt vt : TypeId} {Ok : Value → Prop} {z : Value} (T : TM P t kt vt Ok z) {r : Nat} {m : KV} (hm : KeysOk Ok m) {k : Value} (hk : Ok k) :
    OpT P (do pure (.value (← Instr.lookup t (.map (some r)) k true))) [mo r m] Unit (fun _ => .tuple #[(mget m k).getD z, .bool (mget m k).isSome]) (fun _ => [mo r m]) (fun _ => True) := by
  intro R w ho
  obtain ⟨es, clock, e, ho'⟩ := mo_open ho
  have hb := ho'.block (i := 0) rfl
  obtain ⟨o, hf, hspec⟩ := T.key.find k es.toList w hk (kvs_keys e hm)
  refine ⟨(), w, trivial, .inl ?_, ho, Ext.refl w⟩
  have hg : mget m k = o.map (·.2) := by
    rw [← e]
    cases o with
    | none => exact hspec
    | some iv =>
      obtain ⟨x, h1, h2, h3, h4⟩ := hspec
      exact (mget_found h1 h2 h4).trans (by rw [h3]; rfl)
  rw [hg]
  simp only [Instr.lookup, Sem.run_bind, run_underlying T.und, Result.andThen_ok, run_getMap hb, Sem.run_pure, T.key.check _ _ _ hk, hf]
  cases o with
  | none => simp [T.zero w]
  | some iv => simp
theorem own_setMap {r : Nat} {es : Array MapEntry} {clock : Nat} {o : Obj} {l : List Slot} {R : HP} {w : World} (ho : Own (ofList (.blk r (.map es clock) :: l)) R w) :
    Own (ofList (.blk r o :: l)) R { w with heap := w.heap.setIfInBounds r o } := by
  have hb := ho.block (i := 0) rfl
  have hlt : r < w.heap.size := by
    rcases Nat.lt_or_ge r w.heap.size with h | h
    · exact h
    · simp [Array.getElem?_eq_none h] at hb
  have := ho.set (i := 0) (w' := { w with heap := w.heap.setIfInBounds r o }) (o' := o) rfl (by simp [hlt]) (fun c hc => by simp [Ne.symm hc])
  refine (congrArg (fun H => Own H R _) ?_).mp this
  funext i
  cases i <;> rfl
theorem run_setMap {P : Program} {w : World} {r : Nat} {es : Array MapEntry} {clock : Nat} {o : Obj} (h : w.heap[r]? = some (.map es clock)) : (setObj r o).run P w = .ok () { w with heap := w.heap.setIfInBounds r o } := by
  simp [setObj, Sem.run, h]
theorem ext_setMap (w : World) (r : Nat) (o : Obj) : Ext w { w with heap := w.heap.setIfInBounds r o } := ⟨rfl, rfl, rfl, by simp⟩
theorem kvs_modify {es : Array MapEntry} {i : Nat} {x : MapEntry} {k v : Value} {f : MapEntry → MapEntry} (h : es.toList[i]? = some x) (hk : x.key = k) (hl : ∀ j e', j < i → es.toList[j]? = some e' → e'.key ≠ k) (hn : MOK (kvs es))
    (hf : ∀ y, (f y).key = k ∧ (f y).val = v) : kvs (es.modify i f) = mset (kvs es) k v := by
  have hg : mget (kvs es) k = some x.val := mget_found h hk hl
  unfold mset
  rw [if_pos (by rw [hg]; rfl)]
  unfold kvs
  apply List.ext_getElem?
  intro j
  rw [List.getElem?_map, List.getElem?_map, List.getElem?_map]
  have hm : (es.modify i f).toList[j]? = if i = j then es.toList[j]?.map f else es.toList[j]? := by
    rw [Array.toList_modify, List.getElem?_modify]
    by_cases hij : i = j <;> simp [hij]
  rw [hm]
  by_cases hij : i = j
  · subst hij
    rw [if_pos rfl, h]
    simp [hk, hf]
  · rw [if_neg hij]
    cases hj : es.toList[j]? with
    | none => rfl
    | some y =>
      have hy : y.key ≠ k := by
        intro hyk
        rcases Nat.lt_or_gt_of_ne hij with hlt | hlt
        · -- j behind i: the key would stand twice
          unfold MOK at hn
          have h1 : ((kvs es).map (·.1))[i]? = some k := by simp [kvs, h, hk]
          have h2 : ((kvs es).map (·.1))[j]? = some k := by simp [kvs, hj, hyk]
          obtain ⟨a1, b1⟩ := List.getElem?_eq_some_iff.1 h1
          obtain ⟨a2, b2⟩ := List.getElem?_eq_some_iff.1 h2
          exact hij ((List.getElem_inj hn).1 (b1.trans b2.symm))
        · exact hl j y hlt hj hyk
      simp [hy]
theorem kvs_push {es : Array MapEntry} {k v : Value} {b : Nat} (h : mget (kvs es) k = none) : kvs (es.push { key := k, val := v, born := b }) = mset (kvs es) k v := by
  unfold mset
  rw [if_neg (by rw [h]; simp)]
  simp [kvs]
theorem kvs_erase {es : Array MapEntry} {i : Nat} {x : MapEntry} {k : Value} (h : es.toList[i]? = some x) (hk : x.key = k) (hl : ∀ j e', j < i → es.toList[j]? = some e' → e'.key ≠ k) : kvs (es.eraseIdxIfInBounds i) = mdel (kvs es) k := by
  have key : ∀ (l : List MapEntry) (i : Nat), l[i]? = some x → (∀ j e', j < i → l[j]? = some e' → e'.key ≠ k) → (l.eraseIdx i).map (fun e => (e.key, e.val)) = mdel (l.map fun e => (e.key, e.val)) k := by
    intro l
    induction l with
    | nil => intro i h; simp at h
    | cons y l ih =>
      intro i h hl
      unfold mdel
      rw [List.map_cons, List.eraseP_cons]
      cases i with
      | zero =>
        simp at h; subst h
        simp [hk]
      | succ i =>
        have hy := hl 0 y (by omega) (by simp)
        simp only [hy, decide_false, cond_false, List.eraseIdx_cons_succ, List.map_cons]
        have := ih i (by simpa using h) fun j e' hj he => hl (j + 1) e' (by omega) (by simpa using he)
        unfold mdel at this
        rw [this]
  have hlt : i < es.size := by
    have := (List.getElem?_eq_some_iff.1 h).1
    simpa using this
  unfold kvs
  rw [← key es.toList i h hl]
  simp [Array.eraseIdxIfInBounds, hlt]
theorem keysOk_set {Ok : Value → Prop} {m : KV} (h : KeysOk Ok m) {k : Value} (hk : Ok k) (v : Value) : KeysOk Ok (mset m k v) := by
  intro e he
  unfold mset at he
  split at he
  · obtain ⟨x, hx, rfl⟩ := List.mem_map.1 he
    split
    · exact hk
    · exact h x hx
  · rcases List.mem_append.1 he with he | he
    · exact h e he
    · simp at he; subst he; exact hk
theorem keysOk_del {Ok : Value → Prop} {m : KV} (h : KeysOk Ok m) (k : Value) : KeysOk Ok (mdel m k) := fun e he => h e (List.mem_of_mem_eraseP he)
theorem keysOk_nil {Ok : Value → Prop} : KeysOk Ok [] := fun e h => by cases h
theorem xupdate {P : Program} {t kt vt : TypeId} {Ok : Value → Prop} {z : Value} (T : TM P t kt vt Ok z) {r : Nat} {m : KV} (hm : KeysOk Ok m) (hn : MOK m) {k : Value} (hk : Ok k) (v : Value) :
    OpT P (do Instr.mapUpdate t (.map (some r)) k v; pure .skip) [mo r m] Unit (fun _ => undef) (fun _ => [mo r (mset m k v)]) (fun _ => True) := by
  intro R w ho
  obtain ⟨es, clock, e, ho'⟩ := mo_open ho
  have hb := ho'.block (i := 0) rfl
  obtain ⟨o, hf, hspec⟩ := T.key.find k es.toList w hk (kvs_keys e hm)
  cases o with
  | none =>
    have hg : mget (kvs es) k = none := hspec
    refine ⟨(), _, trivial, .inr ⟨?_, rfl⟩, mo_shut (by rw [kvs_push hg, e]) (own_setMap (o := .map (es.push { key := k, val := v, born := clock }) (clock + 1)) ho'), ext_setMap _ _ _⟩
    simp only [Instr.mapUpdate, Sem.run_bind, run_underlying T.und, Result.andThen_ok, run_getMap hb, T.key.check _ _ _ hk, hf, run_setMap hb, Sem.run_pure]
  | some iv =>
    obtain ⟨i, u⟩ := iv
    obtain ⟨x, h1, h2, h3, h4⟩ := hspec
    have hxi : es[i]? = some x := by simpa using h1
    refine ⟨(), _, trivial, .inr ⟨?_, rfl⟩, mo_shut (by rw [kvs_modify (v := v) h1 h2 h4 (by rw [e]; exact hn) (f := fun y => { y with key := k, val := v }) (fun y => ⟨rfl, rfl⟩), e]) (own_setMap (o := .map (es.modify i fun y => { y with key := k, val := v }) clock) ho'), ext_setMap _ _ _⟩
    have hs : (Instr.keyThatStays (((es[i]?).map (·.key)).getD k) k).run P w = .ok k w := by
      rw [hxi]
      simp [h2, Instr.keyThatStays, T.key.same k hk]
    simp only [Instr.mapUpdate, Sem.run_bind, run_underlying T.und, Result.andThen_ok, run_getMap hb, T.key.check _ _ _ hk, hf, hs, run_setMap hb, Sem.run_pure]
theorem xdelete {P : Program} {t kt vt : TypeId} {Ok : Value → Prop} {z : Value} (T : TM P t kt vt Ok z) (ty kt' : TypeId) {r : Nat} {m : KV} (hm : KeysOk Ok m) {k : Value} (hk : Ok k) :
    OpT P (do pure (.value (← Builtin.delete_ #[t, kt'] ty #[.map (some r), k]))) [mo r m] Unit (fun _ => undef) (fun _ => [mo r (mdel m k)]) (fun _ => True) := by
  intro R w ho
  obtain ⟨es, clock, e, ho'⟩ := mo_open ho
  have hb := ho'.block (i := 0) rfl
  obtain ⟨o, hf, hspec⟩ := T.key.find k es.toList w hk (kvs_keys e hm)
  cases o with
  | none =>
    have hg : mget (kvs es) k = none := hspec
    have hd : mdel m k = m := by
      unfold mdel
      refine List.eraseP_of_forall_not fun x hx => ?_
      rw [e] at hg
      simpa using mget_none.1 hg x hx
    refine ⟨(), _, trivial, .inl ?_, mo_shut (by rw [hd, e]) (own_setMap (o := .map es clock) ho'), ext_setMap _ _ _⟩
    simp [Builtin.delete_, Sem.run_bind, run_underlying T.und, run_getMap hb, T.key.check _ _ _ hk, hf, run_setMap hb, undef]
  | some iv =>
    obtain ⟨i, u⟩ := iv
    obtain ⟨x, h1, h2, h3, h4⟩ := hspec
    refine ⟨(), _, trivial, .inl ?_, mo_shut (by rw [kvs_erase h1 h2 h4, e]) (own_setMap (o := .map (es.eraseIdxIfInBounds i) clock) ho'), ext_setMap _ _ _⟩
    simp [Builtin.delete_, Sem.run_bind, run_underlying T.und, run_getMap hb, T.key.check _ _ _ hk, hf, run_setMap hb, undef]
theorem xmlen {P : Program} {t kt vt : TypeId} (hu : P.underlying t = some (.map kt vt)) (ty : TypeId) {r : Nat} {m : KV} :
    OpT P (do pure (.value (← Builtin.len_ #[t] ty #[.map (some r)]))) [mo r m] Unit (fun _ => .int .i64 ((m.length : Nat) : Int)) (fun _ => [mo r m]) (fun _ => True) := by
  intro R w ho
  obtain ⟨es, clock, e, ho'⟩ := mo_open ho
  have hb := ho'.block (i := 0) rfl
  refine ⟨(), w, trivial, .inl ?_, ho, Ext.refl w⟩
  have hl : es.size = m.length := by rw [← e]; simp [kvs]
  simp [Builtin.len_, Sem.run_bind, run_underlying hu, run_getMap hb, goInt, hl]
end Go.Sx
