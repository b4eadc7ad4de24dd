/- The journal and its maps: what they hold, as bundles. -/
import Derived.Test.YtohkmdnelbajiaaDoorSxE2
set_option linter.unusedVariables false
set_option linter.unusedSimpArgs false
namespace Go.Sx
open Go.RowKit
def pur (φ : Prop) : Slot := .par [] .none (fun h => h = Hl.emp ∧ φ)
theorem sep_pur {φ : Prop} {a : List Slot} {h : Hl} : SepL (a ++ [pur φ]) h ↔ SepL a h ∧ φ := by
  constructor
  · intro k
    obtain ⟨p, q, ha, ⟨p2, q2, ⟨rfl, hφ⟩, rfl, _, rfl⟩, _, rfl⟩ := (sep_append _ _).1 k
    exact ⟨by rw [emp_un, un_emp]; exact ha, hφ⟩
  · intro ⟨ha, hφ⟩
    exact (sep_append _ _).2 ⟨h, Hl.emp, ha, ⟨Hl.emp, Hl.emp, ⟨rfl, hφ⟩, rfl, disj_emp, rfl⟩, disj_emp, un_emp.symm⟩
theorem sep_free {a : List Slot} {h : Hl} : SepL (a ++ [.free]) h ↔ SepL a h := by
  constructor
  · intro k
    obtain ⟨p, q, ha, ⟨p2, q2, hf, rfl, _, rfl⟩, _, rfl⟩ := (sep_append _ _).1 k
    have : p2 = Hl.emp := funext hf
    rw [this, emp_un, un_emp]; exact ha
  · intro ha
    exact (sep_append _ _).2 ⟨h, Hl.emp, ha, ⟨Hl.emp, Hl.emp, fun _ => rfl, rfl, disj_emp, rfl⟩, disj_emp, un_emp.symm⟩
/-! ### A map of a journal -/
structure MK where
  te : TypeId
  less : Value
  OkK : Value → Prop
  OkV : Value → Prop
structure KOK (K : MK) (m : KV) : Prop where
  once : MOK m
  ok : ∀ e ∈ m, K.OkK e.1 ∧ K.OkV e.2
theorem KOK.keys {K : MK} {m : KV} (h : KOK K m) : KeysOk K.OkK m := fun e he => (h.ok e he).1
theorem KOK.nil {K : MK} : KOK K [] := ⟨MOK.nil, fun e h => by cases h⟩
theorem mem_set {m : KV} {k v : Value} {e : Value × Value} (h : e ∈ mset m k v) : e = (k, v) ∨ e ∈ m := by
  unfold mset at h
  split at h
  · obtain ⟨x, hx, rfl⟩ := List.mem_map.1 h
    split
    · exact .inl rfl
    · exact .inr hx
  · rcases List.mem_append.1 h with h | h
    · exact .inr h
    · simp at h; exact .inl h
theorem KOK.set {K : MK} {m : KV} (h : KOK K m) {k v : Value} (hk : K.OkK k) (hv : K.OkV v) : KOK K (mset m k v) :=
  ⟨h.once.set k v, fun e he => (mem_set he).elim (fun x => by subst x; exact ⟨hk, hv⟩) (h.ok e)⟩
theorem KOK.del {K : MK} {m : KV} (h : KOK K m) (k : Value) : KOK K (mdel m k) := ⟨h.once.del k, fun e he => h.ok e (List.mem_of_mem_eraseP he)⟩
theorem mget_mem {m : KV} {k v : Value} (h : mget m k = some v) : (k, v) ∈ m := by
  unfold mget at h
  obtain ⟨e, he, rfl⟩ := Option.map_eq_some_iff.1 h
  have h1 := List.find?_some he
  have h2 := List.mem_of_find?_eq_some he
  simp at h1
  subst h1; exact h2
theorem KOK.val {K : MK} {m : KV} (h : KOK K m) {k v : Value} (hg : mget m k = some v) : K.OkV v := (h.ok _ (mget_mem hg)).2
def mF (K : MK) (b bj : Nat) (m : KV) : Nat → List Slot := fun r =>
  [.blk b (.cells #[.map (some r), .pointer (some ⟨bj, 0, none⟩), K.less] K.te (0, 0)), mo r m] ++ [pur (KOK K m)]
/-- The map whose block is b, of the journal at bj, holds m. -/
def mS (K : MK) (b bj : Nat) (m : KV) : Slot := bun [b, bj] (.kv m) (mF K b bj m)
theorem mS_shut {K : MK} {b bj r : Nat} {m : KV} (h : KOK K m) (l : List Slot) : Imp (.blk b (.cells #[.map (some r), .pointer (some ⟨bj, 0, none⟩), K.less] K.te (0, 0)) :: mo r m :: l) (mS K b bj m :: l) := by
  refine Imp.trans (.same fun p hp => ?_) (bun_shut r l)
  have h2 : SepL ([.blk b (.cells #[.map (some r), .pointer (some ⟨bj, 0, none⟩), K.less] K.te (0, 0)), mo r m] ++ l) p := hp
  obtain ⟨p1, p2, ha, hb, d, rfl⟩ := (sep_append _ _).1 h2
  exact (sep_append _ _).2 ⟨p1, p2, sep_pur.2 ⟨ha, h⟩, hb, d, rfl⟩
theorem mS_open {K : MK} {b bj : Nat} {m : KV} {l : List Slot} {R : HP} {w : World} (h : Own (ofList (mS K b bj m :: l)) R w) :
    ∃ r, KOK K m ∧ Own (ofList (.blk b (.cells #[.map (some r), .pointer (some ⟨bj, 0, none⟩), K.less] K.te (0, 0)) :: mo r m :: l)) R w := by
  obtain ⟨r, hr⟩ := bun_open h
  obtain ⟨p, q, hp, hq, hw, hqw, d⟩ := own_sep.1 hr
  obtain ⟨p1, p2, ha, hb, d2, rfl⟩ := (sep_append _ _).1 hp
  obtain ⟨ha', hk⟩ := sep_pur.1 ha
  exact ⟨r, hk, own_sep.2 ⟨_, q, (sep_append [_, _] l).2 ⟨p1, p2, ha', hb, d2, rfl⟩, hq, hw, hqw, d⟩⟩
/-- A contract over an opened map is one over the map. -/
theorem mS_call {P : Program} {f : FuncId} {args : Array Value} {K : MK} {b bj : Nat} {m : KV} {l : List Slot} {X : Type} {val : X → Value} {us : X → List Slot} {Φ : X → Prop} {m' : X → KV} (he : EnterOK P f)
    (h : ∀ r, KOK K m → CallT P f args (.blk b (.cells #[.map (some r), .pointer (some ⟨bj, 0, none⟩), K.less] K.te (0, 0)) :: mo r m :: l) X val (fun x => .blk b (.cells #[.map (some r), .pointer (some ⟨bj, 0, none⟩), K.less] K.te (0, 0)) :: mo r (m' x) :: us x) Φ)
    (hk : ∀ x, Φ x → KOK K m → KOK K (m' x)) : CallT P f args (mS K b bj m :: l) X val (fun x => mS K b bj (m' x) :: us x) Φ :=
  ⟨he, fun R w ho => by
    obtain ⟨r, hm, ho'⟩ := mS_open ho
    exact ((h r hm).calls R w ho').mono fun _ _ ⟨x, hx, e, o, ext⟩ => ⟨x, hx, e, mS_shut (hk x hx hm) _ _ _ o, ext⟩⟩
/-! ### The journal -/
abbrev N4 := Nat × Nat × Nat × Nat
abbrev Rw := Row
abbrev ptr (b : Nat) : Value := .pointer (some ⟨b, 0, none⟩)
def Ent.fn (e : Ent) (a : N4) : Value := .func (.func e.g) #[] #[ptr a.1, ptr a.2.1, ptr a.2.2.1, ptr a.2.2.2]
def Ent.sl (e : Ent) (a : N4) : List Slot :=
  [.blk a.1 (.cells #[.bool e.was.isSome] e.t1 (0, 0)), .blk a.2.1 (.cells (e.was.getD e.z).cells e.t2 (0, 0)), .blk a.2.2.1 (.cells #[ptr e.b] e.t3 (0, 0)), .blk a.2.2.2 (.cells e.key.cells e.t4 (0, 0))]
def ents (L : List Ent) (A : List N4) : List Slot := (L.zip A).flatMap fun x => x.1.sl x.2
def fns (L : List Ent) (A : List N4) : List Value := (L.zip A).map fun x => x.1.fn x.2
structure JK where
  tj : TypeId
  ft : TypeId
def jF (K : JK) (bj : Nat) (L : List Ent) : Row × List N4 → List Slot := fun e =>
  (.blk bj (.cells #[sv e.1] K.tj (0, 0)) :: ss K.ft e.1 :: ents L e.2) ++ [pur (vals e.1 = fns L e.2 ∧ e.2.length = L.length)]
/-- The journal at bj holds the entries L. -/
def jS (K : JK) (bj : Nat) (L : List Ent) : Slot := bun [bj] (.ents L) (jF K bj L)
theorem jS_shut {K : JK} {bj : Nat} {L : List Ent} {row : Row} {A : List N4} (hv : vals row = fns L A) (hl : A.length = L.length) (l : List Slot) :
    Imp (.blk bj (.cells #[sv row] K.tj (0, 0)) :: ss K.ft row :: (ents L A ++ l)) (jS K bj L :: l) := by
  refine Imp.trans (.same fun p hp => ?_) (bun_shut (row, A) l)
  have h2 : SepL ((.blk bj (.cells #[sv row] K.tj (0, 0)) :: ss K.ft row :: ents L A) ++ l) p := hp
  obtain ⟨p1, p2, ha, hb, d, rfl⟩ := (sep_append _ _).1 h2
  exact (sep_append _ _).2 ⟨p1, p2, sep_pur.2 ⟨ha, hv, hl⟩, hb, d, rfl⟩
theorem jS_open {K : JK} {bj : Nat} {L : List Ent} {l : List Slot} {R : HP} {w : World} (h : Own (ofList (jS K bj L :: l)) R w) :
    ∃ row A, vals row = fns L A ∧ A.length = L.length ∧ Own (ofList (.blk bj (.cells #[sv row] K.tj (0, 0)) :: ss K.ft row :: (ents L A ++ l))) R w := by
  obtain ⟨⟨row, A⟩, hr⟩ := bun_open h
  obtain ⟨p, q, hp, hq, hw, hqw, d⟩ := own_sep.1 hr
  obtain ⟨p1, p2, ha, hb, d2, rfl⟩ := (sep_append _ _).1 hp
  obtain ⟨ha', hv, hl⟩ := sep_pur.1 ha
  exact ⟨row, A, hv, hl, own_sep.2 ⟨_, q, (sep_append (_ :: _ :: ents L A) l).2 ⟨p1, p2, ha', hb, d2, rfl⟩, hq, hw, hqw, d⟩⟩
theorem fns_len {L : List Ent} {A : List N4} (h : A.length = L.length) : (fns L A).length = L.length := by simp [fns, h]
theorem fns_snoc {L : List Ent} {A : List N4} (h : A.length = L.length) (e : Ent) (a : N4) : fns (L ++ [e]) (A ++ [a]) = fns L A ++ [e.fn a] := by
  unfold fns; rw [List.zip_append h.symm, List.map_append]; rfl
theorem ents_snoc {L : List Ent} {A : List N4} (h : A.length = L.length) (e : Ent) (a : N4) : ents (L ++ [e]) (A ++ [a]) = ents L A ++ e.sl a := by
  unfold ents; rw [List.zip_append h.symm, List.flatMap_append]; simp
/-- A contract over the opened journal that leaves its entries alone. -/
theorem jS_read {P : Program} {f : FuncId} {args : Array Value} {K : JK} {bj : Nat} {L : List Ent} {X : Type} {val : X → Value} {Φ : X → Prop} (he : EnterOK P f)
    (h : ∀ row, vals row = vals row → (vals row).length = L.length → CallT P f args [.blk bj (.cells #[sv row] K.tj (0, 0)), ss K.ft row] X val (fun _ => [.blk bj (.cells #[sv row] K.tj (0, 0)), ss K.ft row]) Φ) :
    CallT P f args [jS K bj L] X val (fun _ => [jS K bj L]) Φ :=
  ⟨he, fun R w ho => by
    obtain ⟨row, A, hv, hl, ho'⟩ := jS_open (l := []) ho
    rw [List.append_nil] at ho'
    have c := (h row rfl (by rw [hv, fns_len hl])).frame (ents L A)
    exact (c.calls R w ho').mono fun _ _ ⟨x, hx, e, o, ext⟩ => ⟨x, hx, e, jS_shut hv hl [] _ _ (by rw [List.append_nil]; exact o), ext⟩⟩
theorem ss_nil (e : TypeId) : ss e .nil = .free := rfl
/-- A journal without entries. -/
theorem jS_empty {K : JK} {bj : Nat} : Imp [.blk bj (.cells #[.slice none 0 0] K.tj (0, 0))] [jS K bj []] := by
  refine Imp.trans (.same fun p hp => ?_) (jS_shut (row := .nil) (A := []) rfl rfl [])
  exact (sep_free (a := [.blk bj (.cells #[.slice none 0 0] K.tj (0, 0))])).2 hp
theorem jS_keep {P : Program} {f : FuncId} {args : Array Value} {K : JK} {bj : Nat} {L : List Ent} (he : EnterOK P f)
    (h : ∀ row, CallT P f args [.blk bj (.cells #[sv row] K.tj (0, 0))] Unit (fun _ => undef) (fun _ => [.blk bj (.cells #[.slice none 0 0] K.tj (0, 0))]) (fun _ => True)) :
    CallT P f args [jS K bj L] Unit (fun _ => undef) (fun _ => [jS K bj []]) (fun _ => True) :=
  ⟨he, fun R w ho => by
    obtain ⟨row, A, hv, hl, ho'⟩ := jS_open (l := []) ho
    have c := (h row).frame (ss K.ft row :: (ents L A ++ []))
    exact (c.calls R w ho').mono fun _ _ ⟨x, hx, e, o, ext⟩ => ⟨x, hx, e, (Imp.drop [_] _).trans jS_empty _ _ o, ext⟩⟩
/-- What 'note' does, over the opened map. -/
theorem jS_note {P : Program} {f : FuncId} {args : Array Value} {K : JK} {bj : Nat} {L : List Ent} {S1 S2 : Slot} {V : Type} {vv : V → Value} {e : Ent} {mk : Option Value → Ent} (he : EnterOK P f) (hs : e.was.isSome = e.was.isSome)
    (h : ∀ row, (vals row).length = L.length → CallT P f args [S1, S2, .blk bj (.cells #[sv row] K.tj (0, 0)), ss K.ft row] (Row × N4 × V × Bool) (fun _ => undef)
      (fun x => [S1, S2, .blk bj (.cells #[sv x.1] K.tj (0, 0)), ss K.ft x.1, .blk x.2.1.1 (.cells #[.bool x.2.2.2] e.t1 (0, 0)), .blk x.2.1.2.1 (.cells (vv x.2.2.1).cells e.t2 (0, 0)), .blk x.2.1.2.2.1 (.cells #[ptr e.b] e.t3 (0, 0)), .blk x.2.1.2.2.2 (.cells e.key.cells e.t4 (0, 0))])
      (fun x => vals x.1 = vals row ++ [e.fn x.2.1] ∧ x.2.2.2 = e.was.isSome ∧ vv x.2.2.1 = e.was.getD e.z)) :
    CallT P f args [S1, S2, jS K bj L] Unit (fun _ => undef) (fun _ => [S1, S2, jS K bj (L ++ [e])]) (fun _ => True) :=
  ⟨he, fun R w ho => by
    have ho1 : Own (ofList (jS K bj L :: [S1, S2])) R w := Imp.swap [S1, S2] [jS K bj L] R w ho
    obtain ⟨row, A, hv, hl, ho2⟩ := jS_open (l := [S1, S2]) ho1
    have ho3 : Own (ofList ([S1, S2] ++ ([.blk bj (.cells #[sv row] K.tj (0, 0)), ss K.ft row] ++ ents L A))) R w :=
      Imp.swap ([.blk bj (.cells #[sv row] K.tj (0, 0)), ss K.ft row] ++ ents L A) [S1, S2] R w ho2
    have c := (h row (by rw [hv, fns_len hl])).frame (ents L A)
    refine (c.calls R w ho3).mono fun e' w' hh => ?_
    obtain ⟨x, ⟨h1, h2, h3⟩, e1, o, ext⟩ := hh
    refine ⟨(), trivial, e1, ?_, ext⟩
    obtain ⟨y, a, v, is⟩ := x
    simp only at h1 h2 h3 o
    rw [h2, h3] at o
    have o1 : Own (ofList ([S1, S2] ++ ([.blk bj (.cells #[sv y] K.tj (0, 0)), ss K.ft y] ++ (e.sl a ++ ents L A)))) R w' := o
    have o2 := Imp.swap [S1, S2] _ R w' o1
    have o3 : Own (ofList (.blk bj (.cells #[sv y] K.tj (0, 0)) :: ss K.ft y :: (ents (L ++ [e]) (A ++ [a]) ++ [S1, S2]))) R w' := by
      refine (Imp.same fun p hp => ?_) R w' o2
      rw [ents_snoc hl]
      have hp' : SepL ([.blk bj (.cells #[sv y] K.tj (0, 0)), ss K.ft y] ++ ((e.sl a ++ ents L A) ++ [S1, S2])) p := by rw [← List.append_assoc]; exact hp
      obtain ⟨p1, p2, ha, hb, d, rfl⟩ := (sep_append _ _).1 hp'
      obtain ⟨p3, p4, hc, hd, d2, rfl⟩ := (sep_append _ _).1 hb
      exact (sep_append [.blk bj (.cells #[sv y] K.tj (0, 0)), ss K.ft y] ((ents L A ++ e.sl a) ++ [S1, S2])).2 ⟨p1, _, ha, (sep_append _ _).2 ⟨p3, p4, sep_swap hc, hd, d2, rfl⟩, d, rfl⟩
    have o4 := jS_shut (by rw [fns_snoc hl, h1, hv]) (by simp [hl]) [S1, S2] R w' o3
    exact Imp.swap [jS K bj (L ++ [e])] [S1, S2] R w' o4⟩
end Go.Sx
