/- What undoing gives: maps as they were, key by key; the law PairMaps's plain part. -/
import Derived.Test.YtohkmdnelbajiaaSxG3
import Derived.Test.YtohkmdnelbajiaaSxF4
import Derived.Test.YtohkmdnelbajiaaSxF1
import Derived.Test.YtohkmdnelbajiaaSxD1
set_option linter.unusedVariables false
set_option linter.unusedSimpArgs false
namespace Go.Sx
open Go.RowKit
def EqM (a b : KV) : Prop := ∀ k, mget a k = mget b k
theorem EqM.refl (a : KV) : EqM a a := fun _ => rfl
theorem EqM.trans {a b c : KV} (h : EqM a b) (k : EqM b c) : EqM a c := fun x => (h x).trans (k x)
theorem EqM.symm {a b : KV} (h : EqM a b) : EqM b a := fun x => (h x).symm
theorem mget_of_mem {m : KV} (hm : MOK m) {e : Value × Value} (he : e ∈ m) : mget m e.1 = some e.2 := by
  induction m with
  | nil => cases he
  | cons x m ih =>
    have hn : x.1 ∉ m.map (·.1) ∧ (m.map (·.1)).Nodup := List.nodup_cons.1 hm
    rw [mget_cons]
    rcases List.mem_cons.1 he with rfl | h
    · rw [if_pos rfl]
    · rw [if_neg (fun e' => hn.1 (by rw [e']; exact List.mem_map_of_mem h)), ih hn.2 h]
theorem KOK.of_eq {K : MK} {m m' : KV} (h : KOK K m) (hm : MOK m') (e : EqM m' m) : KOK K m' :=
  ⟨hm, fun x hx => h.ok x (by
    have h1 := mget_of_mem hm hx
    rw [e x.1] at h1
    have := mget_mem h1
    exact this)⟩
theorem nodup_len {α : Type} [DecidableEq α] : ∀ {l l' : List α}, l.Nodup → (∀ x ∈ l, x ∈ l') → l.length ≤ l'.length
  | [], _, _, _ => Nat.zero_le _
  | a :: l, l', hn, hs => by
    have ha : a ∈ l' := hs a (List.mem_cons_self ..)
    have hn' := List.nodup_cons.1 hn
    have := nodup_len (l := l) (l' := l'.erase a) hn'.2 (fun x hx => (List.mem_erase_of_ne (fun e => hn'.1 (by rw [← e]; exact hx))).2 (hs x (List.mem_cons_of_mem _ hx)))
    rw [List.length_erase_of_mem ha] at this
    have h0 : 0 < l'.length := List.length_pos_of_mem ha
    simp only [List.length_cons]
    omega
theorem EqM.len {a b : KV} (h : EqM a b) (ha : MOK a) (hb : MOK b) : a.length = b.length := by
  have key : ∀ {a b : KV}, EqM a b → MOK a → a.length ≤ b.length := by
    intro a b h ha
    have := nodup_len (l := a.map (·.1)) (l' := b.map (·.1)) (show (a.map (·.1)).Nodup from ha) (fun x hx => by
      obtain ⟨e, he, rfl⟩ := List.mem_map.1 hx
      have h1 := mget_of_mem ha he
      rw [h e.1] at h1
      exact List.mem_map_of_mem (f := (·.1)) (mget_mem h1))
    simpa using this
  exact Nat.le_antisymm (key h ha) (key h.symm hb)
theorem EqM.set {a b : KV} (h : EqM a b) (k v : Value) : EqM (mset a k v) (mset b k v) := fun x => by rw [mget_set, mget_set, h x]
theorem EqM.del {a b : KV} (h : EqM a b) (ha : MOK a) (hb : MOK b) (k : Value) : EqM (mdel a k) (mdel b k) := fun x => by rw [mget_del ha, mget_del hb, h x]
/-- One map's share of what is undone. -/
noncomputable def undoB (b : Nat) (E : List Ent) (m : KV) : KV := E.foldr (fun e m => if b = e.b then e.undo m else m) m
theorem undoB_nil (b : Nat) (m : KV) : undoB b [] m = m := rfl
theorem undoB_snoc (b : Nat) (E : List Ent) (e : Ent) (m : KV) : undoB b (E ++ [e]) m = undoB b E (if b = e.b then e.undo m else m) := by unfold undoB; rw [List.foldr_append]; rfl
theorem undoAll_map (E : List Ent) (Ms : List MS3) : undoAll E Ms = Ms.map fun x => (x.1, x.2.1, undoB x.2.1 E x.2.2) := by
  induction E with
  | nil => unfold undoAll; simp [undoB]
  | cons e E ih =>
    show undo1 e (undoAll E Ms) = _
    rw [ih]
    unfold undo1
    rw [List.map_map]
    refine List.map_congr_left fun x _ => ?_
    show (if x.2.1 = e.b then (x.1, x.2.1, e.undo (undoB x.2.1 E x.2.2)) else (x.1, x.2.1, undoB x.2.1 E x.2.2)) = (x.1, x.2.1, if x.2.1 = e.b then e.undo (undoB x.2.1 E x.2.2) else undoB x.2.1 E x.2.2)
    split <;> rfl
/-- What E holds takes the map at b from m' back to m. -/
def Und (b : Nat) (m m' : KV) (E : List Ent) : Prop := ∀ m2, MOK m2 → EqM m2 m' → MOK (undoB b E m2) ∧ EqM (undoB b E m2) m
theorem Und.nil (b : Nat) (m : KV) : Und b m m [] := fun m2 h e => ⟨h, e⟩
theorem Und.other {b : Nat} {m m' : KV} {E : List Ent} (h : Und b m m' E) {e : Ent} (hb : e.b ≠ b) : Und b m m' (E ++ [e]) := fun m2 h2 e2 => by
  rw [undoB_snoc, if_neg (fun q => hb q.symm)]; exact h m2 h2 e2
theorem undo_mok {e : Ent} {m : KV} (h : MOK m) : MOK (e.undo m) := by
  unfold Ent.undo
  cases e.was with
  | none => exact h.del _
  | some v => exact h.set _ _
theorem mget_undo {e : Ent} {m : KV} (h : MOK m) (k : Value) : mget (e.undo m) k = if k = e.key then e.was else mget m k := by
  unfold Ent.undo
  cases e.was with
  | none => exact mget_del h _ _
  | some v => exact mget_set _ _ _ _
theorem Und.snoc {b : Nat} {m m' m3 : KV} {E : List Ent} (h : Und b m m' E) {e : Ent} (hb : e.b = b) (hw : e.was = mget m' e.key) (ho : ∀ k, k ≠ e.key → mget m3 k = mget m' k) : Und b m m3 (E ++ [e]) := fun m2 h2 e2 => by
  rw [undoB_snoc, if_pos hb.symm]
  refine h _ (undo_mok h2) fun k => ?_
  rw [mget_undo h2]
  by_cases hk : k = e.key
  · rw [if_pos hk, hw, hk]
  · rw [if_neg hk, e2 k, ho k hk]
theorem Und.set {b : Nat} {m m' : KV} {E : List Ent} (h : Und b m m' E) {e : Ent} (hb : e.b = b) (hw : e.was = mget m' e.key) (v : Value) : Und b m (mset m' e.key v) (E ++ [e]) :=
  h.snoc hb hw fun k hk => by rw [mget_set, if_neg hk]
/-! ### PairMaps -/
theorem mint_one {eb es : KV → Value → Ent} {mb ms : KV} {L : List Ent} {Kb Ks : MK} (nb : NumK Kb) (ns : NumK Ks) (hb : KOK Kb mb) (hs : KOK Ks ms) (h1 : sup ms 0 + 1 < M256) (h2 : bal mb 0 2 + 1 < M256) :
    bMint eb es (mb, ms, L) 0 2 1 = (0, mset mb (kk 0 2) (vI (bal mb 0 2 + 1)), mset ms (.int .u8 0) (vI (sup ms 0 + 1)), L ++ [es ms (.int .u8 0), eb mb (kk 0 2)]) := by
  have hB : 0 ≤ bal mb 0 2 := (KOK.R4v nb hb _).1
  have ha : (hAdd (bal mb 0 2) 1).1 = bal mb 0 2 + 1 := by unfold hAdd; rw [if_pos h2]
  unfold bMint
  rw [show bw1 0 2 1 = 0 by decide, if_neg (by decide), if_neg (show ¬ M256 ≤ sup ms 0 + 1 by omega)]
  simp only [ha]
  unfold bPut bSup mput putL
  have hn : ¬ (bal mb 0 2 + 1 = 0) := by omega
  simp only [if_neg hn]
  rw [List.append_assoc]; rfl
structure PMs where
  mn : KV
  mx : KV
  mb : KV
  ms : KV
structure PMOK (Kn Kx Kb Ks : MK) (s : PMs) : Prop where
  n : KOK Kn s.mn
  x : KOK Kx s.mx
  b : KOK Kb s.mb
  s : KOK Ks s.ms
/-- What a try of the law comes to. -/
def TryM (Kx Kb Ks : MK) (fl : Bool) (mx mb ms : KV) (k v : Int) (e : Int) (mx' mb' ms' : KV) : Prop :=
  KOK Kx mx' ∧ KOK Kb mb' ∧ KOK Ks ms' ∧ ((fl = true ∧ e = 11 ∧ EqM mx' mx ∧ bal mb' 0 2 = bal mb 0 2 ∧ sup ms' 0 = sup ms 0) ∨ (fl = false ∧ e = 0 ∧ mx' = mset mx (.int .i64 k) (.int .i64 v) ∧ bal mb' 0 2 = bal mb 0 2 + 1 ∧ sup ms' 0 = sup ms 0 + 1))
theorem tryM_ok {Kx Kb Ks : MK} {mx mb ms : KV} {k v : Int} (nb : NumK Kb) (ns : NumK Ks) (ox : ∀ k : Int, Kx.OkK (.int .i64 k)) (vx : Kx.OkV (.int .i64 v)) (ob : Kb.OkK (kk 0 2)) (os : Ks.OkK (.int .u8 0)) (hx : KOK Kx mx) (hb : KOK Kb mb) (hs : KOK Ks ms) (h1 : sup ms 0 + 1 < M256) (h2 : bal mb 0 2 + 1 < M256) :
    TryM Kx Kb Ks false mx mb ms k v 0 (mset mx (.int .i64 k) (.int .i64 v)) (mset mb (kk 0 2) (vI (bal mb 0 2 + 1))) (mset ms (.int .u8 0) (vI (sup ms 0 + 1))) := by
  have hB : 0 ≤ bal mb 0 2 := (KOK.R4v nb hb _).1
  have hS : 0 ≤ sup ms 0 := (KOK.R4v ns hs _).1
  have rB : R4 (bal mb 0 2 + 1) := ⟨by omega, h2⟩
  have rS : R4 (sup ms 0 + 1) := ⟨by omega, h1⟩
  refine ⟨hx.set (ox k) vx, hb.set ob ((nb _).2 ⟨_, rB, rfl⟩), hs.set os ((ns _).2 ⟨_, rS, rfl⟩), .inr ⟨rfl, rfl, rfl, ?_, ?_⟩⟩
  · unfold bal; rw [mget_set, if_pos rfl]; exact num_vI rB
  · rw [sup_set _ rS, if_pos rfl]
theorem tryM_fail {Kx Kb Ks : MK} {mx mb ms mx' mb' ms' : KV} {k v : Int} {bx bm bs : Nat} {ex : Ent} {eb es : KV → Value → Ent} (hx : KOK Kx mx) (hb : KOK Kb mb) (hs : KOK Ks ms) (vx : MOK (mset mx (.int .i64 k) (.int .i64 v)))
    (hn : [bx, bm, bs].Nodup) (h1 : ex.b = bx) (k1 : ex.key = .int .i64 k) (w1 : ex.was = mget mx (.int .i64 k)) (h2 : (es ms (.int .u8 0)).b = bs) (k2 : (es ms (.int .u8 0)).key = .int .u8 0) (w2 : (es ms (.int .u8 0)).was = mget ms (.int .u8 0))
    (h3 : (eb mb (kk 0 2)).b = bm) (k3 : (eb mb (kk 0 2)).key = kk 0 2) (w3 : (eb mb (kk 0 2)).was = mget mb (kk 0 2)) {vb vs : Value}
    (ux : mx' = undoB bx [ex, es ms (.int .u8 0), eb mb (kk 0 2)] (mset mx (.int .i64 k) (.int .i64 v))) (ub : mb' = undoB bm [ex, es ms (.int .u8 0), eb mb (kk 0 2)] (mset mb (kk 0 2) vb)) (us : ms' = undoB bs [ex, es ms (.int .u8 0), eb mb (kk 0 2)] (mset ms (.int .u8 0) vs)) :
    TryM Kx Kb Ks true mx mb ms k v 11 mx' mb' ms' := by
  have d1 : bx ≠ bm ∧ bx ≠ bs ∧ bm ≠ bs := by
    simp only [List.nodup_cons, List.mem_cons, List.not_mem_nil, or_false, not_or, not_false_eq_true, and_true] at hn
    exact ⟨hn.1.1, hn.1.2, hn.2.1⟩
  have Ux : Und bx mx (mset mx (.int .i64 k) (.int .i64 v)) ((([] ++ [ex]) ++ [es ms (.int .u8 0)]) ++ [eb mb (kk 0 2)]) :=
    (((k1 ▸ (Und.nil bx mx).set h1 (by rw [w1, k1]) (.int .i64 v) : Und bx mx (mset mx (.int .i64 k) (.int .i64 v)) ([] ++ [ex]))).other (by rw [h2]; exact fun e => d1.2.1 e.symm)).other (by rw [h3]; exact fun e => d1.1 e.symm)
  have Us : Und bs ms (mset ms (.int .u8 0) vs) ((([] ++ [ex]) ++ [es ms (.int .u8 0)]) ++ [eb mb (kk 0 2)]) :=
    (((((Und.nil bs ms).other (e := ex) (by rw [h1]; exact d1.2.1)).snoc (m3 := mset ms (.int .u8 0) vs) h2 (by rw [w2, k2]) (fun q hq => by rw [k2] at hq; rw [mget_set, if_neg hq]))).other (by rw [h3]; exact d1.2.2))
  have Ub : Und bm mb (mset mb (kk 0 2) vb) ((([] ++ [ex]) ++ [es ms (.int .u8 0)]) ++ [eb mb (kk 0 2)]) :=
    ((((Und.nil bm mb).other (e := ex) (by rw [h1]; exact d1.1)).other (by rw [h2]; exact fun e => d1.2.2 e.symm)).snoc (m3 := mset mb (kk 0 2) vb) h3 (by rw [w3, k3]) (fun q hq => by rw [k3] at hq; rw [mget_set, if_neg hq]))
  obtain ⟨x1, x2⟩ := Ux _ vx (EqM.refl _)
  obtain ⟨b1, b2⟩ := Ub _ (hb.once.set _ _) (EqM.refl _)
  obtain ⟨s1, s2⟩ := Us _ (hs.once.set _ _) (EqM.refl _)
  have fx : EqM mx' mx := by rw [ux]; exact x2
  have fb : EqM mb' mb := by rw [ub]; exact b2
  have fs : EqM ms' ms := by rw [us]; exact s2
  refine ⟨hx.of_eq (by rw [ux]; exact x1) fx, hb.of_eq (by rw [ub]; exact b1) fb, hs.of_eq (by rw [us]; exact s1) fs, .inl ⟨rfl, rfl, fx, ?_, ?_⟩⟩
  · unfold bal; rw [fb]
  · unfold sup; rw [fs]
theorem undo3 {Kx Kb Ks : MK} {E : List Ent} {bx bm bs : Nat} {x b s x' b' s' : KV} (h : undoAll E [(Kx, bx, x), (Kb, bm, b), (Ks, bs, s)] = [(Kx, bx, x'), (Kb, bm, b'), (Ks, bs, s')]) : x' = undoB bx E x ∧ b' = undoB bm E b ∧ s' = undoB bs E s := by
  rw [undoAll_map] at h
  simp only [List.map_cons, List.map_nil, List.cons.injEq, Prod.mk.injEq, true_and, and_true] at h
  exact ⟨h.1.symm, h.2.1.symm, h.2.2.symm⟩
theorem tryM_of {Kx Kb Ks : MK} {mx mb ms mx' mb' ms' x1 : KV} {y : Int × BS} {k v e : Int} {fl : Bool} {bx bm bs : Nat} {ex : Ent} {eb es : KV → Value → Ent} (nb : NumK Kb) (ns : NumK Ks) (ox : ∀ k : Int, Kx.OkK (.int .i64 k)) (vx : Kx.OkV (.int .i64 v)) (ob : Kb.OkK (kk 0 2)) (os : Ks.OkK (.int .u8 0)) (hx : KOK Kx mx) (hb : KOK Kb mb) (hs : KOK Ks ms)
    (l1 : sup ms 0 + 1 < M256) (l2 : bal mb 0 2 + 1 < M256) (h1 : ex.b = bx) (k1 : ex.key = .int .i64 k) (w1 : ex.was = mget mx (.int .i64 k)) (h2 : (es ms (.int .u8 0)).b = bs) (k2 : (es ms (.int .u8 0)).key = .int .u8 0) (w2 : (es ms (.int .u8 0)).was = mget ms (.int .u8 0))
    (h3 : (eb mb (kk 0 2)).b = bm) (k3 : (eb mb (kk 0 2)).key = kk 0 2) (w3 : (eb mb (kk 0 2)).was = mget mb (kk 0 2)) (hd : x1 = mset mx (.int .i64 k) (.int .i64 v))
    (hy : y = (0, mset mb (kk 0 2) (vI (bal mb 0 2 + 1)), mset ms (.int .u8 0) (vI (sup ms 0 + 1)), [ex, es ms (.int .u8 0), eb mb (kk 0 2)])) (he : e = bif fl then 11 else y.1)
    (hn : [bx, bm, bs].Nodup) (hF : (e = 0 ∧ mx' = x1 ∧ mb' = y.2.1 ∧ ms' = y.2.2.1) ∨ (e ≠ 0 ∧ undoAll y.2.2.2 [(Kx, bx, x1), (Kb, bm, y.2.1), (Ks, bs, y.2.2.1)] = [(Kx, bx, mx'), (Kb, bm, mb'), (Ks, bs, ms')])) :
    TryM Kx Kb Ks fl mx mb ms k v e mx' mb' ms' := by
  subst hy hd
  cases fl with
  | false =>
    have he : e = 0 := he
    rcases hF with ⟨_, rfl, rfl, rfl⟩ | ⟨h0, _⟩
    · rw [he]; exact tryM_ok nb ns ox vx ob os hx hb hs l1 l2
    · exact absurd he h0
  | true =>
    have he : e = 11 := he
    rcases hF with ⟨h0, _⟩ | ⟨_, hu⟩
    · exact absurd (he.symm.trans h0) (by decide)
    · obtain ⟨u1, u2, u3⟩ := undo3 hu
      rw [he]
      exact tryM_fail hx hb hs (hx.once.set _ _) hn h1 k1 w1 h2 k2 w2 h3 k3 w3 u1 u2 u3
theorem tryM_wit {Kx Kb Ks : MK} {fl : Bool} {mx mb ms : KV} {k v : Int} (nb : NumK Kb) (ns : NumK Ks) (ox : ∀ k : Int, Kx.OkK (.int .i64 k)) (vx : Kx.OkV (.int .i64 v)) (ob : Kb.OkK (kk 0 2)) (os : Ks.OkK (.int .u8 0)) (hx : KOK Kx mx) (hb : KOK Kb mb) (hs : KOK Ks ms) (h1 : sup ms 0 + 1 < M256) (h2 : bal mb 0 2 + 1 < M256) :
    ∃ x : Int × KV × KV × KV × KV, TryM Kx Kb Ks fl mx mb ms k v x.1 x.2.2.1 x.2.2.2.1 x.2.2.2.2 := by
  cases fl with
  | true => exact ⟨(11, [], mx, mb, ms), hx, hb, hs, .inl ⟨rfl, rfl, EqM.refl _, rfl, rfl⟩⟩
  | false => exact ⟨(0, [], _, _, _), tryM_ok nb ns ox vx ob os hx hb hs h1 h2⟩
def swld (s : Slot) : World := match s with | .par _ (.wld w) _ => w | _ => default
/-- A bool in the caller's memory. -/
def rdbool (s : Slot) (v : Value) (i : Nat) : Bool :=
  match s with
  | .par _ (.wld w) _ => match w.cell? ⟨vblk v, voff v + i, none⟩ with
    | some (.bool b) => b
    | _ => false
  | _ => false
theorem rdbool_eq {w : World} {v : Value} {xs : List Bool} {Ok : Bool → Prop} (h : SlX w 1 Value.bool Ok v xs) {i : Nat} {x : Bool} (hx : xs[i]? = some x) : rdbool (old w) v i = x := by
  obtain ⟨_, a, len, cap, rfl, hsp, hc⟩ := h.at hx
  have := hc 0 (.bool x) rfl
  obtain ⟨b, o, sp⟩ := a
  simp only [Nat.mul_one, Nat.add_zero] at this
  show (match w.cell? ⟨b, o + i, none⟩ with | some (.bool b) => b | _ => false) = x
  rw [this]
/-- The law's invariant. -/
structure PMI (Kx Kb Ks : MK) (i : Nat) (mx mb ms mv : KV) (sum : Int) : Prop where
  x : KOK Kx mx
  b : KOK Kb mb
  s : KOK Ks ms
  v : KOK Kx mv
  eq : EqM mx mv
  bal : bal mb 0 2 = sum
  sup : sup ms 0 = sum
  lo : 0 ≤ sum
  hi : sum ≤ i
theorem PMI.start {Kx Kb Ks : MK} : PMI Kx Kb Ks 0 [] [] [] [] 0 := ⟨KOK.nil, KOK.nil, KOK.nil, KOK.nil, EqM.refl _, bal_nil 0 2, sup_nil 0, Int.le_refl _, Int.le_refl _⟩
theorem PMI.fail {Kx Kb Ks : MK} {i : Nat} {mx mb ms mv mx' mb' ms' : KV} {sum k v e : Int} (h : PMI Kx Kb Ks i mx mb ms mv sum) (t : TryM Kx Kb Ks true mx mb ms k v e mx' mb' ms') : e = 11 ∧ PMI Kx Kb Ks (i + 1) mx' mb' ms' mv sum := by
  obtain ⟨h1, h2, h3, ⟨_, h4, h5, h6, h7⟩ | ⟨h4, _⟩⟩ := t
  · exact ⟨h4, h1, h2, h3, h.v, h5.trans h.eq, h6.trans h.bal, h7.trans h.sup, h.lo, by have := h.hi; omega⟩
  · cases h4
theorem PMI.done {Kx Kb Ks : MK} {i : Nat} {mx mb ms mv mx' mb' ms' : KV} {sum k v e : Int} (h : PMI Kx Kb Ks i mx mb ms mv sum) (ok : Kx.OkK (.int .i64 k)) (ov : Kx.OkV (.int .i64 v)) (t : TryM Kx Kb Ks false mx mb ms k v e mx' mb' ms') : e = 0 ∧ PMI Kx Kb Ks (i + 1) mx' mb' ms' (mset mv (.int .i64 k) (.int .i64 v)) (sum + 1) := by
  obtain ⟨h1, h2, h3, ⟨h4, _⟩ | ⟨_, h4, h5, h6, h7⟩⟩ := t
  · cases h4
  · exact ⟨h4, h1, h2, h3, h.v.set ok ov, by rw [h5]; exact h.eq.set _ _, by rw [h6, h.bal], by rw [h7, h.sup], by have := h.lo; omega, by have := h.hi; omega⟩
theorem PMI.own {Kx Kb Ks : MK} {i : Nat} {mx mb ms mv : KV} {sum : Int} (h : PMI Kx Kb Ks i mx mb ms mv sum) : PMI Kx Kb Ks i mx mb ms mv (Go.Sx.sup ms 0) := by rw [h.sup]; exact h
theorem tryM_e {Kx Kb Ks : MK} {fl : Bool} {mx mb ms mx' mb' ms' : KV} {k v e : Int} (t : TryM Kx Kb Ks fl mx mb ms k v e mx' mb' ms') : (fl = true ∧ e = 11) ∨ (fl = false ∧ e = 0) := by
  obtain ⟨_, _, _, ⟨h1, h2, _⟩ | ⟨h1, h2, _⟩⟩ := t
  · exact .inl ⟨h1, h2⟩
  · exact .inr ⟨h1, h2⟩
theorem wf_i64 {n : Int} (h0 : -9223372036854775808 ≤ n) (h1 : n ≤ 9223372036854775807) : (Lit.int .i64 n).wf = true := by
  simp [Lit.wf, IntKind.min, IntKind.max, IntKind.signed, IntKind.bits]; omega
theorem xboxv {P : Program} (t : TypeId) {v : Value} (hv : v.cells = #[v]) : OpT P (do pure (.value (← Instr.box t v))) [] Nat ptr (fun b => [.blk b (.cells #[v] t (0, 0))]) (fun _ => True) := by
  intro R w ho
  refine ⟨w.heap.size, w.alloc (.cells v.cells t (0, 0)), trivial, .inl ?_, ?_, ext_alloc _ _⟩
  · simp [Instr.box, ptr, newVar, newRow, Sem.run_bind, run_newObj_alloc, Result.andThen]
  · rw [← hv]
    refine (own_alloc ho 0 _).weaken fun k => ?_
    cases k with
    | zero => exact .inl rfl
    | succ k => exact .inl rfl
theorem SlX.cells {X : Type} {w : World} {n : Nat} {val : X → Value} {Ok : X → Prop} {v : Value} {xs : List X} (h : SlX w n val Ok v xs) : v.cells = #[v] := by
  rcases h.sl.form with rfl | ⟨a, len, cap, rfl⟩ <;> rfl
def F_mkmap : List Value → List Slot → Ctr := fun _ _ => ⟨Nat, fun b => .map (some b), fun b => [mo b []], fun _ => True⟩
theorem xmkmap {P : Program} {m : Sem Next} (h : symW P m [.nw 0] (ofList []) fun nx H _ => ∃ b, nx = .value (.map (some b)) ∧ H = upd (ofList []) 0 (.blk b (.map #[] 0))) :
    OpT P m [] Nat (fun b => .map (some b)) (fun b => [mo b []]) (fun _ => True) := by
  intro R w ho
  obtain ⟨nx, w', H', acc', hrun, ⟨b, rfl, rfl⟩, ho', he⟩ := symW_sound _ _ _ _ R w h ho
  refine ⟨b, w', trivial, .inl hrun, mo_new (l := []) _ _ ?_, he⟩
  refine (congrArg (fun H => Own H R w') ?_).mp ho'
  funext i; cases i <;> rfl
theorem num_one {s : Int} (h : W s) : num (vI (num (.agg #[.int .u64 s, .int .u64 0, .int .u64 0, .int .u64 0]))) = s := by
  rw [vI_num4 h (by unfold W; decide) (by unfold W; decide) (by unfold W; decide)]
  simp [num, numL, ci]
end Go.Sx
