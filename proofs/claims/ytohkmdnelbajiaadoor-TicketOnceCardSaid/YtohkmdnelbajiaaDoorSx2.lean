/- A symbolic executor for the model's code, part 2: one operation, a region in the text's order. -/
import Derived.Test.YtohkmdnelbajiaaDoorSx1
set_option linter.unusedVariables false
set_option linter.unusedSimpArgs false
namespace Go.Sx
open Go.RowKit

/-! ### The state of an activation -/
structure St where
  fr : Nat → Value
  H : Hp
  df : List Deferred

def evalF (fr : Nat → Value) : Operand → Value
  | .tmp t => fr t
  | .const v => v
  | .global g => .pointer (some ⟨g, 0, none⟩)
  | .func f => .func (.func f) #[] #[]

structure Rel (n : Nat) (s : St) (a : Act) : Prop where
  size : a.tmps.size = n
  at_ : ∀ i, a.tmps.getD i undef = s.fr i
  df : a.defers = s.df

theorem Rel.eval {n : Nat} {s : St} {a : Act} (h : Rel n s a) : a.eval = evalF s.fr := by
  funext x
  cases x with
  | tmp t => exact h.at_ t
  | _ => rfl

theorem Rel.put {n d : Nat} {s : St} {a : Act} {v : Value} {H : Hp} (h : Rel n s a) (hd : d < n) : Rel n ⟨upd s.fr d v, H, s.df⟩ (a.put (some d) v) := by
  refine ⟨by simp [Act.put, h.size], fun i => ?_, h.df⟩
  have hz := h.at_ i
  have hsz := h.size
  simp only [Act.put]
  by_cases e : i = d
  · subst e
    rw [upd_same]
    simp [Array.getD_eq_getD_getElem?, hsz, hd]
  · rw [upd_other _ _ e, ← hz]
    simp [Array.getD_eq_getD_getElem?, Ne.symm e]

theorem Rel.heap {n : Nat} {s : St} {a : Act} {H : Hp} (h : Rel n s a) : Rel n ⟨s.fr, H, s.df⟩ a := ⟨h.size, h.at_, h.df⟩

def putW (n : Nat) (dst : Option Tmp) (v : Value) (fr : Nat → Value) (K : (Nat → Value) → Prop) : Prop :=
  match dst with
  | none => K fr
  | some d => match Nat.blt d n with | true => K (upd fr d v) | false => False

theorem putW_sound {n : Nat} {dst : Option Tmp} {v : Value} {s : St} {K : (Nat → Value) → Prop} {a : Act} (hr : Rel n s a) (h : putW n dst v s.fr K) (H : Hp) :
    ∃ fr', K fr' ∧ Rel n ⟨fr', H, s.df⟩ (a.put dst v) := by
  unfold putW at h
  cases dst with
  | none => exact ⟨_, h, hr.heap⟩
  | some d =>
    cases hb : Nat.blt d n with
    | false => simp only [hb] at h
    | true => simp only [hb] at h; exact ⟨_, h, hr.put (by simpa [Nat.blt_eq] using hb)⟩

/-! ### Contracts -/
def ofList (l : List Slot) : Hp := fun i => l.getD i .free

def Yields (r : Result Next) (v : Value) (w : World) : Prop := r = .ok (.value v) w ∨ (r = .ok .skip w ∧ v = undef)
/-- An operation's own law: run over the slots Hs (in order) it yields val x and leaves the slots us x. -/
def OpT (P : Program) (m : Sem Next) (Hs : List Slot) (X : Type) (val : X → Value) (us : X → List Slot) (Φ : X → Prop) : Prop :=
  ∀ (R : HP) (w : World), Own (ofList Hs) R w → ∃ x w', Φ x ∧ Yields (m.run P w) (val x) w' ∧ Own (ofList (us x)) R w' ∧ Ext w w'

def PureRun (P : Program) (m : Sem Next) (v : Value) : Prop := ∀ w, m.run P w = .ok (.value v) w

def EnterOK (P : Program) (f : FuncId) : Prop := ∀ args w, (callFunc f args).run P w = .ok (.enter f args) w

/-- A function's contract. -/
structure CallT (P : Program) (f : FuncId) (args : Array Value) (Hs : List Slot) (X : Type) (val : X → Value) (us : X → List Slot) (Φ : X → Prop) : Prop where
  enter : EnterOK P f
  calls : ∀ (R : HP) (w : World), Own (ofList Hs) R w →
    Calls P f args w fun e w' => ∃ x, Φ x ∧ e = .returned (val x) ∧ Own (ofList (us x)) R w' ∧ Ext w w'

/-! ### Framing: a contract over some slots, used among others -/
def restOf (H : Hp) (ids : List Nat) (R : HP) : HP := fun q =>
  ∃ (p : Nat → Hl) (r : Hl), (∀ i, i ∉ ids → (H i).sat (p i)) ∧ R r ∧ (∀ i j, i ∉ ids → j ∉ ids → i ≠ j → (p i).disj (p j)) ∧ (∀ i, i ∉ ids → (p i).disj r) ∧
    (∀ b o, q b = some o ↔ (∃ i, i ∉ ids ∧ p i b = some o) ∨ r b = some o)

def clears (H : Hp) : List Nat → Hp
  | [] => H
  | i :: l => clears (upd H i .free) l

def updL (H : Hp) : List Nat → List Slot → Hp
  | i :: l, ss => updL (upd H i (ss.headD .free)) l ss.tail
  | [], _ => H

def pickL (ids : List Nat) (p : Nat → Hl) : Nat → Hl := fun k => match ids[k]? with | some i => p i | none => fun _ => none
theorem pickL_some {ids : List Nat} {p : Nat → Hl} {k i : Nat} (h : ids[k]? = some i) : pickL ids p k = p i := by simp [pickL, h]
theorem pickL_none {ids : List Nat} {p : Nat → Hl} {k : Nat} (h : ids[k]? = none) : pickL ids p k = fun _ => none := by simp [pickL, h]

open Classical in
theorem own_split {H : Hp} {R : HP} {w : World} {ids : List Nat} (hn : ids.Nodup) (h : Own H R w) : Own (ofList (ids.map H)) (restOf H ids R) w := by
  obtain ⟨p, q, hs, hq, hp, hqw, hd, hdq⟩ := h
  let q' : Hl := fun b => if hx : ∃ i o, i ∉ ids ∧ p i b = some o then some (Classical.choose (Classical.choose_spec hx)) else q b
  have hq' : ∀ b o, q' b = some o ↔ (∃ i, i ∉ ids ∧ p i b = some o) ∨ q b = some o := by
    intro b o
    by_cases hx : ∃ i o, i ∉ ids ∧ p i b = some o
    · have hsp := Classical.choose_spec (Classical.choose_spec hx)
      have e : q' b = some (Classical.choose (Classical.choose_spec hx)) := dif_pos hx
      rw [e]
      constructor
      · intro h; cases h; exact .inl ⟨_, hsp.1, hsp.2⟩
      · rintro (⟨i, hi, ho⟩ | ho)
        · by_cases ei : i = Classical.choose hx
          · subst ei; rw [hsp.2] at ho; exact ho
          · rcases hd i _ ei b with h | h
            · rw [ho] at h; cases h
            · rw [hsp.2] at h; cases h
        · rcases hdq (Classical.choose hx) b with h | h
          · rw [hsp.2] at h; cases h
          · rw [ho] at h; cases h
    · have e : q' b = q b := dif_neg hx
      rw [e]
      constructor
      · exact .inr
      · rintro (⟨i, hi, ho⟩ | ho)
        · exact absurd ⟨i, o, hi, ho⟩ hx
        · exact ho
  refine ⟨pickL ids p, q', fun k => ?_, ⟨p, q, fun i _ => hs i, hq, fun i j _ _ h => hd i j h, fun i _ => hdq i, hq'⟩, fun k => ?_, ?_, fun k l hkl => ?_, fun k => ?_⟩
  · unfold ofList
    cases hk : ids[k]? with
    | none => rw [List.getD_eq_getElem?_getD, List.getElem?_map, hk, pickL_none hk]; exact fun _ => rfl
    | some i => rw [List.getD_eq_getElem?_getD, List.getElem?_map, hk, pickL_some hk]; exact hs i
  · cases hk : ids[k]? with
    | none => rw [pickL_none hk]; intro b o h; cases h
    | some i => rw [pickL_some hk]; exact hp i
  · intro b o hb
    rcases (hq' b o).1 hb with ⟨i, _, h⟩ | h
    · exact hp i b o h
    · exact hqw b o h
  · cases hk : ids[k]? with
    | none => rw [pickL_none hk]; exact fun _ => .inl rfl
    | some i =>
      cases hl : ids[l]? with
      | none => rw [pickL_none hl]; exact fun _ => .inr rfl
      | some j =>
        rw [pickL_some hk, pickL_some hl]
        refine hd i j (fun e => hkl ?_)
        subst e
        obtain ⟨hk1, hk2⟩ := List.getElem?_eq_some_iff.1 hk
        obtain ⟨hl1, hl2⟩ := List.getElem?_eq_some_iff.1 hl
        exact (List.getElem_inj hn).1 (hk2.trans hl2.symm)
  · cases hk : ids[k]? with
    | none => rw [pickL_none hk]; exact fun _ => .inl rfl
    | some i =>
      rw [pickL_some hk]
      intro b
      cases hpb : p i b with
      | none => exact .inl rfl
      | some o =>
        right
        cases hqb : q' b with
        | none => rfl
        | some o' =>
          rcases (hq' b o').1 hqb with ⟨j, hj, h⟩ | h
          · have hij : i ≠ j := fun e => hj (e ▸ List.mem_of_getElem? hk)
            rcases hd i j hij b with h' | h'
            · rw [hpb] at h'; cases h'
            · rw [h] at h'; cases h'
          · rcases hdq i b with h' | h'
            · rw [hpb] at h'; cases h'
            · rw [h] at h'; cases h'

theorem clears_in (l : List Nat) : ∀ (H : Hp) (i : Nat), i ∈ l → clears H l i = .free := by
  have stay : ∀ (l : List Nat) (H : Hp) (i : Nat), H i = .free → clears H l i = .free := by
    intro l
    induction l with
    | nil => exact fun H i h => h
    | cons x l ih =>
      intro H i h
      refine ih _ i ?_
      by_cases e : i = x
      · subst e; rw [upd_same]
      · rw [upd_other _ _ e]; exact h
  induction l with
  | nil => exact fun H i h => by cases h
  | cons x l ih =>
    intro H i h
    rcases List.mem_cons.1 h with rfl | h
    · exact stay l _ _ (upd_same _ _ _)
    · exact ih _ i h
theorem clears_out (l : List Nat) : ∀ (H : Hp) (i : Nat), i ∉ l → clears H l i = H i := by
  induction l with
  | nil => exact fun H i h => rfl
  | cons x l ih =>
    intro H i h
    rw [List.mem_cons, not_or] at h
    exact (ih _ i h.2).trans (upd_other _ _ h.1)
theorem updL_out : ∀ (l : List Nat) (ss : List Slot) (H : Hp) (i : Nat), i ∉ l → updL H l ss i = H i
  | [], _, _, _, _ => by simp [updL]
  | x :: l, ss, H, i, h => by
    rw [List.mem_cons, not_or] at h
    exact (updL_out l _ _ i h.2).trans (upd_other _ _ h.1)
theorem updL_in : ∀ (l : List Nat) (ss : List Slot) (H : Hp) (k i : Nat), l.Nodup → l[k]? = some i → updL H l ss i = ofList ss k
  | [], _, _, k, _, _, h => by simp at h
  | x :: l, ss, H, 0, i, hn, h => by
    simp at h; subst h
    rw [List.nodup_cons] at hn
    refine (updL_out l _ _ x hn.1).trans ?_
    rw [upd_same]
    cases ss <;> simp [ofList]
  | x :: l, ss, H, k + 1, i, hn, h => by
    rw [List.nodup_cons] at hn
    have := updL_in l ss.tail (upd H x (ss.headD .free)) k i hn.2 (by simpa using h)
    rw [updL, this]
    cases ss <;> simp [ofList]

/-- The other slots come back. outs: where the slots that a contract leaves are laid; what stood there is given up. -/
theorem own_join {H : Hp} {R : HP} {w : World} {ins outs : List Nat} {ss : List Slot} (ho : outs.Nodup)
    (h : Own (ofList ss) (restOf H ins R) w) : Own (updL (clears H ins) outs ss) R w := by
  obtain ⟨p, q, hs, ⟨p2, r, hs2, hr, hd2, hdr2, hq2⟩, hp, hqw, hd, hdq⟩ := h
  have hidx : ∀ i k, outs.idxOf? i = some k → outs[k]? = some i := by
    intro i k hk
    rw [List.idxOf?_eq_some_iff] at hk
    obtain ⟨h1, h3, -⟩ := hk
    rw [List.getElem?_eq_getElem h1]
    simpa using h3
  let pc : Nat → Hl := fun i => match outs.idxOf? i with | some k => p k | none => if i ∈ ins then fun _ => none else p2 i
  have pcs : ∀ i k, outs.idxOf? i = some k → pc i = p k := fun i k h => by simp only [pc, h]
  have pci : ∀ i, outs.idxOf? i = none → i ∈ ins → pc i = fun _ => none := fun i h h' => by simp only [pc, h, h', if_true]
  have pcn : ∀ i, outs.idxOf? i = none → i ∉ ins → pc i = p2 i := fun i h h' => by simp only [pc, h, h', if_false]
  have sub2 : ∀ i, i ∉ ins → ∀ b o, p2 i b = some o → q b = some o := fun i hi b o h => (hq2 b o).2 (.inl ⟨i, hi, h⟩)
  have subr : ∀ b o, r b = some o → q b = some o := fun b o h => (hq2 b o).2 (.inr h)
  have qd : ∀ k (x : Hl), (∀ b o, x b = some o → q b = some o) → (p k).disj x := fun k x hx b => by
    rcases hdq k b with h | h
    · exact .inl h
    · right
      cases hxb : x b with
      | none => rfl
      | some o => rw [hx b o hxb] at h; cases h
  refine ⟨pc, r, fun i => ?_, hr, fun i => ?_, fun b o hb => hqw b o (subr b o hb), fun i j hij => ?_, fun i => ?_⟩
  · cases hk : outs.idxOf? i with
    | some k => rw [pcs i k hk, updL_in outs ss _ k i ho (hidx i k hk)]; exact hs k
    | none =>
      have hi : i ∉ outs := List.idxOf?_eq_none_iff.1 hk
      rw [updL_out _ _ _ _ hi]
      by_cases hi' : i ∈ ins
      · rw [clears_in _ _ _ hi', pci i hk hi']; exact fun _ => rfl
      · rw [clears_out _ _ _ hi', pcn i hk hi']; exact hs2 i hi'
  · cases hk : outs.idxOf? i with
    | some k => rw [pcs i k hk]; exact hp k
    | none =>
      by_cases hi' : i ∈ ins
      · rw [pci i hk hi']; intro b o h; cases h
      · rw [pcn i hk hi']; exact fun b o h => hqw b o (sub2 i hi' b o h)
  · cases hk : outs.idxOf? i with
    | some k =>
      rw [pcs i k hk]
      cases hl : outs.idxOf? j with
      | some l =>
        rw [pcs j l hl]
        refine hd k l (fun e => hij ?_)
        subst e
        have := (hidx i k hk).symm.trans (hidx j k hl)
        cases this; rfl
      | none =>
        by_cases hj : j ∈ ins
        · rw [pci j hl hj]; exact fun _ => .inr rfl
        · rw [pcn j hl hj]; exact qd k _ (sub2 j hj)
    | none =>
      by_cases hi' : i ∈ ins
      · rw [pci i hk hi']; exact fun _ => .inl rfl
      · rw [pcn i hk hi']
        cases hl : outs.idxOf? j with
        | some l => rw [pcs j l hl]; exact fun b => (qd l _ (sub2 i hi') b).symm
        | none =>
          by_cases hj : j ∈ ins
          · rw [pci j hl hj]; exact fun _ => .inr rfl
          · rw [pcn j hl hj]; exact hd2 i j hi' hj hij
  · cases hk : outs.idxOf? i with
    | some k => rw [pcs i k hk]; exact qd k _ subr
    | none =>
      by_cases hi' : i ∈ ins
      · rw [pci i hk hi']; exact fun _ => .inl rfl
      · rw [pcn i hk hi']; exact hdr2 i hi'
end Go.Sx
