/- A symbolic executor for the model's code, part 8: code, and its soundness. -/
import Derived.Test.YtohkmdnelbajiaaDoorSx7
import Derived.Scope
set_option linter.unusedVariables false
set_option linter.unusedSimpArgs false
namespace Go.Sx
open Go.RowKit

inductive Script : Type 1 where
  | done
  | reg (as : List Ann) (k : Script)
  | condT (k : Script)
  | condF (k : Script)
  | cond (k1 k2 : Script)
  | caseP (b : St → Bool) (k1 k2 : Script)
  | cut (X : Type) (live : X → List (Nat × Value)) (heap : X → List (Nat × Slot)) (Φ : X → Prop) (k : X → Script)
  | join (X : Type) (live : X → List (Nat × Value)) (heap : X → List (Nat × Slot)) (Φ : X → Prop) (k1 : Script) (k2 : X → Script)
  | inv (X : Type) (live : X → List (Nat × Value)) (heap : X → List (Nat × Slot)) (Φ : X → Prop) (μ : X → Nat) (kb : X → Script)
  | sinv (l : Nat) (X : Type) (live : X → List (Nat × Value)) (heap : X → List (Nat × Slot)) (Φ : X → Prop) (μ : X → Nat) (k0 : Script) (k1 : X → Script)
  | ghost (ids : List Nat) (φ : List Slot → Prop) (k : Script)
  | rf (ts ins outs : List Nat) (C : (Nat → Value) → List Slot → Ctr) (k : Script)

def lookL {α : Type _} : List (Nat × α) → Nat → Option α
  | [], _ => none
  | (i, v) :: l, j => bif Nat.beq j i then some v else lookL l j
def mkS (live : List (Nat × Value)) (heap : List (Nat × Slot)) (junk : Nat → Value) (df : List Deferred) : St where
  fr := fun i => match lookL live i with | some v => v | none => junk i
  H := fun i => match lookL heap i with | some s => s | none => .free
  df := df
def liveW (l : List (Nat × Value)) (fr : Nat → Value) (Y : Prop) : Prop :=
  match l with
  | [] => Y
  | (i, v) :: l => fr i = v ∧ liveW l fr Y
def heapW (l : List (Nat × Slot)) (H : Hp) (Y : Prop) : Prop :=
  match l with
  | [] => Y
  | (i, s) :: l => H i = s ∧ heapW l H Y
def dfW (a b : List Deferred) (Y : Prop) : Prop :=
  match a with
  | [] => (match b with | [] => Y | _ => False)
  | x :: l => x :: l = b ∧ Y
/-- A state is one that a cut describes. -/
def atW (live : List (Nat × Value)) (heap : List (Nat × Slot)) (df : List Deferred) (s : St) (X : Prop) : Prop := liveW live s.fr (heapW heap s.H (dfW s.df df X))

def dfrOK (r : Option Nat) (as : List Ann) : Bool := match r with | none => true | some _ => as.all (fun a => !isDfr a)

abbrev markOf (D : Nat) : Deferred := { target := .collected D, args := #[] }
/-- A range over a function whose rounds all go on: what it does, over slots. -/
def RangeT (P : Program) (n : Nat) (g : Operand) (ps : Array Tmp) (as b : Code) (fr : Nat → Value) (Hs : List Slot) (X : Type) (us : X → List Slot) (Φ : X → Prop) : Prop :=
  ∀ (R : HP) (w : World) (act : Act), act.tmps.size = n → (∀ i, act.tmps.getD i undef = fr i) → Own (ofList Hs) R w →
    (Code.rangeFunc g ps as b).wpIn (FrR none) 0 P (fun e a' w' => e = .normal ∧ a'.tmps = act.tmps ∧ ∃ D x, a'.defers = markOf D :: act.defers ∧ Φ x ∧ Own (ofList (.blk D (.deferred (some [])) :: us x)) R w' ∧ Ext w w') act w
theorem RangeT.use {P : Program} {n : Nat} {g : Operand} {ps : Array Tmp} {as b : Code} {fr : Nat → Value} {H : Hp} {ins outs : List Nat} {X : Type} {us : X → List Slot} {Φ : X → Prop} {R : HP} {w : World} {act : Act}
    (h : RangeT P n g ps as b fr (ins.map H) X us Φ) (hz : act.tmps.size = n) (ht : ∀ i, act.tmps.getD i undef = fr i) (hi : ins.Nodup) (ho : outs.Nodup) (hw : Own H R w) :
    (Code.rangeFunc g ps as b).wpIn (FrR none) 0 P (fun e a' w' => e = .normal ∧ a'.tmps = act.tmps ∧ ∃ D x, a'.defers = markOf D :: act.defers ∧ Φ x ∧ Own (updL (clears H ins) outs (.blk D (.deferred (some [])) :: us x)) R w' ∧ Ext w w') act w :=
  wpIn_mono (h _ w act hz ht (own_split hi hw)) fun _ _ _ ⟨h1, h2, D, x, h3, h4, h5, h6⟩ => ⟨h1, h2, D, x, h3, h4, own_join ho h5, h6⟩

def agreeW (ts : List Nat) (fr' fr : Nat → Value) (Y : Prop) : Prop :=
  match ts with
  | [] => Y
  | t :: ts => fr' t = fr t → agreeW ts fr' fr Y
theorem agreeW_self : ∀ {ts : List Nat} {fr : Nat → Value} {Y : Prop}, agreeW ts fr fr Y → Y
  | [], _, _, h => h
  | _ :: _, _, _, h => agreeW_self (h rfl)
def codeW (P : Program) (n : Nat) (r : Option Nat) : Nat → Option Code → Code → Script → St → (Exit → St → Script → Prop) → Prop
  | 0, _, _, _, _, _ => False
  | f + 1, some body, c, k, s, K => codeW P n r f none c k s fun e s' k' =>
      match e with
      | .goto l => match findLabel body l with | some rest => codeW P n r f (some body) rest k' s' K | none => K (.goto l) s' k'
      | e => K e s' k'
  | f + 1, none, c, .cut _ live heap Φ k, s, K =>
      (∃ x, Φ x ∧ atW (live x) (heap x) s.df s True) ∧ ∀ x (junk : Nat → Value), Φ x → codeW P n r f none c (k x) (mkS (live x) (heap x) junk s.df) K
  | f + 1, none, c, .caseP b k1 k2, s, K => (b s = true → codeW P n r f none c k1 s K) ∧ (b s = false → codeW P n r f none c k2 s K)
  | f + 1, none, c, .ghost ids φ k, s, K => onB (nodB ids) ((∀ (R : HP) (w : World), Own (ofList (ids.map s.H)) R w → φ (ids.map s.H)) ∧ (φ (ids.map s.H) → codeW P n r f none c k s K))
  | _ + 1, none, .skip, k, s, K => K .normal s k
  | _ + 1, none, .label _, k, s, K => K .normal s k
  | _ + 1, none, .ret, k, s, K => K .ret s k
  | _ + 1, none, .exit id, k, s, K => K (.exit id) s k
  | _ + 1, none, .goto l, k, s, K => K (.goto l) s k
  | f + 1, none, .seq x y, .join _ live heap Φ k1 k2, s, K =>
      codeW P n r f none x k1 s (fun e s' k' => match e with | .normal => ∃ x, Φ x ∧ atW (live x) (heap x) s.df s' True | e => K e s' k') ∧
      ∀ x (junk : Nat → Value), Φ x → codeW P n r f none y (k2 x) (mkS (live x) (heap x) junk s.df) K
  | f + 1, none, .seq x y, k, s, K => codeW P n r f none x k s fun e s' k' => match e with | .normal => codeW P n r f none y k' s' K | e => K e s' k'
  | _ + 1, none, .region _ ops draw, .reg as k', s, K =>
      onB (bif draw then regOK n ops as else lenIs as ops.size) (onB (dfrOK r as) (seqW P n ops (zipFrom 0 as) s fun s' => K .normal s' k'))
  | f + 1, none, .cond c x y, k, s, K =>
      match evalF s.fr c with
      | .bool b =>
        match k with
        | .condT k' => b = true ∧ codeW P n r f none x k' s K
        | .condF k' => b = false ∧ codeW P n r f none y k' s K
        | .cond k1 k2 => (b = true → codeW P n r f none x k1 s K) ∧ (b = false → codeW P n r f none y k2 s K)
        | _ => False
      | _ => False
  | f + 1, none, .block id c, k, s, K => codeW P n r f none c k s fun e s' k' =>
      match e with
      | .exit id' => match Nat.beq id' id with | true => K .normal s' k' | false => K (.exit id') s' k'
      | e => K e s' k'
  | f + 1, none, .loop c, .inv _ live heap Φ μ kb, s, K =>
      (∃ x, Φ x ∧ atW (live x) (heap x) s.df s True) ∧ ∀ x (junk : Nat → Value), Φ x →
        codeW P n r f none c (kb x) (mkS (live x) (heap x) junk s.df) fun e s' k' =>
          match e with
          | .normal => ∃ y, Φ y ∧ μ y < μ x ∧ atW (live y) (heap y) s.df s' True
          | e => K e s' k'
  | f + 1, none, .loop c, k, s, K => codeW P n r f none c k s fun e s' k' => match e with | .normal => codeW P n r f none (.loop c) k' s' K | e => K e s' k'
  | f + 1, none, .scope body, .sinv l _ live heap Φ μ k0 k1, s, K =>
      match r, findLabel body l with
      | none, some rest =>
        codeW P n r f none body k0 s (fun e s' k' =>
          match e with
          | .goto l' => match Nat.beq l' l with | true => ∃ x, Φ x ∧ atW (live x) (heap x) s.df s' True | false => False
          | e => K e s' k') ∧
        ∀ x (junk : Nat → Value), Φ x → codeW P n r f none rest (k1 x) (mkS (live x) (heap x) junk s.df) fun e s' k' =>
          match e with
          | .goto l' => match Nat.beq l' l with | true => ∃ y, Φ y ∧ μ y < μ x ∧ atW (live y) (heap y) s.df s' True | false => False
          | e => K e s' k'
      | _, _ => False
  | f + 1, none, .scope body, k, s, K => match r with | none => codeW P n r f (some body) body k s K | some _ => False
  | _ + 1, none, .rangeFunc g ps as b, .rf ts ins outs C k, s, K =>
      match r with
      | none => onB (nodB ins) (onB (nodB outs) ((∀ fr' : Nat → Value, agreeW ts fr' s.fr (RangeT P n g ps as b fr' (ins.map s.H) (C s.fr (ins.map s.H)).X (C s.fr (ins.map s.H)).us (C s.fr (ins.map s.H)).Φ)) ∧ (∃ x, (C s.fr (ins.map s.H)).Φ x) ∧
          ∀ D x, (C s.fr (ins.map s.H)).Φ x → K .normal ⟨s.fr, updL (clears s.H ins) outs (.blk D (.deferred (some [])) :: (C s.fr (ins.map s.H)).us x), markOf D :: s.df⟩ k))
      | some _ => False
  | _ + 1, none, _, _, _, _ => False

/-! ### Soundness -/
theorem own_sub {H : Hp} {R : HP} {w : World} {ids : List Nat} (hn : ids.Nodup) (h : Own H R w) : Own (ofList (ids.map H)) R w := by
  obtain ⟨p, q, hs, hq, hp, hqw, hd, hdq⟩ := h
  refine ⟨pickL ids p, q, fun k => ?_, hq, fun k => ?_, hqw, fun k l hkl => ?_, fun k => ?_⟩
  · unfold ofList
    cases hk : ids[k]? with
    | none => rw [List.getD_eq_getElem?_getD, List.getElem?_map, hk, pickL_none hk]; exact fun _ => rfl
    | some i => rw [List.getD_eq_getElem?_getD, List.getElem?_map, hk, pickL_some hk]; exact hs i
  · cases hk : ids[k]? with
    | none => rw [pickL_none hk]; intro b o h; cases h
    | some i => rw [pickL_some hk]; exact hp i
  · cases hk : ids[k]? with
    | none => rw [pickL_none hk]; exact fun _ => .inl rfl
    | some i =>
      cases hl : ids[l]? with
      | none => rw [pickL_none hl]; exact fun _ => .inr rfl
      | some j =>
        rw [pickL_some hk, pickL_some hl]
        refine hd i j (fun e => hkl ?_)
        subst e
        obtain ⟨hk1, hk2⟩ := List.getElem?_eq_some_iff.1 hk
        obtain ⟨hl1, hl2⟩ := List.getElem?_eq_some_iff.1 hl
        exact (List.getElem_inj hn).1 (hk2.trans hl2.symm)
  · cases hk : ids[k]? with
    | none => rw [pickL_none hk]; exact fun _ => .inl rfl
    | some i => rw [pickL_some hk]; exact hdq i

def PostC (n : Nat) (K : Exit → St → Prop) (R : HP) (w : World) (e : Exit) (a' : Act) (w' : World) : Prop :=
  ∃ s', K e s' ∧ Rel n s' a' ∧ Own s'.H R w' ∧ Ext w w'

theorem PostC.ext {n : Nat} {K : Exit → St → Prop} {R : HP} {w w1 : World} {e : Exit} {a' : Act} {w' : World} (h : PostC n K R w1 e a' w') (hx : Ext w w1) : PostC n K R w e a' w' :=
  let ⟨s', k, r, o, x⟩ := h; ⟨s', k, r, o, hx.trans x⟩

def wpSc (P : Program) (body c : Code) (Q : Exit → Act → World → Prop) (a : Act) (w : World) : Prop :=
  ∀ (b : Frame) (k : List Item) (cs : List Frame), ∃ e a' w', Q e a' w' ∧ Arrives P (lone (b.at a (.code c :: .inScope body :: k)) cs w) b k cs e a' w'

def scPost (P : Program) (body : Code) (Q : Exit → Act → World → Prop) : Exit → Act → World → Prop
  | .goto l, a, w => match findLabel body l with | some rest => wpSc P body rest Q a w | none => Q (.goto l) a w
  | e, a, w => Q e a w

theorem wpSc_of {P : Program} {body c : Code} {Q : Exit → Act → World → Prop} {a : Act} {w : World} (h : c.wp P (scPost P body Q) a w) : wpSc P body c Q a w := by
  intro b k cs
  obtain ⟨e, a₁, w₁, hq, harr⟩ := h b (.inScope body :: k) cs
  cases e with
  | normal => exact ⟨.normal, a₁, w₁, hq, Steps.trans harr (.one step_inScope)⟩
  | exit id => exact ⟨.exit id, a₁, w₁, hq, fun k' hk => harr k' (by simp [exitTo, hk])⟩
  | goto l =>
    simp only [scPost] at hq
    cases hf : findLabel body l with
    | none => rw [hf] at hq; exact ⟨.goto l, a₁, w₁, hq, fun k' hk => harr k' (by simp [gotoIn, hf, hk])⟩
    | some rest =>
      rw [hf] at hq
      obtain ⟨e₂, a₂, w₂, hq₂, harr₂⟩ := hq b k cs
      exact ⟨e₂, a₂, w₂, hq₂, .of_steps (harr _ (by simp [gotoIn, hf])) harr₂⟩
  | ret => exact ⟨_, a₁, w₁, hq, harr⟩
  | panic ch => exact ⟨_, a₁, w₁, hq, harr⟩
  | outgrown => exact ⟨_, a₁, w₁, hq, harr⟩

theorem wp_scope_of {P : Program} {body : Code} {Q : Exit → Act → World → Prop} {a : Act} {w : World} (h : wpSc P body body Q a w) : (Code.scope body).wp P Q a w := by
  intro b k cs
  obtain ⟨e, a₁, w₁, hq, harr⟩ := h b k cs
  exact ⟨e, a₁, w₁, hq, .of_steps (.one step_scope) harr⟩

theorem lookL_live : ∀ (l : List (Nat × Value)) {fr : Nat → Value} {X : Prop}, liveW l fr X → X ∧ ∀ i v, lookL l i = some v → fr i = v
  | [], _, _, h => ⟨h, fun _ _ h => by cases h⟩
  | (i, v) :: l, fr, X, h => by
    obtain ⟨hx, hl⟩ := lookL_live l h.2
    refine ⟨hx, fun j u hj => ?_⟩
    simp only [lookL] at hj
    cases hb : Nat.beq j i with
    | true => rw [hb] at hj; simp at hj; rw [Nat.eq_of_beq_eq_true hb, ← hj]; exact h.1
    | false => rw [hb] at hj; exact hl j u hj
theorem lookL_heap : ∀ (l : List (Nat × Slot)) {H : Hp} {X : Prop}, heapW l H X → X ∧ ∀ i v, lookL l i = some v → H i = v
  | [], _, _, h => ⟨h, fun _ _ h => by cases h⟩
  | (i, v) :: l, H, X, h => by
    obtain ⟨hx, hl⟩ := lookL_heap l h.2
    refine ⟨hx, fun j u hj => ?_⟩
    simp only [lookL] at hj
    cases hb : Nat.beq j i with
    | true => rw [hb] at hj; simp at hj; rw [Nat.eq_of_beq_eq_true hb, ← hj]; exact h.1
    | false => rw [hb] at hj; exact hl j u hj

theorem Own.weaken {H H' : Hp} {R : HP} {w : World} (h : Own H R w) (hh : ∀ i, H' i = H i ∨ H' i = .free) : Own H' R w := by
  classical
  obtain ⟨p, q, hs, hq, hp, hqw, hd, hdq⟩ := h
  refine ⟨fun i => if H' i = H i then p i else fun _ => none, q, fun i => ?_, hq, fun i => ?_, hqw, fun i j hij => ?_, fun i => ?_⟩
  · by_cases e : H' i = H i
    · simp only [e, if_true]; exact hs i
    · simp only [e, if_false]; rw [(hh i).resolve_left e]; exact fun _ => rfl
  · by_cases e : H' i = H i
    · simp only [e, if_true]; exact hp i
    · simp only [e, if_false]; intro b o h; cases h
  · by_cases e : H' i = H i
    · by_cases e' : H' j = H j
      · simp only [e, e', if_true]; exact hd i j hij
      · simp only [e', if_false]; exact fun _ => .inr rfl
    · simp only [e, if_false]; exact fun _ => .inl rfl
  · by_cases e : H' i = H i
    · simp only [e, if_true]; exact hdq i
    · simp only [e, if_false]; exact fun _ => .inl rfl

theorem atW_use {n : Nat} {live : List (Nat × Value)} {heap : List (Nat × Slot)} {df : List Deferred} {s : St} {a : Act} {R : HP} {w : World} (h : atW live heap df s True) (hr : Rel n s a) (ho : Own s.H R w) :
    ∃ junk, Rel n (mkS live heap junk df) a ∧ Own (mkS live heap junk df).H R w := by
  obtain ⟨h1, hl⟩ := lookL_live live h
  obtain ⟨h2, hh⟩ := lookL_heap heap h1
  have hdf : s.df = df := by
    cases hs : s.df with
    | nil =>
      rw [hs] at h2
      cases df with
      | nil => rfl
      | cons x l => exact h2.elim
    | cons x l => rw [hs] at h2; exact h2.1
  refine ⟨s.fr, ⟨hr.size, fun i => ?_, by rw [hr.df, hdf]; rfl⟩, ho.weaken fun i => ?_⟩
  · rw [hr.at_ i]
    simp only [mkS]
    cases hx : lookL live i with
    | none => rfl
    | some v => exact hl i v hx
  · simp only [mkS]
    cases hx : lookL heap i with
    | none => exact .inr rfl
    | some v => exact .inl (hh i v hx).symm

/-! ### Loops -/
def wpLp (r : Option Nat) (P : Program) (c : Code) (Q : Exit → Act → World → Prop) (a : Act) (w : World) : Prop :=
  ∀ (b : Frame) (k : List Item) (cs : List Frame), b.roundOf = (FrR r).round → (FrR r).fn b.fn → (FrR r).room (cs.length + 1 + 0) →
    ∃ e a' w', Q e a' w' ∧ ArrivesIn (Machine.fenced P (FrR r)) P (lone (b.atR a (.code c :: .inLoop c :: k)) cs w) b k cs e a' w'

theorem wpLp_round {r : Option Nat} {P : Program} {c : Code} {Q : Exit → Act → World → Prop} {a : Act} {w : World} (h : c.wpIn (FrR r) 0 P (Exit.then (wpLp r P c Q) Q) a w) : wpLp r P c Q a w := by
  intro b k cs hro hb hroom
  obtain ⟨e, a₁, w₁, hq, harr⟩ := h b (.inLoop c :: k) cs hro hb hroom
  cases e with
  | normal =>
    obtain ⟨e₂, a₂, w₂, hq₂, harr₂⟩ := hq b k cs hro hb hroom
    have s1 : StepsIn (Machine.fenced P (FrR r)) P (lone (b.atR a₁ (.inLoop c :: k)) cs w₁) (lone (b.atR a₁ (.code c :: .inLoop c :: k)) cs w₁) := .one (fenced_calm hb hroom rfl) stepR_inLoop
    exact ⟨e₂, a₂, w₂, hq₂, .of_steps (StepsIn.trans harr s1) harr₂⟩
  | exit id => exact ⟨_, a₁, w₁, hq, .pass (x := .inLoop c) rfl (by simp) harr⟩
  | goto l => exact ⟨_, a₁, w₁, hq, .pass (x := .inLoop c) rfl (by simp) harr⟩
  | ret => exact ⟨_, a₁, w₁, hq, .pass (x := .inLoop c) rfl (by simp) harr⟩
  | panic ch => exact ⟨_, a₁, w₁, hq, .pass (x := .inLoop c) rfl (by simp) harr⟩
  | outgrown => exact ⟨_, a₁, w₁, hq, .pass (x := .inLoop c) rfl (by simp) harr⟩

theorem wpIn_loop_of {r : Option Nat} {P : Program} {c : Code} {Q : Exit → Act → World → Prop} {a : Act} {w : World} (h : wpLp r P c Q a w) : (Code.loop c).wpIn (FrR r) 0 P Q a w := by
  intro b k cs hro hb hroom
  obtain ⟨e, a₁, w₁, hq, harr⟩ := h b k cs hro hb hroom
  exact ⟨e, a₁, w₁, hq, .of_steps (.one (fenced_calm hb hroom rfl) stepR_loop) harr⟩

theorem code_sound {P : Program} {n : Nat} {r : Option Nat} (hP : P.follows .mixedOrders = true) (f : Nat) :
    (∀ (c : Code) (k : Script) (s : St) (K : Exit → St → Script → Prop) (R : HP) (act : Act) (w : World), codeW P n r f none c k s K → Rel n s act → Own s.H R w →
      c.wpIn (FrR r) 0 P (PostC n (fun e s' => ∃ k', K e s' k') R w) act w) ∧
    (∀ (body c : Code) (k : Script) (s : St) (K : Exit → St → Script → Prop) (R : HP) (act : Act) (w : World), r = none → codeW P n r f (some body) c k s K → Rel n s act → Own s.H R w →
      wpSc P body c (PostC n (fun e s' => ∃ k', K e s' k') R w) act w) ∧
    (∀ (c : Code) (k : Script) (s : St) (K : Exit → St → Script → Prop) (R : HP) (act : Act) (w : World), codeW P n r f none (.loop c) k s K → Rel n s act → Own s.H R w →
      wpLp r P c (PostC n (fun e s' => ∃ k', K e s' k') R w) act w) := by
  induction f with
  | zero => exact ⟨fun c k s K R act w h => h.elim, fun body c k s K R act w _ h => h.elim, fun c k s K R act w h => h.elim⟩
  | succ f ih =>
    obtain ⟨ih1, ih2, ih3⟩ := ih
    have hloop : ∀ (c : Code) (k : Script) (s : St) (K : Exit → St → Script → Prop) (R : HP) (act : Act) (w : World), codeW P n r (f + 1) none (.loop c) k s K → Rel n s act → Own s.H R w →
        wpLp r P c (PostC n (fun e s' => ∃ k', K e s' k') R w) act w := by
      intro c k s K R act w h hr ho
      have go : codeW P n r f none c k s (fun e s' k' => match e with | .normal => codeW P n r f none (.loop c) k' s' K | e => K e s' k') → wpLp r P c (PostC n (fun e s' => ∃ k', K e s' k') R w) act w := by
        intro h
        refine wpLp_round (wpIn_mono (ih1 _ _ _ _ R act w h hr ho) ?_)
        rintro e a' w' ⟨s', ⟨k', hk⟩, hr', ho', he⟩
        cases e with
        | normal =>
          intro b k0 cs hro hb hroom
          obtain ⟨e₂, a₂, w₂, hq₂, harr₂⟩ := ih3 _ _ _ _ R a' w' hk hr' ho' b k0 cs hro hb hroom
          exact ⟨e₂, a₂, w₂, hq₂.ext he, harr₂⟩
        | _ => exact ⟨s', ⟨k', hk⟩, hr', ho', he⟩
      cases k with
      | cut X live heap Φ k' =>
        obtain ⟨⟨x, hx, hat⟩, h⟩ := h
        obtain ⟨junk, hr', ho'⟩ := atW_use hat hr ho
        exact ih3 _ _ _ _ R act w (h x junk hx) hr' ho'
      | ghost ids φ k' =>
        obtain ⟨hi, h1, h2⟩ := onB_iff.1 h
        exact ih3 _ _ _ _ R act w (h2 (h1 R w (own_sub (nodB_iff.1 hi) ho))) hr ho
      | caseP b k1 k2 =>
        cases hb : b s with
        | true => exact ih3 _ _ _ _ R act w (h.1 hb) hr ho
        | false => exact ih3 _ _ _ _ R act w (h.2 hb) hr ho
      | inv X live heap Φ μ kb =>
        obtain ⟨⟨x, hx, hat⟩, h⟩ := h
        obtain ⟨junk, hr', ho'⟩ := atW_use hat hr ho
        have key : ∀ (m : Nat) (x : X) (junk : Nat → Value) (act : Act) (w1 : World), μ x = m → Φ x → Rel n (mkS (live x) (heap x) junk s.df) act → Own (mkS (live x) (heap x) junk s.df).H R w1 → Ext w w1 →
            wpLp r P c (PostC n (fun e s' => ∃ k', K e s' k') R w) act w1 := by
          intro m
          induction m using Nat.strongRecOn with
          | _ m ihm =>
            intro x junk act w1 hm hx hr ho hext
            refine wpLp_round (wpIn_mono (ih1 _ _ _ _ R act w1 (h x junk hx) hr ho) ?_)
            rintro e a' w' ⟨s', ⟨k', hk⟩, hr', ho', he⟩
            cases e with
            | normal =>
              obtain ⟨y, hy, hlt, hat⟩ := hk
              obtain ⟨junk', hr'', ho''⟩ := atW_use hat hr' ho'
              exact ihm (μ y) (hm ▸ hlt) y junk' a' w' rfl hy hr'' ho'' (hext.trans he)
            | _ => exact ⟨s', ⟨k', hk⟩, hr', ho', hext.trans he⟩
        exact key _ x junk act w rfl hx hr' ho' (.refl _)
      | _ => exact go h
    refine ⟨fun c k s K R act w h hr ho => ?_, fun body c k s K R act w hn h hr ho => ?_, hloop⟩
    · have hcut : ∀ {X : Type} {live : X → List (Nat × Value)} {heap : X → List (Nat × Slot)} {Φ : X → Prop} {k' : X → Script}, k = .cut X live heap Φ k' → c.wpIn (FrR r) 0 P (PostC n (fun e s' => ∃ k', K e s' k') R w) act w := by
        intro X live heap Φ k' hk
        subst hk
        have h : (∃ x, Φ x ∧ atW (live x) (heap x) s.df s True) ∧ ∀ x (junk : Nat → Value), Φ x → codeW P n r f none c (k' x) (mkS (live x) (heap x) junk s.df) K := by cases c <;> exact h
        obtain ⟨⟨x, hx, hat⟩, h⟩ := h
        obtain ⟨junk, hr', ho'⟩ := atW_use hat hr ho
        exact ih1 _ _ _ _ R act w (h x junk hx) hr' ho'
      have hghost : ∀ {ids : List Nat} {φ : List Slot → Prop} {k' : Script}, k = .ghost ids φ k' → c.wpIn (FrR r) 0 P (PostC n (fun e s' => ∃ k', K e s' k') R w) act w := by
        intro ids φ k' hk
        subst hk
        have h : onB (nodB ids) ((∀ (R : HP) (w : World), Own (ofList (ids.map s.H)) R w → φ (ids.map s.H)) ∧ (φ (ids.map s.H) → codeW P n r f none c k' s K)) := by cases c <;> exact h
        obtain ⟨hi, h1, h2⟩ := onB_iff.1 h
        exact ih1 _ _ _ _ R act w (h2 (h1 R w (own_sub (nodB_iff.1 hi) ho))) hr ho
      have hcase : ∀ {b : St → Bool} {k1 k2 : Script}, k = .caseP b k1 k2 → c.wpIn (FrR r) 0 P (PostC n (fun e s' => ∃ k', K e s' k') R w) act w := by
        intro b k1 k2 hk
        subst hk
        have h : (b s = true → codeW P n r f none c k1 s K) ∧ (b s = false → codeW P n r f none c k2 s K) := by cases c <;> exact h
        cases hb : b s with
        | true => exact ih1 _ _ _ _ R act w (h.1 hb) hr ho
        | false => exact ih1 _ _ _ _ R act w (h.2 hb) hr ho
      cases c with
      | skip => cases k <;> first | exact hcut rfl | exact hcase rfl | exact hghost rfl | exact wpIn_skip ⟨s, ⟨_, h⟩, hr, ho, .refl _⟩
      | label l => cases k <;> first | exact hcut rfl | exact hcase rfl | exact hghost rfl | exact wpIn_label ⟨s, ⟨_, h⟩, hr, ho, .refl _⟩
      | ret => cases k <;> first | exact hcut rfl | exact hcase rfl | exact hghost rfl | exact wpIn_ret ⟨s, ⟨_, h⟩, hr, ho, .refl _⟩
      | exit id => cases k <;> first | exact hcut rfl | exact hcase rfl | exact hghost rfl | exact wpIn_exit ⟨s, ⟨_, h⟩, hr, ho, .refl _⟩
      | goto l => cases k <;> first | exact hcut rfl | exact hcase rfl | exact hghost rfl | exact wpIn_goto ⟨s, ⟨_, h⟩, hr, ho, .refl _⟩
      | seq x y =>
        have go : ∀ k, codeW P n r f none x k s (fun e s' k' => match e with | .normal => codeW P n r f none y k' s' K | e => K e s' k') → (Code.seq x y).wpIn (FrR r) 0 P (PostC n (fun e s' => ∃ k', K e s' k') R w) act w := by
          intro k h
          refine wpIn_seq (wpIn_mono (ih1 _ _ _ _ R act w h hr ho) ?_)
          rintro e a' w' ⟨s', ⟨k', hk⟩, hr', ho', he⟩
          cases e with
          | normal => exact wpIn_mono (ih1 _ _ _ _ R a' w' hk hr' ho') fun e a w hp => hp.ext he
          | _ => exact ⟨s', ⟨k', hk⟩, hr', ho', he⟩
        cases k with
        | cut => exact hcut rfl
        | caseP => exact hcase rfl
        | ghost => exact hghost rfl
        | join X live heap Φ k1 k2 =>
          obtain ⟨h1, h2⟩ := h
          refine wpIn_seq (wpIn_mono (ih1 _ _ _ _ R act w h1 hr ho) ?_)
          rintro e a' w' ⟨s', ⟨k', hk⟩, hr', ho', he⟩
          cases e with
          | normal =>
            obtain ⟨x, hx, hat⟩ := hk
            obtain ⟨junk, hr'', ho''⟩ := atW_use hat hr' ho'
            exact wpIn_mono (ih1 _ _ _ _ R a' w' (h2 x junk hx) hr'' ho'') fun e a w hp => hp.ext he
          | _ => exact ⟨s', ⟨k', hk⟩, hr', ho', he⟩
        | _ => exact go _ h
      | region id ops draw =>
        cases k with
        | cut => exact hcut rfl
        | caseP => exact hcase rfl
        | ghost => exact hghost rfl
        | reg as k' =>
          obtain ⟨hc, h⟩ := onB_iff.1 h
          obtain ⟨hd, hsq⟩ := onB_iff.1 h
          have hd' : r = none ∨ as.all (fun a => !isDfr a) = true := by
            unfold dfrOK at hd
            cases r with
            | none => exact .inl rfl
            | some _ => exact .inr hd
          have fin : ∀ a' w', After n (fun s' => K .normal s' k') R w a' w' → PostC n (fun e s' => ∃ k', K e s' k') R w .normal a' w' := fun a' w' ⟨s', hk, x⟩ => ⟨s', ⟨_, hk⟩, x⟩
          cases draw with
          | true => exact region_draw_sound hP hc hd' hsq hr ho fin
          | false => exact region_sound hc hd' hsq hr ho fin
        | _ => exact h.elim
      | cond cd x y =>
        have hev := hr.eval
        have go : (match (generalizing := false) evalF s.fr cd with
            | .bool b =>
              match k with
              | .condT k' => b = true ∧ codeW P n r f none x k' s K
              | .condF k' => b = false ∧ codeW P n r f none y k' s K
              | .cond k1 k2 => (b = true → codeW P n r f none x k1 s K) ∧ (b = false → codeW P n r f none y k2 s K)
              | _ => False
            | _ => False) → (Code.cond cd x y).wpIn (FrR r) 0 P (PostC n (fun e s' => ∃ k', K e s' k') R w) act w := by
          intro h
          rw [← hev] at h
          cases hb : act.eval cd <;> rw [hb] at h <;> try exact h.elim
          rename_i b
          cases k with
          | condT k' =>
            obtain ⟨rfl, h⟩ := h
            exact wpIn_cond hb (ih1 _ _ _ _ R act w h hr ho)
          | condF k' =>
            obtain ⟨rfl, h⟩ := h
            exact wpIn_cond hb (ih1 _ _ _ _ R act w h hr ho)
          | cond k1 k2 =>
            refine wpIn_cond hb ?_
            cases b with
            | true => exact ih1 _ _ _ _ R act w (h.1 rfl) hr ho
            | false => exact ih1 _ _ _ _ R act w (h.2 rfl) hr ho
          | _ => exact h.elim
        cases k with
        | cut => exact hcut rfl
        | caseP => exact hcase rfl
        | ghost => exact hghost rfl
        | _ => exact go h
      | block id c =>
        have go : codeW P n r f none c k s (fun e s' k' => match e with
              | .exit id' => match Nat.beq id' id with | true => K .normal s' k' | false => K (.exit id') s' k'
              | e => K e s' k') → (Code.block id c).wpIn (FrR r) 0 P (PostC n (fun e s' => ∃ k', K e s' k') R w) act w := by
          intro h
          refine wpIn_block (wpIn_mono (ih1 _ _ _ _ R act w h hr ho) ?_)
          rintro e a' w' ⟨s', ⟨k', hk⟩, hr', ho', he⟩
          cases e with
          | exit id' =>
            simp only [Exit.inBlock]
            cases hb : Nat.beq id' id with
            | true => rw [if_pos (Nat.eq_of_beq_eq_true hb)]; simp only [hb] at hk; exact ⟨s', ⟨k', hk⟩, hr', ho', he⟩
            | false => rw [if_neg (Nat.ne_of_beq_eq_false hb)]; simp only [hb] at hk; exact ⟨s', ⟨k', hk⟩, hr', ho', he⟩
          | _ => exact ⟨s', ⟨k', hk⟩, hr', ho', he⟩
        cases k with
        | cut => exact hcut rfl
        | caseP => exact hcase rfl
        | ghost => exact hghost rfl
        | _ => exact go h
      | loop c => exact wpIn_loop_of (hloop c k s K R act w h hr ho)
      | scope body =>
        have back : ∀ {Q : Exit → Act → World → Prop} {act : Act} {w : World} {c : Code}, r = none → (c.wpIn (FrR r) 0 P Q act w ↔ c.wp P Q act w) := by
          intro Q act w c hn
          subst hn
          exact wpIn_wide
        have go : ∀ k, (match (generalizing := false) r with | none => codeW P n r f (some body) body k s K | some _ => False) → (Code.scope body).wpIn (FrR r) 0 P (PostC n (fun e s' => ∃ k', K e s' k') R w) act w := by
          intro k h
          cases hn : r with
          | some l => rw [hn] at h; exact h.elim
          | none =>
            have h' : codeW P n r f (some body) body k s K := by rw [hn] at h ⊢; exact h
            rw [← hn]
            exact (back hn).2 (wp_scope_of (ih2 _ _ _ _ _ R act w hn h' hr ho))
        cases k with
        | cut => exact hcut rfl
        | caseP => exact hcase rfl
        | ghost => exact hghost rfl
        | sinv l X live heap Φ μ k0 k1 =>
          have h : (match (generalizing := false) r, findLabel body l with
            | none, some rest =>
              codeW P n r f none body k0 s (fun e s' k' =>
                match e with
                | .goto l' => match Nat.beq l' l with | true => ∃ x, Φ x ∧ atW (live x) (heap x) s.df s' True | false => False
                | e => K e s' k') ∧
              ∀ x (junk : Nat → Value), Φ x → codeW P n r f none rest (k1 x) (mkS (live x) (heap x) junk s.df) fun e s' k' =>
                match e with
                | .goto l' => match Nat.beq l' l with | true => ∃ y, Φ y ∧ μ y < μ x ∧ atW (live y) (heap y) s.df s' True | false => False
                | e => K e s' k'
            | _, _ => False) := h
          cases hn : r with
          | some l => rw [hn] at h; exact h.elim
          | none =>
            cases hf : findLabel body l with
            | none => rw [hn, hf] at h; exact h.elim
            | some rest =>
              have h' : codeW P n r f none body k0 s (fun e s' k' =>
                  match e with
                  | .goto l' => match Nat.beq l' l with | true => ∃ x, Φ x ∧ atW (live x) (heap x) s.df s' True | false => False
                  | e => K e s' k') ∧
                ∀ x (junk : Nat → Value), Φ x → codeW P n r f none rest (k1 x) (mkS (live x) (heap x) junk s.df) fun e s' k' =>
                  match e with
                  | .goto l' => match Nat.beq l' l with | true => ∃ y, Φ y ∧ μ y < μ x ∧ atW (live y) (heap y) s.df s' True | false => False
                  | e => K e s' k' := by rw [hn, hf] at h; rw [hn]; exact h
              rw [← hn]
              obtain ⟨h1, h2⟩ := h'
              have key : ∀ (m : Nat) (x : X) (junk : Nat → Value) (act : Act) (w1 : World), μ x = m → Φ x → Rel n (mkS (live x) (heap x) junk s.df) act → Own (mkS (live x) (heap x) junk s.df).H R w1 → Ext w w1 →
                  wpSc P body rest (PostC n (fun e s' => ∃ k', K e s' k') R w) act w1 := by
                intro m
                induction m using Nat.strongRecOn with
                | _ m ihm =>
                  intro x junk act w1 hm hx hr ho hext
                  refine wpSc_of ((back hn).1 (wpIn_mono (ih1 _ _ _ _ R act w1 (h2 x junk hx) hr ho) ?_))
                  rintro e a' w' ⟨s', ⟨k', hk⟩, hr', ho', he⟩
                  cases e with
                  | goto l' =>
                    cases hb : Nat.beq l' l with
                    | false => simp only [hb] at hk
                    | true =>
                      simp only [hb] at hk
                      obtain rfl := Nat.eq_of_beq_eq_true hb
                      simp only [scPost, hf]
                      obtain ⟨y, hy, hlt, hat⟩ := hk
                      obtain ⟨junk', hr'', ho''⟩ := atW_use hat hr' ho'
                      exact ihm (μ y) (hm ▸ hlt) y junk' a' w' rfl hy hr'' ho'' (hext.trans he)
                  | _ => exact ⟨s', ⟨k', hk⟩, hr', ho', hext.trans he⟩
              refine (back hn).2 (wp_scope_of (wpSc_of ((back hn).1 (wpIn_mono (ih1 _ _ _ _ R act w h1 hr ho) ?_))))
              rintro e a' w' ⟨s', ⟨k', hk⟩, hr', ho', he⟩
              cases e with
              | goto l' =>
                cases hb : Nat.beq l' l with
                | false => simp only [hb] at hk
                | true =>
                  simp only [hb] at hk
                  obtain rfl := Nat.eq_of_beq_eq_true hb
                  simp only [scPost, hf]
                  obtain ⟨x, hx, hat⟩ := hk
                  obtain ⟨junk', hr'', ho''⟩ := atW_use hat hr' ho'
                  exact key _ x junk' a' w' rfl hx hr'' ho'' he
              | _ => exact ⟨s', ⟨k', hk⟩, hr', ho', he⟩
        | _ => exact go _ h
      | rangeFunc g ps as b =>
        cases k with
        | rf ts ins outs C k' =>
          cases r with
          | some l => exact h.elim
          | none =>
            obtain ⟨hi, h⟩ := onB_iff.1 h
            obtain ⟨hu, h, _, hk⟩ := onB_iff.1 h
            refine wpIn_mono ((agreeW_self (h s.fr)).use hr.size hr.at_ (nodB_iff.1 hi) (nodB_iff.1 hu) ho) ?_
            rintro e a' w' ⟨rfl, ht, D, x, hd, hx, ho', hext⟩
            exact ⟨_, ⟨k', hk D x hx⟩, ⟨by rw [ht]; exact hr.size, fun i => by rw [ht]; exact hr.at_ i, by rw [hd, hr.df]⟩, ho', hext⟩
        | _ => first | exact hcut rfl | exact hcase rfl | exact hghost rfl | exact h.elim
      | refuse why => cases k <;> first | exact hcut rfl | exact hcase rfl | exact hghost rfl | exact h.elim
    · have h : codeW P n r f none c k s (fun e s' k' =>
          match e with
          | .goto l => match findLabel body l with | some rest => codeW P n r f (some body) rest k' s' K | none => K (.goto l) s' k'
          | e => K e s' k') := h
      have hh := ih1 _ _ _ _ R act w h hr ho
      subst hn
      refine wpSc_of (wpIn_wide.1 (wpIn_mono hh ?_))
      rintro e a' w' ⟨s', ⟨k', hk⟩, hr', ho', he⟩
      cases e with
      | goto l =>
        simp only [scPost]
        cases hf : findLabel body l with
        | none => simp only [hf] at hk; exact ⟨s', ⟨k', hk⟩, hr', ho', he⟩
        | some rest =>
          simp only [hf] at hk
          intro b k0 cs
          obtain ⟨e₂, a₂, w₂, hq₂, harr₂⟩ := ih2 _ _ _ _ _ R a' w' rfl hk hr' ho' b k0 cs
          exact ⟨e₂, a₂, w₂, hq₂.ext he, harr₂⟩
      | _ => exact ⟨s', ⟨k', hk⟩, hr', ho', he⟩
end Go.Sx
