/- A part of the prover's own frame for walking code (see the claim's other texts). -/
import Derived.RangeFuncIn
import Derived.RangeFuncCalls
import Derived.Below
import Derived.Defers
import Derived.KernelRfl
set_option linter.unusedVariables false
set_option linter.unusedSimpArgs false
namespace Go.Sx
open Go.RowKit

/-! ### Pieces of the heap -/
abbrev Hl := Nat → Option Obj
abbrev HP := Hl → Prop
def Hl.disj (p q : Hl) : Prop := ∀ b, p b = none ∨ q b = none
def Hl.inw (p : Hl) (w : World) : Prop := ∀ b o, p b = some o → w.heap[b]? = some o

/-- An entry of a journal: how a key was. -/
structure Ent where
  g : FuncId
  b : Nat
  key : Value
  was : Option Value
  z : Value
  t1 : TypeId
  t2 : TypeId
  t3 : TypeId
  t4 : TypeId
/-- What a bundle holds. -/
inductive Dat where
  | none
  | nat (n : Nat)
  | int (n : Int)
  | val (v : Value)
  | vals (l : List Value)
  | kv (m : List (Value × Value))
  | ents (L : List Ent)
  | wld (w : World)
  | list (l : List Dat)

inductive Slot where
  | free
  | blk (b : Nat) (o : Obj)
  | par (ns : List Nat) (d : Dat) (A : HP)

def Slot.sat : Slot → HP
  | .free, p => ∀ b, p b = none
  | .blk b o, p => p b = some o ∧ ∀ c, c ≠ b → p c = none
  | .par _ _ A, p => A p

abbrev Hp := Nat → Slot

def upd {α : Type _} (H : Nat → α) (i : Nat) (s : α) : Nat → α := fun j => bif Nat.beq j i then s else H j
theorem beq_no {i j : Nat} (h : j ≠ i) : Nat.beq j i = false := by
  cases e : Nat.beq j i with
  | false => rfl
  | true => exact absurd (Nat.eq_of_beq_eq_true e) h
theorem upd_same {α : Type _} (H : Nat → α) (i : Nat) (s : α) : upd H i s i = s := by simp [upd]
theorem upd_other {α : Type _} (H : Nat → α) {i j : Nat} (s : α) (h : j ≠ i) : upd H i s j = H j := by
  have : Nat.beq j i = false := beq_no h
  simp [upd, this]
theorem upd_comm {α : Type _} (H : Nat → α) {i j : Nat} (s t : α) (h : i ≠ j) : upd (upd H i s) j t = upd (upd H j t) i s := by
  funext k
  by_cases h1 : k = i
  · subst h1; rw [upd_other _ _ h, upd_same, upd_same]
  · by_cases h2 : k = j
    · subst h2; rw [upd_same, upd_other _ _ h1, upd_same]
    · rw [upd_other _ _ h2, upd_other _ _ h1, upd_other _ _ h1, upd_other _ _ h2]

def Own (H : Hp) (R : HP) (w : World) : Prop :=
  ∃ (p : Nat → Hl) (q : Hl), (∀ i, (H i).sat (p i)) ∧ R q ∧ (∀ i, (p i).inw w) ∧ q.inw w ∧ (∀ i j, i ≠ j → (p i).disj (p j)) ∧ (∀ i, (p i).disj q)

theorem Own.block {H : Hp} {R : HP} {w : World} (h : Own H R w) {i b : Nat} {o : Obj} (hi : H i = .blk b o) : w.heap[b]? = some o := by
  obtain ⟨p, q, hs, -, hp, -⟩ := h
  have := hs i
  rw [hi] at this
  exact hp i b o this.1

theorem Own.mono {H : Hp} {R R' : HP} {w : World} (h : Own H R w) (hr : ∀ q, R q → R' q) : Own H R' w := by
  obtain ⟨p, q, hs, hq, r⟩ := h
  exact ⟨p, q, hs, hr q hq, r⟩

/-- The world may turn wherever nothing is owned. -/
theorem Own.same {H : Hp} {R : HP} {w w' : World} (h : Own H R w) (he : ∀ (b : Nat) (o : Obj), w.heap[b]? = some o → w'.heap[b]? = some o) : Own H R w' := by
  obtain ⟨p, q, hs, hq, hp, hqw, hd⟩ := h
  exact ⟨p, q, hs, hq, fun i b o hb => he b o (hp i b o hb), fun b o hb => he b o (hqw b o hb), hd⟩

theorem Own.free {H : Hp} {R : HP} {w : World} (h : Own H R w) (i : Nat) : Own (upd H i .free) R w := by
  obtain ⟨p, q, hs, hq, hp, hqw, hd, hdq⟩ := h
  refine ⟨upd p i (fun _ => none), q, fun j => ?_, hq, fun j => ?_, hqw, fun j k hjk => ?_, fun j => ?_⟩
  · by_cases e : j = i
    · subst e; rw [upd_same, upd_same]; exact fun _ => rfl
    · rw [upd_other _ _ e, upd_other _ _ e]; exact hs j
  · by_cases e : j = i
    · subst e; rw [upd_same]; intro b o hb; simp at hb
    · rw [upd_other _ _ e]; exact hp j
  · by_cases e : j = i
    · subst e; rw [upd_same]; exact fun _ => .inl rfl
    · rw [upd_other _ _ e]
      by_cases e' : k = i
      · subst e'; rw [upd_same]; exact fun _ => .inr rfl
      · rw [upd_other _ _ e']; exact hd j k hjk
  · by_cases e : j = i
    · subst e; rw [upd_same]; exact fun _ => .inl rfl
    · rw [upd_other _ _ e]; exact hdq j

/-- A block that a slot owns is written. -/
theorem Own.set {H : Hp} {R : HP} {w w' : World} (h : Own H R w) {i b : Nat} {o o' : Obj} (hi : H i = .blk b o)
    (hb : w'.heap[b]? = some o') (hn : ∀ c, c ≠ b → w'.heap[c]? = w.heap[c]?) : Own (upd H i (.blk b o')) R w' := by
  obtain ⟨p, q, hs, hq, hp, hqw, hd, hdq⟩ := h
  have hsi := hs i
  rw [hi] at hsi
  have away : ∀ (r : Hl), (p i).disj r → r b = none := fun r hr => (hr b).resolve_left (by rw [hsi.1]; simp)
  refine ⟨upd p i (fun c => bif Nat.beq c b then some o' else none), q, fun j => ?_, hq, fun j => ?_, ?_, fun j k hjk => ?_, fun j => ?_⟩
  · by_cases e : j = i
    · subst e; rw [upd_same, upd_same]
      refine ⟨by simp, fun c hc => ?_⟩
      have : Nat.beq c b = false := beq_no hc
      simp [this]
    · rw [upd_other _ _ e, upd_other _ _ e]; exact hs j
  · by_cases e : j = i
    · subst e; rw [upd_same]
      intro c x hx
      by_cases hc : c = b
      · subst hc; simp at hx; subst hx; exact hb
      · have : Nat.beq c b = false := beq_no hc
        simp [this] at hx
    · rw [upd_other _ _ e]
      intro c x hx
      have hc : c ≠ b := fun hc => by
        subst hc
        have := away (p j) (hd i j (Ne.symm e))
        rw [this] at hx; cases hx
      rw [hn c hc]; exact hp j c x hx
  · intro c x hx
    have hc : c ≠ b := fun hc => by
      subst hc
      have := away q (hdq i)
      rw [this] at hx; cases hx
    rw [hn c hc]; exact hqw c x hx
  · have key : ∀ r : Hl, (p i).disj r → Hl.disj (fun c => bif Nat.beq c b then some o' else none) r := by
      intro r hr c
      by_cases hc : c = b
      · subst hc; exact .inr (away r hr)
      · have : Nat.beq c b = false := beq_no hc
        exact .inl (by simp [this])
    by_cases e : j = i
    · subst e; rw [upd_same, upd_other _ _ (Ne.symm hjk)]; exact key _ (hd j k hjk)
    · rw [upd_other _ _ e]
      by_cases e' : k = i
      · subst e'; rw [upd_same]; exact fun c => (key _ (hd k j (Ne.symm hjk)) c).symm
      · rw [upd_other _ _ e']; exact hd j k hjk
  · by_cases e : j = i
    · subst e; rw [upd_same]
      intro c
      by_cases hc : c = b
      · subst hc; exact .inr (away q (hdq j))
      · have : Nat.beq c b = false := beq_no hc
        exact .inl (by simp [this])
    · rw [upd_other _ _ e]; exact hdq j

/-- A new block. -/
theorem Own.new {H : Hp} {R : HP} {w w' : World} (h : Own H R w) {i : Nat} {o : Obj}
    (hb : w'.heap[w.heap.size]? = some o) (hn : ∀ c, c < w.heap.size → w'.heap[c]? = w.heap[c]?) : Own (upd H i (.blk w.heap.size o)) R w' := by
  obtain ⟨p, q, hs, hq, hp, hqw, hd, hdq⟩ := h
  have old : ∀ (r : Hl), r.inw w → r w.heap.size = none := fun r hr => by
    cases hx : r w.heap.size with
    | none => rfl
    | some x => have := hr _ _ hx; simp at this
  have keep : ∀ (r : Hl), r.inw w → r.inw w' := fun r hr c x hx => by
    have hlt : c < w.heap.size := by
      have := hr c x hx
      rcases Nat.lt_or_ge c w.heap.size with h | h
      · exact h
      · simp [Array.getElem?_eq_none h] at this
    rw [hn c hlt]; exact hr c x hx
  have key : ∀ r : Hl, r.inw w → Hl.disj (fun c => bif Nat.beq c w.heap.size then some o else none) r := fun r hr c => by
    by_cases hc : c = w.heap.size
    · subst hc; exact .inr (old r hr)
    · have : Nat.beq c w.heap.size = false := beq_no hc
      exact .inl (by simp [this])
  refine ⟨upd p i (fun c => bif Nat.beq c w.heap.size then some o else none), q, fun j => ?_, hq, fun j => ?_, keep q hqw, fun j k hjk => ?_, fun j => ?_⟩
  · by_cases e : j = i
    · subst e; rw [upd_same, upd_same]
      refine ⟨by simp, fun c hc => ?_⟩
      have : Nat.beq c w.heap.size = false := beq_no hc
      simp [this]
    · rw [upd_other _ _ e, upd_other _ _ e]; exact hs j
  · by_cases e : j = i
    · subst e; rw [upd_same]
      intro c x hx
      by_cases hc : c = w.heap.size
      · subst hc; simp at hx; subst hx; exact hb
      · have : Nat.beq c w.heap.size = false := beq_no hc
        simp [this] at hx
    · rw [upd_other _ _ e]; exact keep _ (hp j)
  · by_cases e : j = i
    · subst e; rw [upd_same, upd_other _ _ (Ne.symm hjk)]; exact key _ (hp k)
    · rw [upd_other _ _ e]
      by_cases e' : k = i
      · subst e'; rw [upd_same]; exact fun c => (key _ (hp j) c).symm
      · rw [upd_other _ _ e']; exact hd j k hjk
  · by_cases e : j = i
    · subst e; rw [upd_same]; exact key _ hqw
    · rw [upd_other _ _ e]; exact hdq j

/-! ### What a run of the model leaves alone beside memory -/
structure Ext (w w' : World) : Prop where
  os : w'.os = w.os
  tape : w'.tape = w.tape
  output : w'.output = w.output
  size : w.heap.size ≤ w'.heap.size
  drawn : w.drawn ≤ w'.drawn
theorem Ext.refl (w : World) : Ext w w := ⟨rfl, rfl, rfl, Nat.le_refl _, by first | exact Nat.le_refl _ | exact Nat.le_succ _ | simp⟩
theorem Ext.trans {a b c : World} (h : Ext a b) (k : Ext b c) : Ext a c := ⟨k.os.trans h.os, k.tape.trans h.tape, k.output.trans h.output, Nat.le_trans h.size k.size, Nat.le_trans h.drawn k.drawn⟩

/-! ### One Sem against slots -/
inductive Acc where
  | rd (i : Nat)
  | rv (i : Nat) (f : Addr → Array Value → Value)
  | wr (i : Nat)
  | ws (i : Nat)
  | nw (i : Nat)
  | ch

def notAgg : Value → Bool
  | .agg _ | .tuple _ => false
  | _ => true

def frz (f : Nat × Nat) (off : Nat) : Bool := f.1 ≤ off && off < f.2

def isCells : Obj → Bool
  | .cells .. => true
  | _ => false

def frozenObj (a : Addr) (n : Nat) (o : Obj) : Obj :=
  if n = 0 then o else
  match o with
  | .cells c elem (lo, hi) => .cells c elem (if lo == hi then (a.off, a.off + n) else (min lo a.off, max hi (a.off + n)))
  | o => o

def shapeOf : Obj → Option (TypeId × Nat)
  | .cells c e _ => some (e, c.size)
  | _ => none

def frozenAt (o : Obj) (off : Nat) : Bool :=
  match o with
  | .cells _ _ f => frz f off
  | _ => false

def symW (P : Program) {α : Type} : Sem α → List Acc → Hp → (α → Hp → List Acc → Prop) → Prop
  | .pure a, acc, H, K => K a H acc
  | .load _ a k, .rd i :: acc, H, K =>
    match H i with
    | .blk b (.cells c _ _) => a.block = b ∧ a.spot = none ∧ (match c[a.off]? with | some v => symW P (k v) acc H K | none => False)
    | _ => False
  | .load _ a k, .rv i f :: acc, H, K =>
    match H i with
    | .blk b (.cells c _ _) => a.block = b ∧ a.spot = none ∧ c[a.off]? = some (f a c) ∧ symW P (k (f a c)) acc H K
    | _ => False
  | .store _ a v k, .wr i :: acc, H, K =>
    match notAgg v with
    | false => False
    | true =>
      match H i with
      | .blk b (.cells c t f) => a.block = b ∧ a.spot = none ∧
          (match Nat.blt a.off c.size, frz f a.off with | true, false => symW P k acc (upd H i (.blk b (.cells (c.setIfInBounds a.off v) t f))) K | _, _ => False)
      | _ => False
  | .store _ a v k, .ws i :: acc, H, K =>
    match H i with
    | .blk b (.cells c t f) => a.block = b ∧ a.spot = none ∧ notAgg v = true ∧ a.off < c.size ∧ frz f a.off = false ∧
        symW P k acc (upd H i (.blk b (.cells (c.setIfInBounds a.off v) t f))) K
    | _ => False
  | .new o k, .nw i :: acc, H, K => ∀ b, symW P (k b) acc (upd H i (.blk b o)) K
  | .shape r k, .rd i :: acc, H, K =>
    match H i with
    | .blk b o => r = b ∧ symW P (k (shapeOf o)) acc H K
    | _ => False
  | .freeze a n k, .wr i :: acc, H, K =>
    match H i with
    | .blk b o => a.block = b ∧ symW P k acc (upd H i (.blk b (frozenObj a n o))) K
    | _ => False
  | .frozen a k, .rd i :: acc, H, K =>
    match H i with
    | .blk b o => a.block = b ∧ symW P (k (frozenAt o a.off)) acc H K
    | _ => False
  | .getObj r k, .rd i :: acc, H, K =>
    match H i with
    | .blk b o => r = b ∧ (match isCells o with | true => False | false => symW P (k o) acc H K)
    | _ => False
  | .setObj r o k, .wr i :: acc, H, K =>
    match H i with
    | .blk b o' => r = b ∧ (match isCells o' with | true => False | false => symW P k acc (upd H i (.blk b o)) K)
    | _ => False
  | .choose q k, .ch :: acc, H, K => ∀ t, (q.forced = true → t = 0) → (q.forced = false → ∃ u, t = q.cut u) → symW P (k t) acc H K
  | .program k, acc, H, K => symW P (k P) acc H K
  | .mark _ k, acc, H, K => symW P k acc H K
  | _, _, _, _ => False

theorem cell_of_block {w : World} {a : Addr} {c : Array Value} {t : TypeId} {f : Nat × Nat} (h : w.heap[a.block]? = some (.cells c t f)) (hs : a.spot = none) :
    w.cell? a = c[a.off]? := by simp [World.cell?, h, hs]

theorem frozen_of_block {w : World} {a : Addr} {o : Obj} (h : w.heap[a.block]? = some o) : w.frozen? a = frozenAt o a.off := by
  unfold World.frozen? frozenAt frz
  rw [h]
  cases o <;> rfl

theorem heap_modify_same {w : World} {b : Nat} {o : Obj} (g : Obj → Obj) (h : w.heap[b]? = some o) : (w.heap.modify b g)[b]? = some (g o) := by
  simp [Array.getElem?_modify, h]
theorem heap_modify_other {w : World} {b c : Nat} (g : Obj → Obj) (h : c ≠ b) : (w.heap.modify b g)[c]? = w.heap[c]? := by
  rw [Array.getElem?_modify, if_neg (fun e => h e.symm)]

theorem symW_sound {P : Program} {α : Type} (m : Sem α) : ∀ (acc : List Acc) (H : Hp) (K : α → Hp → List Acc → Prop) (R : HP) (w : World),
    symW P m acc H K → Own H R w → ∃ a w' H' acc', m.run P w = .ok a w' ∧ K a H' acc' ∧ Own H' R w' ∧ Ext w w' := by
  induction m with
  | pure a => exact fun acc H K R w h ho => ⟨a, w, H, acc, rfl, h, ho, .refl _⟩
  | load m a k ih =>
    intro acc H K R w h ho
    match acc, h with
    | .rd i :: acc, h =>
      simp only [symW] at h
      cases hs : H i with
      | free => rw [hs] at h; exact h.elim
      | par _ _ A => rw [hs] at h; exact h.elim
      | blk b o =>
        rw [hs] at h
        cases o with
        | cells c t f =>
          obtain ⟨hb, hsp, h⟩ := h
          have hc := cell_of_block (w := w) (a := a) (by rw [hb]; exact ho.block hs) hsp
          cases hv : c[a.off]? with
          | none => rw [hv] at h; exact h.elim
          | some v =>
            rw [hv] at h
            obtain ⟨x, w', H', acc', hr, r⟩ := ih v acc H K R w h ho
            exact ⟨x, w', H', acc', by simp only [Sem.run, hc, hv]; exact hr, r⟩
        | _ => exact h.elim
    | .rv i g :: acc, h =>
      simp only [symW] at h
      cases hs : H i with
      | free => rw [hs] at h; exact h.elim
      | par _ _ A => rw [hs] at h; exact h.elim
      | blk b o =>
        rw [hs] at h
        cases o with
        | cells c t f =>
          obtain ⟨hb, hsp, hv, h⟩ := h
          have hc := cell_of_block (w := w) (a := a) (by rw [hb]; exact ho.block hs) hsp
          obtain ⟨x, w', H', acc', hr, r⟩ := ih _ acc H K R w h ho
          exact ⟨x, w', H', acc', by simp only [Sem.run, hc, hv]; exact hr, r⟩
        | _ => exact h.elim
    | .wr _ :: _, h | .ws _ :: _, h | .nw _ :: _, h | .ch :: _, h | [], h => exact h.elim
  | store m a v k ih =>
    intro acc H K R w h ho
    have go : ∀ (i : Nat) (acc : List Acc) (b : Nat) (c : Array Value) (t : TypeId) (f : Nat × Nat), H i = .blk b (.cells c t f) → a.block = b → a.spot = none → notAgg v = true → a.off < c.size → frz f a.off = false →
        symW P k acc (upd H i (.blk b (.cells (c.setIfInBounds a.off v) t f))) K → ∃ a_1 w' H' acc', (Sem.store m a v k).run P w = .ok a_1 w' ∧ K a_1 H' acc' ∧ Own H' R w' ∧ Ext w w' := by
      intro i acc b c t f hs hb hsp hv hlt hf h
      have hblk : w.heap[a.block]? = some (.cells c t f) := by rw [hb]; exact ho.block hs
      have hc := cell_of_block hblk hsp
      have hfz : w.frozen? a = false := by rw [frozen_of_block hblk]; exact hf
      have hv' : c[a.off]? = some c[a.off] := Array.getElem?_eq_getElem hlt
      have hset : (w.setCell a v).heap[b]? = some (.cells (c.setIfInBounds a.off v) t f) := by
        simp only [World.setCell, hb]
        rw [heap_modify_same _ (by rw [← hb]; exact hblk)]
        simp [hsp]
      have hoth : ∀ x, x ≠ b → (w.setCell a v).heap[x]? = w.heap[x]? := fun x hx => by
        simp only [World.setCell, hb]
        exact heap_modify_other _ hx
      obtain ⟨x, w', H', acc', hr, hk, ho', he⟩ := ih acc _ K R _ h (ho.set hs hset hoth)
      refine ⟨x, w', H', acc', ?_, hk, ho', ?_⟩
      · cases v <;> simp [notAgg] at hv <;> simp only [Sem.run, hc, hv', hfz, Bool.false_eq_true, if_false] <;> exact hr
      · exact Ext.trans (b := w.setCell a v) ⟨rfl, rfl, rfl, by simp [World.setCell], by first | exact Nat.le_refl _ | exact Nat.le_succ _ | simp⟩ he
    match acc, h with
    | .wr i :: acc, h =>
      simp only [symW] at h
      cases hv : notAgg v with
      | false => rw [hv] at h; exact h.elim
      | true =>
        rw [hv] at h
        cases hs : H i with
        | free => rw [hs] at h; exact h.elim
        | par _ _ A => rw [hs] at h; exact h.elim
        | blk b o =>
          rw [hs] at h
          cases o with
          | cells c t f =>
            obtain ⟨hb, hsp, h⟩ := h
            cases hl : Nat.blt a.off c.size with
            | false => rw [hl] at h; exact h.elim
            | true =>
              cases hf : frz f a.off with
              | true => rw [hl, hf] at h; exact h.elim
              | false =>
                rw [hl, hf] at h
                exact go i acc b c t f hs hb hsp hv (by simpa [Nat.blt_eq] using hl) hf h
          | _ => exact h.elim
    | .ws i :: acc, h =>
      simp only [symW] at h
      cases hs : H i with
      | free => rw [hs] at h; exact h.elim
      | par _ _ A => rw [hs] at h; exact h.elim
      | blk b o =>
        rw [hs] at h
        cases o with
        | cells c t f =>
          obtain ⟨hb, hsp, hv, hlt, hf, h⟩ := h
          exact go i acc b c t f hs hb hsp hv hlt hf h
        | _ => exact h.elim
    | .rd _ :: _, h | .rv _ _ :: _, h | .nw _ :: _, h | .ch :: _, h | [], h => cases v <;> exact h.elim
  | new o k ih =>
    intro acc H K R w h ho
    match acc, h with
    | .nw i :: acc, h =>
      simp only [symW] at h
      have hnew : ({ w with heap := w.heap.push o } : World).heap[w.heap.size]? = some o := by simp
      obtain ⟨x, w', H', acc', hr, hk, ho', he⟩ := ih w.heap.size acc _ K R { w with heap := w.heap.push o } (h w.heap.size)
        (ho.new hnew (fun c hc => by simp only; rw [Array.getElem?_push, if_neg (by omega)]))
      exact ⟨x, w', H', acc', by simp only [Sem.run]; exact hr, hk, ho', Ext.trans (b := { w with heap := w.heap.push o }) ⟨rfl, rfl, rfl, by simp, by first | exact Nat.le_refl _ | exact Nat.le_succ _ | simp⟩ he⟩
    | .rd _ :: _, h | .rv _ _ :: _, h | .wr _ :: _, h | .ws _ :: _, h | .ch :: _, h | [], h => exact h.elim
  | shape r k ih =>
    intro acc H K R w h ho
    match acc, h with
    | .rd i :: acc, h =>
      simp only [symW] at h
      cases hs : H i with
      | free => rw [hs] at h; exact h.elim
      | par _ _ A => rw [hs] at h; exact h.elim
      | blk b o =>
        rw [hs] at h
        obtain ⟨rfl, h⟩ := h
        obtain ⟨x, w', H', acc', hr, q⟩ := ih _ acc H K R w h ho
        refine ⟨x, w', H', acc', ?_, q⟩
        have : w.shape? r = shapeOf o := by simp only [World.shape?, ho.block hs]; cases o <;> rfl
        simp only [Sem.run, this]; exact hr
    | .rv _ _ :: _, h | .wr _ :: _, h | .ws _ :: _, h | .nw _ :: _, h | .ch :: _, h | [], h => exact h.elim
  | freeze a n k ih =>
    intro acc H K R w h ho
    match acc, h with
    | .wr i :: acc, h =>
      simp only [symW] at h
      cases hs : H i with
      | free => rw [hs] at h; exact h.elim
      | par _ _ A => rw [hs] at h; exact h.elim
      | blk b o =>
        rw [hs] at h
        obtain ⟨hb, h⟩ := h
        have hblk := ho.block hs
        have hown : Own (upd H i (.blk b (frozenObj a n o))) R (w.freeze a n) := by
          refine ho.set hs ?_ ?_
          · unfold World.freeze frozenObj
            split
            · exact hblk
            · simp only [hb]; rw [heap_modify_same _ hblk]; cases o <;> rfl
          · intro c hc
            unfold World.freeze
            split
            · rfl
            · simp only [hb]; exact heap_modify_other _ hc
        obtain ⟨x, w', H', acc', hr, hk, ho', he⟩ := ih acc _ K R _ h hown
        refine ⟨x, w', H', acc', by simp only [Sem.run]; exact hr, hk, ho', Ext.trans ?_ he⟩
        unfold World.freeze
        split
        · exact .refl _
        · exact ⟨rfl, rfl, rfl, by simp, by first | exact Nat.le_refl _ | exact Nat.le_succ _ | simp⟩
    | .rd _ :: _, h | .rv _ _ :: _, h | .ws _ :: _, h | .nw _ :: _, h | .ch :: _, h | [], h => exact h.elim
  | frozen a k ih =>
    intro acc H K R w h ho
    match acc, h with
    | .rd i :: acc, h =>
      simp only [symW] at h
      cases hs : H i with
      | free => rw [hs] at h; exact h.elim
      | par _ _ A => rw [hs] at h; exact h.elim
      | blk b o =>
        rw [hs] at h
        obtain ⟨hb, h⟩ := h
        obtain ⟨x, w', H', acc', hr, q⟩ := ih _ acc H K R w h ho
        refine ⟨x, w', H', acc', ?_, q⟩
        have : w.frozen? a = frozenAt o a.off := frozen_of_block (by rw [hb]; exact ho.block hs)
        simp only [Sem.run, this]; exact hr
    | .rv _ _ :: _, h | .wr _ :: _, h | .ws _ :: _, h | .nw _ :: _, h | .ch :: _, h | [], h => exact h.elim
  | getObj r k ih =>
    intro acc H K R w h ho
    match acc, h with
    | .rd i :: acc, h =>
      simp only [symW] at h
      cases hs : H i with
      | free => rw [hs] at h; exact h.elim
      | par _ _ A => rw [hs] at h; exact h.elim
      | blk b o =>
        rw [hs] at h
        obtain ⟨rfl, h⟩ := h
        have hblk := ho.block hs
        cases hc : isCells o with
        | true => rw [hc] at h; exact h.elim
        | false =>
          rw [hc] at h
          obtain ⟨x, w', H', acc', hr, q⟩ := ih _ acc H K R w h ho
          refine ⟨x, w', H', acc', ?_, q⟩
          cases o <;> simp [isCells] at hc <;> simp only [Sem.run, hblk] <;> exact hr
    | .rv _ _ :: _, h | .wr _ :: _, h | .ws _ :: _, h | .nw _ :: _, h | .ch :: _, h | [], h => exact h.elim
  | setObj r o k ih =>
    intro acc H K R w h ho
    match acc, h with
    | .wr i :: acc, h =>
      simp only [symW] at h
      cases hs : H i with
      | free => rw [hs] at h; exact h.elim
      | par _ _ A => rw [hs] at h; exact h.elim
      | blk b o' =>
        rw [hs] at h
        obtain ⟨rfl, h⟩ := h
        have hblk := ho.block hs
        cases hc : isCells o' with
        | true => rw [hc] at h; exact h.elim
        | false =>
          rw [hc] at h
          have hlt : r < w.heap.size := by
            rcases Nat.lt_or_ge r w.heap.size with h | h
            · exact h
            · simp [Array.getElem?_eq_none h] at hblk
          obtain ⟨x, w', H', acc', hr, hk, ho', he⟩ := ih acc _ K R { w with heap := w.heap.setIfInBounds r o } h
            (ho.set hs (by simp [hlt]) (fun c hcr => by simp [Ne.symm hcr]))
          refine ⟨x, w', H', acc', ?_, hk, ho', Ext.trans (b := { w with heap := w.heap.setIfInBounds r o }) ⟨rfl, rfl, rfl, by simp, by first | exact Nat.le_refl _ | exact Nat.le_succ _ | simp⟩ he⟩
          cases o' <;> simp [isCells] at hc <;> simp only [Sem.run, hblk] <;> exact hr
    | .rd _ :: _, h | .rv _ _ :: _, h | .ws _ :: _, h | .nw _ :: _, h | .ch :: _, h | [], h => exact h.elim
  | choose q k ih =>
    intro acc H K R w h ho
    match acc, h with
    | .ch :: acc, h =>
      simp only [symW] at h
      cases hf : q.forced with
      | true =>
        obtain ⟨x, w', H', acc', hr, r⟩ := ih 0 acc H K R w (h 0 (fun _ => rfl) (fun e => by rw [hf] at e; cases e)) ho
        exact ⟨x, w', H', acc', by simp only [Sem.run, hf, if_true]; exact hr, r⟩
      | false =>
        obtain ⟨x, w', H', acc', hr, hk, ho', he⟩ := ih (q.cut (w.tape w.drawn q)) acc H K R { w with drawn := w.drawn + 1 } (h _ (fun e => by rw [hf] at e; cases e) (fun _ => ⟨_, rfl⟩)) (ho.same fun _ _ hb => hb)
        exact ⟨x, w', H', acc', by simp only [Sem.run, hf, Bool.false_eq_true, if_false]; exact hr, hk, ho', Ext.trans (b := { w with drawn := w.drawn + 1 }) ⟨rfl, rfl, rfl, Nat.le_refl _, by first | exact Nat.le_refl _ | exact Nat.le_succ _ | simp⟩ he⟩
    | .rd _ :: _, h | .rv _ _ :: _, h | .wr _ :: _, h | .ws _ :: _, h | .nw _ :: _, h | [], h => exact h.elim
  | sys c k ih => intro acc H K R w h ho; cases acc <;> exact h.elim
  | program k ih =>
    intro acc H K R w h ho
    have h' : symW P (k P) acc H K := by cases acc <;> exact h
    obtain ⟨x, w', H', acc', hr, r⟩ := ih P acc H K R w h' ho
    exact ⟨x, w', H', acc', by simp only [Sem.run]; exact hr, r⟩
  | mark m k ih =>
    intro acc H K R w h ho
    have h' : symW P k acc H K := by cases acc <;> exact h
    obtain ⟨x, w', H', acc', hr, r⟩ := ih acc H K R w h' ho
    exact ⟨x, w', H', acc', by simp only [Sem.run]; exact hr, r⟩
  | halt h => intro acc H K R w h ho; cases acc <;> exact h.elim
end Go.Sx

namespace Go.Sx
open Go.RowKit

/-! ### The state of an activation -/
structure St where
  fr : Nat → Value
  H : Hp
  df : List Deferred

def evalF (fr : Nat → Value) : Operand → Value
  | .tmp t => fr t
  | .const v => v
  | .global g => .pointer (some ⟨g, 0, none⟩)
  | .func f => .func (.func f) #[] #[]

structure Rel (n : Nat) (s : St) (a : Act) : Prop where
  size : a.tmps.size = n
  at_ : ∀ i, a.tmps.getD i undef = s.fr i
  df : a.defers = s.df

theorem Rel.eval {n : Nat} {s : St} {a : Act} (h : Rel n s a) : a.eval = evalF s.fr := by
  funext x
  cases x with
  | tmp t => exact h.at_ t
  | _ => rfl

theorem Rel.put {n d : Nat} {s : St} {a : Act} {v : Value} {H : Hp} (h : Rel n s a) (hd : d < n) : Rel n ⟨upd s.fr d v, H, s.df⟩ (a.put (some d) v) := by
  refine ⟨by simp [Act.put, h.size], fun i => ?_, h.df⟩
  have hz := h.at_ i
  have hsz := h.size
  simp only [Act.put]
  by_cases e : i = d
  · subst e
    rw [upd_same]
    simp [Array.getD_eq_getD_getElem?, hsz, hd]
  · rw [upd_other _ _ e, ← hz]
    simp [Array.getD_eq_getD_getElem?, Ne.symm e]

theorem Rel.heap {n : Nat} {s : St} {a : Act} {H : Hp} (h : Rel n s a) : Rel n ⟨s.fr, H, s.df⟩ a := ⟨h.size, h.at_, h.df⟩

def putW (n : Nat) (dst : Option Tmp) (v : Value) (fr : Nat → Value) (K : (Nat → Value) → Prop) : Prop :=
  match dst with
  | none => K fr
  | some d => match Nat.blt d n with | true => K (upd fr d v) | false => False

theorem putW_sound {n : Nat} {dst : Option Tmp} {v : Value} {s : St} {K : (Nat → Value) → Prop} {a : Act} (hr : Rel n s a) (h : putW n dst v s.fr K) (H : Hp) :
    ∃ fr', K fr' ∧ Rel n ⟨fr', H, s.df⟩ (a.put dst v) := by
  unfold putW at h
  cases dst with
  | none => exact ⟨_, h, hr.heap⟩
  | some d =>
    cases hb : Nat.blt d n with
    | false => simp only [hb] at h
    | true => simp only [hb] at h; exact ⟨_, h, hr.put (by simpa [Nat.blt_eq] using hb)⟩

/-! ### Contracts -/
def ofList (l : List Slot) : Hp := fun i => l.getD i .free

def Yields (r : Result Next) (v : Value) (w : World) : Prop := r = .ok (.value v) w ∨ (r = .ok .skip w ∧ v = undef)
/-- An operation's own law: run over the slots Hs (in order) it yields val x and leaves the slots us x. -/
def OpT (P : Program) (m : Sem Next) (Hs : List Slot) (X : Type) (val : X → Value) (us : X → List Slot) (Φ : X → Prop) : Prop :=
  ∀ (R : HP) (w : World), Own (ofList Hs) R w → ∃ x w', Φ x ∧ Yields (m.run P w) (val x) w' ∧ Own (ofList (us x)) R w' ∧ Ext w w'

def PureRun (P : Program) (m : Sem Next) (v : Value) : Prop := ∀ w, m.run P w = .ok (.value v) w

def EnterOK (P : Program) (f : FuncId) : Prop := ∀ args w, (callFunc f args).run P w = .ok (.enter f args) w

/-- A function's contract. -/
structure CallT (P : Program) (f : FuncId) (args : Array Value) (Hs : List Slot) (X : Type) (val : X → Value) (us : X → List Slot) (Φ : X → Prop) : Prop where
  enter : EnterOK P f
  calls : ∀ (R : HP) (w : World), Own (ofList Hs) R w →
    Calls P f args w fun e w' => ∃ x, Φ x ∧ e = .returned (val x) ∧ Own (ofList (us x)) R w' ∧ Ext w w'

/-! ### Framing: a contract over some slots, used among others -/
def restOf (H : Hp) (ids : List Nat) (R : HP) : HP := fun q =>
  ∃ (p : Nat → Hl) (r : Hl), (∀ i, i ∉ ids → (H i).sat (p i)) ∧ R r ∧ (∀ i j, i ∉ ids → j ∉ ids → i ≠ j → (p i).disj (p j)) ∧ (∀ i, i ∉ ids → (p i).disj r) ∧
    (∀ b o, q b = some o ↔ (∃ i, i ∉ ids ∧ p i b = some o) ∨ r b = some o)

def clears (H : Hp) : List Nat → Hp
  | [] => H
  | i :: l => clears (upd H i .free) l

def updL (H : Hp) : List Nat → List Slot → Hp
  | i :: l, ss => updL (upd H i (ss.headD .free)) l ss.tail
  | [], _ => H

def pickL (ids : List Nat) (p : Nat → Hl) : Nat → Hl := fun k => match ids[k]? with | some i => p i | none => fun _ => none
theorem pickL_some {ids : List Nat} {p : Nat → Hl} {k i : Nat} (h : ids[k]? = some i) : pickL ids p k = p i := by simp [pickL, h]
theorem pickL_none {ids : List Nat} {p : Nat → Hl} {k : Nat} (h : ids[k]? = none) : pickL ids p k = fun _ => none := by simp [pickL, h]

open Classical in
theorem own_split {H : Hp} {R : HP} {w : World} {ids : List Nat} (hn : ids.Nodup) (h : Own H R w) : Own (ofList (ids.map H)) (restOf H ids R) w := by
  obtain ⟨p, q, hs, hq, hp, hqw, hd, hdq⟩ := h
  let q' : Hl := fun b => if hx : ∃ i o, i ∉ ids ∧ p i b = some o then some (Classical.choose (Classical.choose_spec hx)) else q b
  have hq' : ∀ b o, q' b = some o ↔ (∃ i, i ∉ ids ∧ p i b = some o) ∨ q b = some o := by
    intro b o
    by_cases hx : ∃ i o, i ∉ ids ∧ p i b = some o
    · have hsp := Classical.choose_spec (Classical.choose_spec hx)
      have e : q' b = some (Classical.choose (Classical.choose_spec hx)) := dif_pos hx
      rw [e]
      constructor
      · intro h; cases h; exact .inl ⟨_, hsp.1, hsp.2⟩
      · rintro (⟨i, hi, ho⟩ | ho)
        · by_cases ei : i = Classical.choose hx
          · subst ei; rw [hsp.2] at ho; exact ho
          · rcases hd i _ ei b with h | h
            · rw [ho] at h; cases h
            · rw [hsp.2] at h; cases h
        · rcases hdq (Classical.choose hx) b with h | h
          · rw [hsp.2] at h; cases h
          · rw [ho] at h; cases h
    · have e : q' b = q b := dif_neg hx
      rw [e]
      constructor
      · exact .inr
      · rintro (⟨i, hi, ho⟩ | ho)
        · exact absurd ⟨i, o, hi, ho⟩ hx
        · exact ho
  refine ⟨pickL ids p, q', fun k => ?_, ⟨p, q, fun i _ => hs i, hq, fun i j _ _ h => hd i j h, fun i _ => hdq i, hq'⟩, fun k => ?_, ?_, fun k l hkl => ?_, fun k => ?_⟩
  · unfold ofList
    cases hk : ids[k]? with
    | none => rw [List.getD_eq_getElem?_getD, List.getElem?_map, hk, pickL_none hk]; exact fun _ => rfl
    | some i => rw [List.getD_eq_getElem?_getD, List.getElem?_map, hk, pickL_some hk]; exact hs i
  · cases hk : ids[k]? with
    | none => rw [pickL_none hk]; intro b o h; cases h
    | some i => rw [pickL_some hk]; exact hp i
  · intro b o hb
    rcases (hq' b o).1 hb with ⟨i, _, h⟩ | h
    · exact hp i b o h
    · exact hqw b o h
  · cases hk : ids[k]? with
    | none => rw [pickL_none hk]; exact fun _ => .inl rfl
    | some i =>
      cases hl : ids[l]? with
      | none => rw [pickL_none hl]; exact fun _ => .inr rfl
      | some j =>
        rw [pickL_some hk, pickL_some hl]
        refine hd i j (fun e => hkl ?_)
        subst e
        obtain ⟨hk1, hk2⟩ := List.getElem?_eq_some_iff.1 hk
        obtain ⟨hl1, hl2⟩ := List.getElem?_eq_some_iff.1 hl
        exact (List.getElem_inj hn).1 (hk2.trans hl2.symm)
  · cases hk : ids[k]? with
    | none => rw [pickL_none hk]; exact fun _ => .inl rfl
    | some i =>
      rw [pickL_some hk]
      intro b
      cases hpb : p i b with
      | none => exact .inl rfl
      | some o =>
        right
        cases hqb : q' b with
        | none => rfl
        | some o' =>
          rcases (hq' b o').1 hqb with ⟨j, hj, h⟩ | h
          · have hij : i ≠ j := fun e => hj (e ▸ List.mem_of_getElem? hk)
            rcases hd i j hij b with h' | h'
            · rw [hpb] at h'; cases h'
            · rw [h] at h'; cases h'
          · rcases hdq i b with h' | h'
            · rw [hpb] at h'; cases h'
            · rw [h] at h'; cases h'

theorem clears_in (l : List Nat) : ∀ (H : Hp) (i : Nat), i ∈ l → clears H l i = .free := by
  have stay : ∀ (l : List Nat) (H : Hp) (i : Nat), H i = .free → clears H l i = .free := by
    intro l
    induction l with
    | nil => exact fun H i h => h
    | cons x l ih =>
      intro H i h
      refine ih _ i ?_
      by_cases e : i = x
      · subst e; rw [upd_same]
      · rw [upd_other _ _ e]; exact h
  induction l with
  | nil => exact fun H i h => by cases h
  | cons x l ih =>
    intro H i h
    rcases List.mem_cons.1 h with rfl | h
    · exact stay l _ _ (upd_same _ _ _)
    · exact ih _ i h
theorem clears_out (l : List Nat) : ∀ (H : Hp) (i : Nat), i ∉ l → clears H l i = H i := by
  induction l with
  | nil => exact fun H i h => rfl
  | cons x l ih =>
    intro H i h
    rw [List.mem_cons, not_or] at h
    exact (ih _ i h.2).trans (upd_other _ _ h.1)
theorem updL_out : ∀ (l : List Nat) (ss : List Slot) (H : Hp) (i : Nat), i ∉ l → updL H l ss i = H i
  | [], _, _, _, _ => by simp [updL]
  | x :: l, ss, H, i, h => by
    rw [List.mem_cons, not_or] at h
    exact (updL_out l _ _ i h.2).trans (upd_other _ _ h.1)
theorem updL_in : ∀ (l : List Nat) (ss : List Slot) (H : Hp) (k i : Nat), l.Nodup → l[k]? = some i → updL H l ss i = ofList ss k
  | [], _, _, k, _, _, h => by simp at h
  | x :: l, ss, H, 0, i, hn, h => by
    simp at h; subst h
    rw [List.nodup_cons] at hn
    refine (updL_out l _ _ x hn.1).trans ?_
    rw [upd_same]
    cases ss <;> simp [ofList]
  | x :: l, ss, H, k + 1, i, hn, h => by
    rw [List.nodup_cons] at hn
    have := updL_in l ss.tail (upd H x (ss.headD .free)) k i hn.2 (by simpa using h)
    rw [updL, this]
    cases ss <;> simp [ofList]

/-- The other slots come back. outs: where the slots that a contract leaves are laid; what stood there is given up. -/
theorem own_join {H : Hp} {R : HP} {w : World} {ins outs : List Nat} {ss : List Slot} (ho : outs.Nodup)
    (h : Own (ofList ss) (restOf H ins R) w) : Own (updL (clears H ins) outs ss) R w := by
  obtain ⟨p, q, hs, ⟨p2, r, hs2, hr, hd2, hdr2, hq2⟩, hp, hqw, hd, hdq⟩ := h
  have hidx : ∀ i k, outs.idxOf? i = some k → outs[k]? = some i := by
    intro i k hk
    rw [List.idxOf?_eq_some_iff] at hk
    obtain ⟨h1, h3, -⟩ := hk
    rw [List.getElem?_eq_getElem h1]
    simpa using h3
  let pc : Nat → Hl := fun i => match outs.idxOf? i with | some k => p k | none => if i ∈ ins then fun _ => none else p2 i
  have pcs : ∀ i k, outs.idxOf? i = some k → pc i = p k := fun i k h => by simp only [pc, h]
  have pci : ∀ i, outs.idxOf? i = none → i ∈ ins → pc i = fun _ => none := fun i h h' => by simp only [pc, h, h', if_true]
  have pcn : ∀ i, outs.idxOf? i = none → i ∉ ins → pc i = p2 i := fun i h h' => by simp only [pc, h, h', if_false]
  have sub2 : ∀ i, i ∉ ins → ∀ b o, p2 i b = some o → q b = some o := fun i hi b o h => (hq2 b o).2 (.inl ⟨i, hi, h⟩)
  have subr : ∀ b o, r b = some o → q b = some o := fun b o h => (hq2 b o).2 (.inr h)
  have qd : ∀ k (x : Hl), (∀ b o, x b = some o → q b = some o) → (p k).disj x := fun k x hx b => by
    rcases hdq k b with h | h
    · exact .inl h
    · right
      cases hxb : x b with
      | none => rfl
      | some o => rw [hx b o hxb] at h; cases h
  refine ⟨pc, r, fun i => ?_, hr, fun i => ?_, fun b o hb => hqw b o (subr b o hb), fun i j hij => ?_, fun i => ?_⟩
  · cases hk : outs.idxOf? i with
    | some k => rw [pcs i k hk, updL_in outs ss _ k i ho (hidx i k hk)]; exact hs k
    | none =>
      have hi : i ∉ outs := List.idxOf?_eq_none_iff.1 hk
      rw [updL_out _ _ _ _ hi]
      by_cases hi' : i ∈ ins
      · rw [clears_in _ _ _ hi', pci i hk hi']; exact fun _ => rfl
      · rw [clears_out _ _ _ hi', pcn i hk hi']; exact hs2 i hi'
  · cases hk : outs.idxOf? i with
    | some k => rw [pcs i k hk]; exact hp k
    | none =>
      by_cases hi' : i ∈ ins
      · rw [pci i hk hi']; intro b o h; cases h
      · rw [pcn i hk hi']; exact fun b o h => hqw b o (sub2 i hi' b o h)
  · cases hk : outs.idxOf? i with
    | some k =>
      rw [pcs i k hk]
      cases hl : outs.idxOf? j with
      | some l =>
        rw [pcs j l hl]
        refine hd k l (fun e => hij ?_)
        subst e
        have := (hidx i k hk).symm.trans (hidx j k hl)
        cases this; rfl
      | none =>
        by_cases hj : j ∈ ins
        · rw [pci j hl hj]; exact fun _ => .inr rfl
        · rw [pcn j hl hj]; exact qd k _ (sub2 j hj)
    | none =>
      by_cases hi' : i ∈ ins
      · rw [pci i hk hi']; exact fun _ => .inl rfl
      · rw [pcn i hk hi']
        cases hl : outs.idxOf? j with
        | some l => rw [pcs j l hl]; exact fun b => (qd l _ (sub2 i hi') b).symm
        | none =>
          by_cases hj : j ∈ ins
          · rw [pci j hl hj]; exact fun _ => .inr rfl
          · rw [pcn j hl hj]; exact hd2 i j hi' hj hij
  · cases hk : outs.idxOf? i with
    | some k => rw [pcs i k hk]; exact qd k _ subr
    | none =>
      by_cases hi' : i ∈ ins
      · rw [pci i hk hi']; exact fun _ => .inl rfl
      · rw [pcn i hk hi']; exact hdr2 i hi'
end Go.Sx

namespace Go.Sx
open Go.RowKit

/-- What a call or an operation comes to: some x of X with Φ x: the value val x, the slots us x. -/
structure Ctr : Type 1 where
  X : Type
  val : X → Value
  us : X → List Slot
  Φ : X → Prop

/-- How an operation is walked. What is open hangs on the operands' values and on the slots that are named. -/
inductive Ann : Type 1 where
  | sem (acc : List Acc)
  | eq (v : List Value → Value)
  | gen (acc : List Acc) (C : List Value → Ctr)
  | specr (ins : List Nat) (C : List Value → List Slot → Ctr)
  | specw (ins outs : List Nat) (C : List Value → List Slot → Ctr)
  | callr (ins : List Nat) (C : List Value → List Slot → Ctr)
  | callw (ins outs : List Nat) (C : List Value → List Slot → Ctr)
  /-- a call that reads ins, leaves them as they are, and lays outs -/
  | calln (ins outs : List Nat) (C : List Value → List Slot → Ctr)
  | dfr
  | no

def memB (x : Nat) : List Nat → Bool
  | [] => false
  | y :: l => bif Nat.beq x y then true else memB x l
theorem memB_iff {x : Nat} {l : List Nat} : memB x l = true ↔ x ∈ l := by
  induction l with
  | nil => simp [memB]
  | cons y l ih =>
    simp only [memB, List.mem_cons]
    cases h : Nat.beq x y with
    | true => simp [Nat.eq_of_beq_eq_true h]
    | false => simp [ih, Nat.ne_of_beq_eq_false h]
def nodB : List Nat → Bool
  | [] => true
  | x :: l => bif memB x l then false else nodB l
theorem nodB_iff {l : List Nat} : nodB l = true ↔ l.Nodup := by
  induction l with
  | nil => simp [nodB]
  | cons x l ih =>
    simp only [nodB, List.nodup_cons, ← ih]
    cases h : memB x l with
    | true => simp [memB_iff.1 h]
    | false =>
      have : x ∉ l := fun hx => by rw [memB_iff.2 hx] at h; cases h
      simp [this]
def disjB : List Nat → List Nat → Bool
  | [], _ => true
  | x :: l, m => bif memB x m then false else disjB l m
theorem disjB_iff {l m : List Nat} : disjB l m = true ↔ ∀ x ∈ l, x ∉ m := by
  induction l with
  | nil => simp [disjB]
  | cons x l ih =>
    simp only [disjB, List.mem_cons, forall_eq_or_imp, ← ih]
    cases h : memB x m with
    | true => simp [memB_iff.1 h]
    | false =>
      have : x ∉ m := fun hx => by rw [memB_iff.2 hx] at h; cases h
      simp [this]

/-- What a call leads to: a function, or a round of a range over a function. -/
inductive Tgt where
  | fn (f : FuncId)
  | yld (l : Nat)
/-- The contract of a call of yield. -/
def RoundT (P : Program) (l : Nat) (args : Array Value) (Hs : List Slot) (X : Type) (val : X → Value) (us : X → List Slot) (Φ : X → Prop) : Prop :=
  ∀ (R : HP) (w : World), Own (ofList Hs) R w → ∃ fn tmps assign body, (Instr.yield l args).run P w = .ok (.round l fn tmps assign body) w ∧
    RoundIn Fence.wide 0 P l fn tmps assign body w fun e w' => ∃ x, Φ x ∧ e = .returned (val x) ∧ Own (ofList (us x)) R w' ∧ Ext w w'
def TgtT (P : Program) (g : Tgt) (args : Array Value) (Hs : List Slot) (X : Type) (val : X → Value) (us : X → List Slot) (Φ : X → Prop) : Prop :=
  match g with
  | .fn f => CallT P f args Hs X val us Φ
  | .yld l => RoundT P l args Hs X val us Φ
def callOf (ρ : Operand → Value) (o : Op) : Option (Tgt × Array Value) :=
  match o with
  | .call { callee := .value f, args, .. } =>
    match ρ f with
    | .func (.func g) first cap => some (.fn g, first ++ args.map ρ ++ cap)
    | .func (.yield l) first _ => some (.yld l, first ++ args.map ρ)
    | _ => none
  | _ => none

def onB (b : Bool) (X : Prop) : Prop := match b with | true => X | false => False
theorem onB_iff {b : Bool} {X : Prop} : onB b X ↔ b = true ∧ X := by cases b <;> simp [onB]

def opVals (ρ : Operand → Value) (o : Op) : List Value := o.operands.toList.map ρ

def specR (T : (X : Type) → (X → Value) → (X → List Slot) → (X → Prop) → Prop) (C : Ctr) (Hs : List Slot) (K : Value → Hp → Prop) (H : Hp) : Prop :=
  T C.X C.val (fun _ => Hs) C.Φ ∧ (∃ x, C.Φ x) ∧ ∀ x, C.Φ x → K (C.val x) H
def specN (T : (X : Type) → (X → Value) → (X → List Slot) → (X → Prop) → Prop) (C : Ctr) (Hs : List Slot) (outs : List Nat) (K : Value → Hp → Prop) (H : Hp) : Prop :=
  T C.X C.val (fun x => Hs ++ C.us x) C.Φ ∧ (∃ x, C.Φ x) ∧ ∀ x, C.Φ x → K (C.val x) (updL H outs (C.us x))
def specX (T : (X : Type) → (X → Value) → (X → List Slot) → (X → Prop) → Prop) (C : Ctr) (ins outs : List Nat) (K : Value → Hp → Prop) (H : Hp) : Prop :=
  T C.X C.val C.us C.Φ ∧ (∃ x, C.Φ x) ∧ ∀ x, C.Φ x → K (C.val x) (updL (clears H ins) outs (C.us x))

def coreW (P : Program) (ρ : Operand → Value) (o : Oper) (a : Ann) (K : Value → Hp → Prop) (H : Hp) : Prop :=
  match a with
  | .sem acc => symW P (execOp ρ o) acc H fun nx H' _ => match nx with | .value v => K v H' | .skip => K undef H' | _ => False
  | .eq v => PureRun P (execOp ρ o) (v (opVals ρ o.op)) ∧ K (v (opVals ρ o.op)) H
  | .gen acc C => symW P (execOp ρ o) acc H fun nx H' _ => match nx with | .value u => (∃ x, (C (opVals ρ o.op)).Φ x ∧ u = (C (opVals ρ o.op)).val x) ∧ ∀ x, (C (opVals ρ o.op)).Φ x → K ((C (opVals ρ o.op)).val x) H' | _ => False
  | .specr ins C => onB (nodB ins) (specR (OpT P (execOp ρ o) (ins.map H)) (C (opVals ρ o.op) (ins.map H)) (ins.map H) K H)
  | .specw ins outs C => onB (nodB ins) (onB (nodB outs) (specX (OpT P (execOp ρ o) (ins.map H)) (C (opVals ρ o.op) (ins.map H)) ins outs K H))
  | .callr ins C =>
    match callOf ρ o.op with
    | some (f, args) => onB (nodB ins) (specR (TgtT P f args (ins.map H)) (C (opVals ρ o.op) (ins.map H)) (ins.map H) K H)
    | none => False
  | .callw ins outs C =>
    match callOf ρ o.op with
    | some (f, args) => onB (nodB ins) (onB (nodB outs) (specX (TgtT P f args (ins.map H)) (C (opVals ρ o.op) (ins.map H)) ins outs K H))
    | none => False
  | .calln ins outs C =>
    match callOf ρ o.op with
    | some (f, args) => onB (nodB ins) (onB (nodB (ins ++ outs)) (specN (TgtT P f args (ins.map H)) (C (opVals ρ o.op) (ins.map H)) (ins.map H) outs K H))
    | none => False
  | .dfr => False
  | .no => False

def guardW (ops : Array Oper) (o : Oper) (fr : Nat → Value) (X : Prop) : Prop :=
  match o.guard with
  | none => X
  | some (j, b) =>
    match (ops[j]?).bind (·.dst) with
    | some d => match fr d with | .bool c => c = b ∧ X | _ => False
    | none => False
def unguardW (ops : Array Oper) (o : Oper) (fr : Nat → Value) (X : Prop) : Prop :=
  match o.guard with
  | none => False
  | some (j, b) =>
    match (ops[j]?).bind (·.dst) with
    | some d => match fr d with | .bool c => c = !b ∧ X | .tuple _ => X | _ => False
    | none => False

def dfrW (ρ : Operand → Value) (o : Op) (K : Deferred → Prop) : Prop :=
  match o with
  | .defer { callee := .value f, args, .. } =>
    match ρ f with
    | .func fn first cap => K { target := .fn fn cap, args := first ++ args.map ρ }
    | _ => False
  | _ => False

def opW (P : Program) (n : Nat) (ops : Array Oper) (o : Oper) (a : Ann) (s : St) (K : St → Prop) : Prop :=
  match a with
  | .no => unguardW ops o s.fr (putW n o.dst undef s.fr fun fr' => K ⟨fr', s.H, s.df⟩)
  | .dfr => guardW ops o s.fr (dfrW (evalF s.fr) o.op fun d => putW n o.dst undef s.fr fun fr' => K ⟨fr', s.H, d :: s.df⟩)
  | a => guardW ops o s.fr (coreW P (evalF s.fr) o a (fun v H' => putW n o.dst v s.fr fun fr' => K ⟨fr', H', s.df⟩) s.H)

/-! ### Soundness of one operation -/
def FrR (r : Option Nat) : Fence := { fn := fun _ => True, depth := none, alive := false, round := r }

theorem callsIn_of_calls {r : Option Nat} {n : Nat} {P : Program} {f : FuncId} {args : Array Value} {w : World} {R : Ending → World → Prop} (h : Calls P f args w R) : CallsIn (FrR r) n P f args w R := by
  have h1 : CallsIn Fence.wide n P f args w R := callsIn_wide.2 h
  cases r with
  | none => exact h1
  | some l => exact h1.inRound l

theorem yielded_rel {n : Nat} {s : St} {a : Act} (hr : Rel n s a) {ops : Array Oper} {j d : Nat} {c : Bool} (hd : (ops[j]?).bind (·.dst) = some d) (hc : s.fr d = .bool c) : yielded ops a.tmps j = some c := by
  have h := hr.at_ d
  rw [hc] at h
  have : a.tmps[d]? = some (.bool c) := by
    rw [Array.getD_eq_getD_getElem?] at h
    cases hx : a.tmps[d]? with
    | none => rw [hx] at h; simp [undef] at h
    | some v => rw [hx] at h; simpa using h
  simp [yielded, hd, this]

theorem run_callOf {P : Program} {ρ : Operand → Value} {o : Oper} {f : FuncId} {args : Array Value} (h : callOf ρ o.op = some (.fn f, args)) (he : EnterOK P f) (w : World) :
    (execOp ρ o).run P w = .ok (.enter f args) w := by
  unfold callOf at h
  unfold execOp
  split at h
  · rename_i g as ts heq
    rw [heq]
    split at h
    · rename_i k first cap hf
      cases h
      simp only [resolve, hf, Deferred.ofValue]
      exact he _ w
    · cases h
    · cases h
  · cases h
theorem run_yldOf {P : Program} {ρ : Operand → Value} {o : Oper} {l : Nat} {args : Array Value} (h : callOf ρ o.op = some (.yld l, args)) (w : World) :
    (execOp ρ o).run P w = (Instr.yield l args).run P w := by
  unfold callOf at h
  unfold execOp
  split at h
  · rename_i g as ts heq
    rw [heq]
    split at h
    · cases h
    · rename_i k first cap hf
      cases h
      simp only [resolve, hf, Deferred.ofValue]
      rfl
    · cases h
  · cases h
theorem RoundT.use {P : Program} {l : Nat} {args : Array Value} {H : Hp} {ins outs : List Nat} {X : Type} {val : X → Value} {us : X → List Slot} {Φ : X → Prop} {R : HP} {w : World}
    (h : RoundT P l args (ins.map H) X val us Φ) (hi : ins.Nodup) (ho : outs.Nodup) (hw : Own H R w) :
    ∃ fn tmps assign body, (Instr.yield l args).run P w = .ok (.round l fn tmps assign body) w ∧
      RoundIn Fence.wide 0 P l fn tmps assign body w fun e w' => ∃ x, Φ x ∧ e = .returned (val x) ∧ Own (updL (clears H ins) outs (us x)) R w' ∧ Ext w w' :=
  let ⟨fn, tmps, as, b, h1, h2⟩ := h _ w (own_split hi hw)
  ⟨fn, tmps, as, b, h1, h2.mono fun _ _ ⟨x, hx, he, ho', hext⟩ => ⟨x, hx, he, own_join ho ho', hext⟩⟩
theorem roundIn_of_wide {r : Option Nat} {P : Program} {l : Nat} {f : FuncId} {tmps : Array Value} {assign body : Code} {w : World} {R : Ending → World → Prop} (h : RoundIn Fence.wide 0 P l f tmps assign body w R) : RoundIn (FrR r) 0 P l f tmps assign body w R := by
  cases r with
  | none => exact h
  | some l => exact h

theorem OpT.use {P : Program} {m : Sem Next} {H : Hp} {ins outs : List Nat} {X : Type} {val : X → Value} {us : X → List Slot} {Φ : X → Prop} {R : HP} {w : World}
    (h : OpT P m (ins.map H) X val us Φ) (hi : ins.Nodup) (ho : outs.Nodup) (hw : Own H R w) :
    ∃ x w', Φ x ∧ Yields (m.run P w) (val x) w' ∧ Own (updL (clears H ins) outs (us x)) R w' ∧ Ext w w' := by
  obtain ⟨x, w', hx, hr, ho', he⟩ := h _ w (own_split hi hw)
  exact ⟨x, w', hx, hr, own_join ho ho', he⟩

theorem updL_back {H : Hp} : ∀ {ins : List Nat}, ins.Nodup → updL (clears H ins) ins (ins.map H) = H := by
  intro ins hn
  funext i
  by_cases hi : i ∈ ins
  · obtain ⟨k, hk⟩ := List.getElem?_of_mem hi
    rw [updL_in ins _ _ k i hn hk]
    simp [ofList, List.getD_eq_getElem?_getD, hk]
  · rw [updL_out _ _ _ _ hi, clears_out _ _ _ hi]

theorem updL_app : ∀ (a : List Nat) (x : List Slot) {H : Hp} {b : List Nat} {y : List Slot}, a.length = x.length → updL H (a ++ b) (x ++ y) = updL (updL H a x) b y
  | [], [], _, _, _, _ => rfl
  | [], _ :: _, _, _, _, h => by simp at h
  | _ :: _, [], _, _, _, h => by simp at h
  | i :: a, s :: x, H, b, y, h => updL_app a x (H := upd H i s) (by simpa using h)
theorem updL_keep {H : Hp} {ins outs : List Nat} {ss : List Slot} (hi : ins.Nodup) : updL (clears H ins) (ins ++ outs) (ins.map H ++ ss) = updL H outs ss := by
  rw [updL_app ins (ins.map H) (by simp), updL_back hi]
theorem CallT.use {P : Program} {f : FuncId} {args : Array Value} {H : Hp} {ins outs : List Nat} {X : Type} {val : X → Value} {us : X → List Slot} {Φ : X → Prop} {R : HP} {w : World}
    (h : CallT P f args (ins.map H) X val us Φ) (hi : ins.Nodup) (ho : outs.Nodup) (hw : Own H R w) :
    Calls P f args w fun e w' => ∃ x, Φ x ∧ e = .returned (val x) ∧ Own (updL (clears H ins) outs (us x)) R w' ∧ Ext w w' :=
  (h.calls _ w (own_split hi hw)).mono fun _ _ ⟨x, hx, he, ho', hext⟩ => ⟨x, hx, he, own_join ho ho', hext⟩

def After (n : Nat) (K : St → Prop) (R : HP) (w : World) (a' : Act) (w' : World) : Prop :=
  ∃ s', K s' ∧ Rel n s' a' ∧ Own s'.H R w' ∧ Ext w w'

theorem core_sound {P : Program} {n : Nat} {r : Option Nat} {o : Oper} {a : Ann} {s : St} {K : Value → Hp → Prop} {act : Act} {R : HP} {w : World} {next : Act → World → Prop} {Q : Exit → Act → World → Prop}
    (h : coreW P (evalF s.fr) o a K s.H) (hr : Rel n s act) (ho : Own s.H R w)
    (hn : ∀ v H' w', K v H' → Own H' R w' → Ext w w' → next (act.put o.dst v) w') : o.wpIn (FrR r) 0 P act w next Q := by
  refine ⟨fun _ _ => trivial, ?_⟩
  have hev := hr.eval
  rw [← hev] at h
  have sem : ∀ (nx : Next) (w' : World), (execOp act.eval o).run P w = .ok nx w' → (∀ d, nx ≠ .defer d) → (o.semAt (FrR r).round act.eval).run P w = .ok nx w' := by
    intro nx w' hrun hnd
    rw [Oper.semAt_eq _ _ _ ?_]
    · exact hrun
    · intro c hc
      unfold execOp at hrun
      rw [hc] at hrun
      simp only [Sem.run_bind] at hrun
      cases hx : Sem.run P (resolve act.eval c o.type) w with
      | ok d w'' => rw [hx] at hrun; simp [pure] at hrun; exact hnd _ hrun.1.symm
      | halt _ _ => rw [hx] at hrun; simp at hrun
  cases a with
  | sem acc =>
    obtain ⟨nx, w', H', acc', hrun, hk, ho', he⟩ := symW_sound _ acc s.H _ R w h ho
    cases nx <;> first
      | (rw [sem _ _ hrun (by intro d; simp)]; exact hn _ _ _ hk ho' he)
      | exact hk.elim
  | eq v => rw [sem _ _ (h.1 w) (by intro d; simp)]; exact hn _ _ _ h.2 ho (.refl _)
  | gen acc C =>
    obtain ⟨nx, w', H', acc', hrun, hk, ho', he⟩ := symW_sound _ acc s.H _ R w h ho
    cases nx <;> first
      | (rw [sem _ _ hrun (by intro d; simp)]
         obtain ⟨⟨x, hx, rfl⟩, hk⟩ := hk
         exact hn _ _ _ (hk x hx) ho' he)
      | exact hk.elim
  | specr ins C =>
    obtain ⟨hi, h, _, hk⟩ := onB_iff.1 h
    have hi := nodB_iff.1 hi
    obtain ⟨x, w', hx, hrun, ho', he⟩ := h.use hi hi ho
    rw [updL_back hi] at ho'
    have hk := hk x hx
    rcases hrun with hrun | ⟨hrun, hv⟩
    · rw [sem _ _ hrun (by intro d; simp)]; exact hn _ _ _ hk ho' he
    · rw [hv] at hk; rw [sem _ _ hrun (by intro d; simp)]; exact hn _ _ _ hk ho' he
  | specw ins outs C =>
    obtain ⟨hi, h⟩ := onB_iff.1 h
    obtain ⟨hu, h, _, hk⟩ := onB_iff.1 h
    obtain ⟨x, w', hx, hrun, ho', he⟩ := h.use (nodB_iff.1 hi) (nodB_iff.1 hu) ho
    have hk := hk x hx
    rcases hrun with hrun | ⟨hrun, hv⟩
    · rw [sem _ _ hrun (by intro d; simp)]; exact hn _ _ _ hk ho' he
    · rw [hv] at hk; rw [sem _ _ hrun (by intro d; simp)]; exact hn _ _ _ hk ho' he
  | callr ins C =>
    simp only [coreW] at h
    cases hc : callOf act.eval o.op with
    | none => rw [hc] at h; exact h.elim
    | some fa =>
      obtain ⟨g, args⟩ := fa
      rw [hc] at h
      obtain ⟨hi, h, _, hk⟩ := onB_iff.1 h
      have hi := nodB_iff.1 hi
      cases g with
      | fn f =>
        have h : CallT P f args _ _ _ _ _ := h
        rw [sem _ _ (run_callOf hc h.enter w) (by intro d; simp), Oper.uponIn_enter]
        refine ⟨fun h => by simp [FrR] at h, (callsIn_of_calls (h.use hi hi ho)).mono ?_⟩
        rintro e w' ⟨x, hx, rfl, ho', he⟩
        rw [updL_back hi] at ho'
        exact hn _ _ _ (hk x hx) ho' he
      | yld l =>
        have h : RoundT P l args _ _ _ _ _ := h
        obtain ⟨fn, tmps, as, bd, hrun, hrd⟩ := h.use hi hi ho
        rw [sem _ _ ((run_yldOf hc w).trans hrun) (by intro d; simp), Oper.uponIn_round]
        refine ⟨fun h => by simp [FrR] at h, (roundIn_of_wide hrd).mono ?_⟩
        rintro e w' ⟨x, hx, rfl, ho', he⟩
        rw [updL_back hi] at ho'
        exact hn _ _ _ (hk x hx) ho' he
  | callw ins outs C =>
    simp only [coreW] at h
    cases hc : callOf act.eval o.op with
    | none => rw [hc] at h; exact h.elim
    | some fa =>
      obtain ⟨g, args⟩ := fa
      rw [hc] at h
      obtain ⟨hi, h⟩ := onB_iff.1 h
      obtain ⟨hu, h, _, hk⟩ := onB_iff.1 h
      cases g with
      | fn f =>
        have h : CallT P f args _ _ _ _ _ := h
        rw [sem _ _ (run_callOf hc h.enter w) (by intro d; simp), Oper.uponIn_enter]
        refine ⟨fun h => by simp [FrR] at h, (callsIn_of_calls (h.use (nodB_iff.1 hi) (nodB_iff.1 hu) ho)).mono ?_⟩
        rintro e w' ⟨x, hx, rfl, ho', he⟩
        exact hn _ _ _ (hk x hx) ho' he
      | yld l =>
        have h : RoundT P l args _ _ _ _ _ := h
        obtain ⟨fn, tmps, as, bd, hrun, hrd⟩ := h.use (nodB_iff.1 hi) (nodB_iff.1 hu) ho
        rw [sem _ _ ((run_yldOf hc w).trans hrun) (by intro d; simp), Oper.uponIn_round]
        refine ⟨fun h => by simp [FrR] at h, (roundIn_of_wide hrd).mono ?_⟩
        rintro e w' ⟨x, hx, rfl, ho', he⟩
        exact hn _ _ _ (hk x hx) ho' he
  | calln ins outs C =>
    simp only [coreW] at h
    cases hc : callOf act.eval o.op with
    | none => rw [hc] at h; exact h.elim
    | some fa =>
      obtain ⟨g, args⟩ := fa
      rw [hc] at h
      obtain ⟨hi, h⟩ := onB_iff.1 h
      obtain ⟨hu, h, _, hk⟩ := onB_iff.1 h
      cases g with
      | fn f =>
        have h : CallT P f args _ _ _ _ _ := h
        rw [sem _ _ (run_callOf hc h.enter w) (by intro d; simp), Oper.uponIn_enter]
        refine ⟨fun h => by simp [FrR] at h, (callsIn_of_calls (h.use (nodB_iff.1 hi) (nodB_iff.1 hu) ho)).mono ?_⟩
        rintro e w' ⟨x, hx, rfl, ho', he⟩
        rw [updL_keep (nodB_iff.1 hi)] at ho'
        exact hn _ _ _ (hk x hx) ho' he
      | yld l =>
        have h : RoundT P l args _ _ _ _ _ := h
        obtain ⟨fn, tmps, as, bd, hrun, hrd⟩ := h.use (nodB_iff.1 hi) (nodB_iff.1 hu) ho
        rw [sem _ _ ((run_yldOf hc w).trans hrun) (by intro d; simp), Oper.uponIn_round]
        refine ⟨fun h => by simp [FrR] at h, (roundIn_of_wide hrd).mono ?_⟩
        rintro e w' ⟨x, hx, rfl, ho', he⟩
        rw [updL_keep (nodB_iff.1 hi)] at ho'
        exact hn _ _ _ (hk x hx) ho' he
  | dfr => exact h.elim
  | no => exact h.elim

theorem guard_wanted {n : Nat} {ops : Array Oper} {o : Oper} {s : St} {X : Prop} {a : Act} (hr : Rel n s a) (h : guardW ops o s.fr X) : Region.wanted o (yielded ops a.tmps) = true ∧ X := by
  unfold guardW at h
  unfold Region.wanted
  cases hg : o.guard with
  | none => rw [hg] at h; exact ⟨rfl, h⟩
  | some jb =>
    obtain ⟨j, b⟩ := jb
    rw [hg] at h
    simp only at h ⊢
    split at h
    · rename_i d hd
      split at h
      · rename_i c hc
        obtain ⟨rfl, h⟩ := h
        exact ⟨by rw [yielded_rel hr hd hc]; simp, h⟩
      · exact h.elim
    · exact h.elim
theorem yielded_none {n : Nat} {s : St} {a : Act} (hr : Rel n s a) {ops : Array Oper} {j d : Nat} {c : Array Value} (hd : (ops[j]?).bind (·.dst) = some d) (hc : s.fr d = .tuple c) : yielded ops a.tmps j = none := by
  have h := hr.at_ d
  rw [hc] at h
  rw [Array.getD_eq_getD_getElem?] at h
  cases hx : a.tmps[d]? with
  | none => simp [yielded, hd, hx]
  | some v =>
    rw [hx] at h
    simp at h; subst h
    simp [yielded, hd, hx]
theorem unguard_wanted {n : Nat} {ops : Array Oper} {o : Oper} {s : St} {X : Prop} {a : Act} (hr : Rel n s a) (h : unguardW ops o s.fr X) : Region.wanted o (yielded ops a.tmps) = false ∧ X := by
  unfold unguardW at h
  unfold Region.wanted
  cases hg : o.guard with
  | none => rw [hg] at h; exact h.elim
  | some jb =>
    obtain ⟨j, b⟩ := jb
    rw [hg] at h
    simp only at h ⊢
    split at h
    · rename_i d hd
      split at h
      · rename_i c hc
        obtain ⟨rfl, h⟩ := h
        exact ⟨by rw [yielded_rel hr hd hc]; simp, h⟩
      · rename_i c hc
        exact ⟨by rw [yielded_none hr hd hc]; simp, h⟩
      · exact h.elim
    · exact h.elim

/-- May an annotation stand in a round (of a range over a function)? -/
def isDfr : Ann → Bool
  | .dfr => true
  | _ => false

theorem op_sound {P : Program} {n : Nat} {r : Option Nat} {ops : Array Oper} {o : Oper} {a : Ann} {s : St} {K : St → Prop} {act : Act} {R : HP} {w : World} {next : Act → World → Prop} {Q : Exit → Act → World → Prop}
    (hd : r = none ∨ isDfr a = false) (h : opW P n ops o a s K) (hr : Rel n s act) (ho : Own s.H R w) (hn : ∀ a' w', After n K R w a' w' → next a' w') :
    if Region.wanted o (yielded ops act.tmps) = true then o.wpIn (FrR r) 0 P act w next Q
    else (∀ f, o.about P w act.eval = some f → (FrR r).fn f) ∧ next (act.put o.dst undef) w := by
  have fin : ∀ v H' w', putW n o.dst v s.fr (fun fr' => K ⟨fr', H', s.df⟩) → Own H' R w' → Ext w w' → next (act.put o.dst v) w' := by
    intro v H' w' hk ho' he
    obtain ⟨fr', hk, hrel⟩ := putW_sound hr hk H'
    exact hn _ _ ⟨_, hk, hrel, ho', he⟩
  cases a with
  | no =>
    obtain ⟨hw, hk⟩ := unguard_wanted hr h
    rw [if_neg (by rw [hw]; simp)]
    exact ⟨fun _ _ => trivial, fin undef s.H w hk ho (.refl _)⟩
  | dfr =>
    obtain ⟨hw, hk⟩ := guard_wanted hr h
    rw [if_pos hw]
    refine ⟨fun _ _ => trivial, ?_⟩
    rcases hd with rfl | hd
    · have hev := hr.eval
      rw [← hev] at hk
      unfold dfrW at hk
      split at hk
      · rename_i f args ts heq
        split at hk
        · rename_i fn first cap hf
          have hrun : (o.semAt (FrR none).round act.eval).run P w = .ok (.defer { target := .fn fn cap, args := first ++ args.map act.eval }) w := by
            show (execOp act.eval o).run P w = _
            unfold execOp
            rw [heq]
            simp only [resolve, hf, Deferred.ofValue]
            rfl
          rw [hrun, Oper.uponIn_defer]
          obtain ⟨fr', hk, hrel⟩ := putW_sound (v := undef) hr hk s.H
          refine hn _ _ ⟨_, hk, ⟨?_, ?_, ?_⟩, ho, .refl _⟩
          · have := hrel.size
            cases hx : o.dst <;> rw [hx] at this <;> simpa [Act.put] using this
          · have := hrel.at_
            cases hx : o.dst <;> rw [hx] at this <;> simpa [Act.put] using this
          · have := hr.df
            cases hx : o.dst <;> simp [Act.put, this]
        · exact hk.elim
      · exact hk.elim
    · cases hd
  | sem acc =>
    obtain ⟨hw, hk⟩ := guard_wanted hr h
    rw [if_pos hw]
    exact core_sound hk hr ho fin
  | eq v =>
    obtain ⟨hw, hk⟩ := guard_wanted hr h
    rw [if_pos hw]
    exact core_sound hk hr ho fin
  | gen acc C =>
    obtain ⟨hw, hk⟩ := guard_wanted hr h
    rw [if_pos hw]
    exact core_sound hk hr ho fin
  | specr ins C =>
    obtain ⟨hw, hk⟩ := guard_wanted hr h
    rw [if_pos hw]
    exact core_sound hk hr ho fin
  | specw ins outs C =>
    obtain ⟨hw, hk⟩ := guard_wanted hr h
    rw [if_pos hw]
    exact core_sound hk hr ho fin
  | callr ins C =>
    obtain ⟨hw, hk⟩ := guard_wanted hr h
    rw [if_pos hw]
    exact core_sound hk hr ho fin
  | callw ins outs C =>
    obtain ⟨hw, hk⟩ := guard_wanted hr h
    rw [if_pos hw]
    exact core_sound hk hr ho fin
  | calln ins outs C =>
    obtain ⟨hw, hk⟩ := guard_wanted hr h
    rw [if_pos hw]
    exact core_sound hk hr ho fin
end Go.Sx

namespace Go.Sx
open Go.RowKit

def rdA : List Acc → List Nat
  | [] => []
  | .rd i :: l | .rv i _ :: l => i :: rdA l
  | _ :: l => rdA l
def wrA : List Acc → List Nat
  | [] => []
  | .wr i :: l | .ws i :: l | .nw i :: l => i :: wrA l
  | _ :: l => wrA l

theorem symW_step {P : Program} {α : Type} (m : Sem α) : ∀ (acc : List Acc) (H : Hp) (K K' : α → Hp → List Acc → Prop), symW P m acc H K →
    (∀ a H' r, (∀ i, i ∉ wrA acc → H' i = H i) → K a H' r → K' a H' r) → symW P m acc H K' := by
  induction m with
  | pure a => exact fun acc H K K' h hk => hk a H acc (fun _ _ => rfl) h
  | load m a k ih =>
    intro acc H K K' h hk
    match acc, h, hk with
    | .rd i :: acc, h, hk =>
      simp only [symW] at h ⊢
      cases hs : H i with
      | blk b o =>
        rw [hs] at h
        cases o with
        | cells c t f =>
          obtain ⟨h1, h2, h3⟩ := h
          refine ⟨h1, h2, ?_⟩
          cases hv : c[a.off]? with
          | none => rw [hv] at h3; exact h3.elim
          | some v => rw [hv] at h3; exact ih v acc H K K' h3 hk
        | _ => exact h.elim
      | _ => rw [hs] at h; exact h.elim
    | .rv i g :: acc, h, hk =>
      simp only [symW] at h ⊢
      cases hs : H i with
      | blk b o =>
        rw [hs] at h
        cases o with
        | cells c t f =>
          obtain ⟨h1, h2, h3, h4⟩ := h
          exact ⟨h1, h2, h3, ih _ acc H K K' h4 hk⟩
        | _ => exact h.elim
      | _ => rw [hs] at h; exact h.elim
    | .wr _ :: _, h, _ | .ws _ :: _, h, _ | .nw _ :: _, h, _ | .ch :: _, h, _ | [], h, _ => exact h.elim
  | store m a v k ih =>
    intro acc H K K' h hk
    have later : ∀ (i : Nat) (acc : List Acc) (sl : Slot), (∀ a H' r, (∀ j, j ∉ i :: wrA acc → H' j = H j) → K a H' r → K' a H' r) → symW P k acc (upd H i sl) K → symW P k acc (upd H i sl) K' := by
      intro i acc sl hk h
      refine ih acc _ K K' h (fun a H' r hH hka => hk a H' r (fun j hj => ?_) hka)
      rw [List.mem_cons, not_or] at hj
      exact (hH j hj.2).trans (upd_other _ _ hj.1)
    match acc, h, hk with
    | .wr i :: acc, h, hk =>
      simp only [symW] at h ⊢
      cases hv : notAgg v with
      | false => rw [hv] at h; exact h.elim
      | true =>
        rw [hv] at h
        cases hs : H i with
        | blk b o =>
          rw [hs] at h
          cases o with
          | cells c t f =>
            obtain ⟨h1, h2, h3⟩ := h
            refine ⟨h1, h2, ?_⟩
            cases hl : Nat.blt a.off c.size with
            | false => rw [hl] at h3; exact h3.elim
            | true =>
              cases hf : frz f a.off with
              | true => rw [hl, hf] at h3; exact h3.elim
              | false => rw [hl, hf] at h3; exact later i acc _ hk h3
          | _ => exact h.elim
        | _ => rw [hs] at h; exact h.elim
    | .ws i :: acc, h, hk =>
      simp only [symW] at h ⊢
      cases hs : H i with
      | blk b o =>
        rw [hs] at h
        cases o with
        | cells c t f =>
          obtain ⟨h1, h2, h3, h4, h5, h6⟩ := h
          exact ⟨h1, h2, h3, h4, h5, later i acc _ hk h6⟩
        | _ => exact h.elim
      | _ => rw [hs] at h; exact h.elim
    | .rd _ :: _, h, _ | .rv _ _ :: _, h, _ | .nw _ :: _, h, _ | .ch :: _, h, _ | [], h, _ => cases v <;> exact h.elim
  | new o k ih =>
    intro acc H K K' h hk
    match acc, h, hk with
    | .nw i :: acc, h, hk =>
      simp only [symW] at h ⊢
      intro b
      refine ih b acc _ K K' (h b) (fun a H' r hH hka => hk a H' r (fun j hj => ?_) hka)
      simp only [wrA] at hj
      rw [List.mem_cons, not_or] at hj
      exact (hH j hj.2).trans (upd_other _ _ hj.1)
    | .rd _ :: _, h, _ | .rv _ _ :: _, h, _ | .wr _ :: _, h, _ | .ws _ :: _, h, _ | .ch :: _, h, _ | [], h, _ => exact h.elim
  | shape r k ih =>
    intro acc H K K' h hk
    match acc, h, hk with
    | .rd i :: acc, h, hk =>
      simp only [symW] at h ⊢
      cases hs : H i with
      | blk b o => rw [hs] at h; exact ⟨h.1, ih _ acc H K K' h.2 hk⟩
      | _ => rw [hs] at h; exact h.elim
    | .rv _ _ :: _, h, _ | .wr _ :: _, h, _ | .ws _ :: _, h, _ | .nw _ :: _, h, _ | .ch :: _, h, _ | [], h, _ => exact h.elim
  | freeze a n k ih =>
    intro acc H K K' h hk
    match acc, h, hk with
    | .wr i :: acc, h, hk =>
      simp only [symW] at h ⊢
      cases hs : H i with
      | blk b o =>
        rw [hs] at h
        refine ⟨h.1, ih acc _ K K' h.2 (fun a H' r hH hka => hk a H' r (fun j hj => ?_) hka)⟩
        simp only [wrA] at hj
        rw [List.mem_cons, not_or] at hj
        exact (hH j hj.2).trans (upd_other _ _ hj.1)
      | _ => rw [hs] at h; exact h.elim
    | .rd _ :: _, h, _ | .rv _ _ :: _, h, _ | .ws _ :: _, h, _ | .nw _ :: _, h, _ | .ch :: _, h, _ | [], h, _ => exact h.elim
  | frozen a k ih =>
    intro acc H K K' h hk
    match acc, h, hk with
    | .rd i :: acc, h, hk =>
      simp only [symW] at h ⊢
      cases hs : H i with
      | blk b o => rw [hs] at h; exact ⟨h.1, ih _ acc H K K' h.2 hk⟩
      | _ => rw [hs] at h; exact h.elim
    | .rv _ _ :: _, h, _ | .wr _ :: _, h, _ | .ws _ :: _, h, _ | .nw _ :: _, h, _ | .ch :: _, h, _ | [], h, _ => exact h.elim
  | getObj r k ih =>
    intro acc H K K' h hk
    match acc, h, hk with
    | .rd i :: acc, h, hk =>
      simp only [symW] at h ⊢
      cases hs : H i with
      | blk b o =>
        rw [hs] at h
        obtain ⟨h1, h2⟩ := h
        refine ⟨h1, ?_⟩
        cases hc : isCells o with
        | true => rw [hc] at h2; exact h2.elim
        | false => rw [hc] at h2; exact ih _ acc H K K' h2 hk
      | _ => rw [hs] at h; exact h.elim
    | .rv _ _ :: _, h, _ | .wr _ :: _, h, _ | .ws _ :: _, h, _ | .nw _ :: _, h, _ | .ch :: _, h, _ | [], h, _ => exact h.elim
  | setObj r o k ih =>
    intro acc H K K' h hk
    match acc, h, hk with
    | .wr i :: acc, h, hk =>
      simp only [symW] at h ⊢
      cases hs : H i with
      | blk b o' =>
        rw [hs] at h
        obtain ⟨h1, h2⟩ := h
        refine ⟨h1, ?_⟩
        cases hc : isCells o' with
        | true => rw [hc] at h2; exact h2.elim
        | false =>
          rw [hc] at h2
          refine ih acc _ K K' h2 (fun a H' r hH hka => hk a H' r (fun j hj => ?_) hka)
          simp only [wrA] at hj
          rw [List.mem_cons, not_or] at hj
          exact (hH j hj.2).trans (upd_other _ _ hj.1)
      | _ => rw [hs] at h; exact h.elim
    | .rd _ :: _, h, _ | .rv _ _ :: _, h, _ | .ws _ :: _, h, _ | .nw _ :: _, h, _ | .ch :: _, h, _ | [], h, _ => exact h.elim
  | choose q k ih =>
    intro acc H K K' h hk
    match acc, h, hk with
    | .ch :: acc, h, hk =>
      simp only [symW] at h ⊢
      exact fun t h1 h2 => ih t acc H K K' (h t h1 h2) hk
    | .rd _ :: _, h, _ | .rv _ _ :: _, h, _ | .wr _ :: _, h, _ | .ws _ :: _, h, _ | .nw _ :: _, h, _ | [], h, _ => exact h.elim
  | sys c k ih => intro acc H K K' h; cases acc <;> exact h.elim
  | program k ih => intro acc H K K' h hk; cases acc <;> exact ih P _ H K K' h hk
  | mark m k ih => intro acc H K K' h hk; cases acc <;> exact ih _ H K K' h hk
  | halt x => intro acc H K K' h; cases acc <;> exact h.elim

/-- What commutes with a transformer T: its footprint. -/
structure Good (T : (Value → Hp → Prop) → Hp → Prop) (rd wr : List Nat) : Prop where
  step : ∀ K K' H, T K H → (∀ v H', (∀ i, i ∉ wr → H' i = H i) → K v H' → K' v H') → T K' H
  set : ∀ K H i sl, i ∉ rd → i ∉ wr → T K (upd H i sl) → T (fun v H' => K v (upd H' i sl)) H
  all : ∀ (β : Type) (_ : Nonempty β) (K : β → Value → Hp → Prop) H, (∀ b, T (K b) H) → T (fun v H' => ∀ b, K b v H') H

theorem symW_set {P : Program} {α : Type} (m : Sem α) : ∀ (acc : List Acc) (H : Hp) (K : α → Hp → List Acc → Prop) (i : Nat) (sl : Slot), i ∉ rdA acc → i ∉ wrA acc →
    symW P m acc (upd H i sl) K → symW P m acc H fun a H' r => K a (upd H' i sl) r := by
  induction m with
  | pure a => exact fun acc H K i sl _ _ h => h
  | load m a k ih =>
    intro acc H K i sl hr hw h
    match acc, h, hr, hw with
    | .rd j :: acc, h, hr, hw =>
      simp only [rdA, List.mem_cons, not_or] at hr
      simp only [symW] at h ⊢
      rw [upd_other _ _ (Ne.symm hr.1)] at h
      cases hs : H j with
      | blk b o =>
        rw [hs] at h
        cases o with
        | cells c t f =>
          obtain ⟨h1, h2, h3⟩ := h
          refine ⟨h1, h2, ?_⟩
          cases hv : c[a.off]? with
          | none => rw [hv] at h3; exact h3.elim
          | some v => rw [hv] at h3; exact ih v acc H K i sl hr.2 hw h3
        | _ => exact h.elim
      | _ => rw [hs] at h; exact h.elim
    | .rv j g :: acc, h, hr, hw =>
      simp only [rdA, List.mem_cons, not_or] at hr
      simp only [symW] at h ⊢
      rw [upd_other _ _ (Ne.symm hr.1)] at h
      cases hs : H j with
      | blk b o =>
        rw [hs] at h
        cases o with
        | cells c t f => exact ⟨h.1, h.2.1, h.2.2.1, ih _ acc H K i sl hr.2 hw h.2.2.2⟩
        | _ => exact h.elim
      | _ => rw [hs] at h; exact h.elim
    | .wr _ :: _, h, _, _ | .ws _ :: _, h, _, _ | .nw _ :: _, h, _, _ | .ch :: _, h, _, _ | [], h, _, _ => exact h.elim
  | store m a v k ih =>
    intro acc H K i sl hr hw h
    match acc, h, hr, hw with
    | .wr j :: acc, h, hr, hw =>
      simp only [wrA, List.mem_cons, not_or] at hw
      simp only [symW] at h ⊢
      rw [upd_other _ _ (Ne.symm hw.1)] at h
      cases hv : notAgg v with
      | false => rw [hv] at h; exact h.elim
      | true =>
        rw [hv] at h
        cases hs : H j with
        | blk b o =>
          rw [hs] at h
          cases o with
          | cells c t f =>
            obtain ⟨h1, h2, h3⟩ := h
            refine ⟨h1, h2, ?_⟩
            cases hl : Nat.blt a.off c.size with
            | false => rw [hl] at h3; exact h3.elim
            | true =>
              cases hf : frz f a.off with
              | true => rw [hl, hf] at h3; exact h3.elim
              | false => rw [hl, hf] at h3; simp only at h3; rw [upd_comm _ _ _ hw.1] at h3; exact ih acc _ K i sl hr hw.2 h3
          | _ => exact h.elim
        | _ => rw [hs] at h; exact h.elim
    | .ws j :: acc, h, hr, hw =>
      simp only [wrA, List.mem_cons, not_or] at hw
      simp only [symW] at h ⊢
      rw [upd_other _ _ (Ne.symm hw.1)] at h
      cases hs : H j with
      | blk b o =>
        rw [hs] at h
        cases o with
        | cells c t f =>
          obtain ⟨h1, h2, h3, h4, h5, h6⟩ := h
          rw [upd_comm _ _ _ hw.1] at h6
          exact ⟨h1, h2, h3, h4, h5, ih acc _ K i sl hr hw.2 h6⟩
        | _ => exact h.elim
      | _ => rw [hs] at h; exact h.elim
    | .rd _ :: _, h, _, _ | .rv _ _ :: _, h, _, _ | .nw _ :: _, h, _, _ | .ch :: _, h, _, _ | [], h, _, _ => cases v <;> exact h.elim
  | new o k ih =>
    intro acc H K i sl hr hw h
    match acc, h, hr, hw with
    | .nw j :: acc, h, hr, hw =>
      simp only [wrA, List.mem_cons, not_or] at hw
      simp only [symW] at h ⊢
      intro b
      have := h b
      rw [upd_comm _ _ _ hw.1] at this
      exact ih b acc _ K i sl hr hw.2 this
    | .rd _ :: _, h, _, _ | .rv _ _ :: _, h, _, _ | .wr _ :: _, h, _, _ | .ws _ :: _, h, _, _ | .ch :: _, h, _, _ | [], h, _, _ => exact h.elim
  | shape r k ih =>
    intro acc H K i sl hr hw h
    match acc, h, hr, hw with
    | .rd j :: acc, h, hr, hw =>
      simp only [rdA, List.mem_cons, not_or] at hr
      simp only [symW] at h ⊢
      rw [upd_other _ _ (Ne.symm hr.1)] at h
      cases hs : H j with
      | blk b o => rw [hs] at h; exact ⟨h.1, ih _ acc H K i sl hr.2 hw h.2⟩
      | _ => rw [hs] at h; exact h.elim
    | .rv _ _ :: _, h, _, _ | .wr _ :: _, h, _, _ | .ws _ :: _, h, _, _ | .nw _ :: _, h, _, _ | .ch :: _, h, _, _ | [], h, _, _ => exact h.elim
  | freeze a n k ih =>
    intro acc H K i sl hr hw h
    match acc, h, hr, hw with
    | .wr j :: acc, h, hr, hw =>
      simp only [wrA, List.mem_cons, not_or] at hw
      simp only [symW] at h ⊢
      rw [upd_other _ _ (Ne.symm hw.1)] at h
      cases hs : H j with
      | blk b o =>
        rw [hs] at h
        obtain ⟨h1, h2⟩ := h
        rw [upd_comm _ _ _ hw.1] at h2
        exact ⟨h1, ih acc _ K i sl hr hw.2 h2⟩
      | _ => rw [hs] at h; exact h.elim
    | .rd _ :: _, h, _, _ | .rv _ _ :: _, h, _, _ | .ws _ :: _, h, _, _ | .nw _ :: _, h, _, _ | .ch :: _, h, _, _ | [], h, _, _ => exact h.elim
  | frozen a k ih =>
    intro acc H K i sl hr hw h
    match acc, h, hr, hw with
    | .rd j :: acc, h, hr, hw =>
      simp only [rdA, List.mem_cons, not_or] at hr
      simp only [symW] at h ⊢
      rw [upd_other _ _ (Ne.symm hr.1)] at h
      cases hs : H j with
      | blk b o => rw [hs] at h; exact ⟨h.1, ih _ acc H K i sl hr.2 hw h.2⟩
      | _ => rw [hs] at h; exact h.elim
    | .rv _ _ :: _, h, _, _ | .wr _ :: _, h, _, _ | .ws _ :: _, h, _, _ | .nw _ :: _, h, _, _ | .ch :: _, h, _, _ | [], h, _, _ => exact h.elim
  | getObj r k ih =>
    intro acc H K i sl hr hw h
    match acc, h, hr, hw with
    | .rd j :: acc, h, hr, hw =>
      simp only [rdA, List.mem_cons, not_or] at hr
      simp only [symW] at h ⊢
      rw [upd_other _ _ (Ne.symm hr.1)] at h
      cases hs : H j with
      | blk b o =>
        rw [hs] at h
        obtain ⟨h1, h2⟩ := h
        refine ⟨h1, ?_⟩
        cases hc : isCells o with
        | true => rw [hc] at h2; exact h2.elim
        | false => rw [hc] at h2; exact ih _ acc H K i sl hr.2 hw h2
      | _ => rw [hs] at h; exact h.elim
    | .rv _ _ :: _, h, _, _ | .wr _ :: _, h, _, _ | .ws _ :: _, h, _, _ | .nw _ :: _, h, _, _ | .ch :: _, h, _, _ | [], h, _, _ => exact h.elim
  | setObj r o k ih =>
    intro acc H K i sl hr hw h
    match acc, h, hr, hw with
    | .wr j :: acc, h, hr, hw =>
      simp only [wrA, List.mem_cons, not_or] at hw
      simp only [symW] at h ⊢
      rw [upd_other _ _ (Ne.symm hw.1)] at h
      cases hs : H j with
      | blk b o' =>
        rw [hs] at h
        obtain ⟨h1, h2⟩ := h
        refine ⟨h1, ?_⟩
        cases hc : isCells o' with
        | true => rw [hc] at h2; exact h2.elim
        | false =>
          rw [hc] at h2
          simp only at h2
          rw [upd_comm _ _ _ hw.1] at h2
          exact ih acc _ K i sl hr hw.2 h2
      | _ => rw [hs] at h; exact h.elim
    | .rd _ :: _, h, _, _ | .rv _ _ :: _, h, _, _ | .ws _ :: _, h, _, _ | .nw _ :: _, h, _, _ | .ch :: _, h, _, _ | [], h, _, _ => exact h.elim
  | choose q k ih =>
    intro acc H K i sl hr hw h
    match acc, h, hr, hw with
    | .ch :: acc, h, hr, hw =>
      simp only [symW] at h ⊢
      exact fun t h1 h2 => ih t acc H K i sl hr hw (h t h1 h2)
    | .rd _ :: _, h, _, _ | .rv _ _ :: _, h, _, _ | .wr _ :: _, h, _, _ | .ws _ :: _, h, _, _ | .nw _ :: _, h, _, _ | [], h, _, _ => exact h.elim
  | sys c k ih => intro acc H K i sl hr hw h; cases acc <;> exact h.elim
  | program k ih => intro acc H K i sl hr hw h; cases acc <;> exact ih P _ H K i sl hr hw h
  | mark m k ih => intro acc H K i sl hr hw h; cases acc <;> exact ih _ H K i sl hr hw h
  | halt x => intro acc H K i sl hr hw h; cases acc <;> exact h.elim

theorem symW_all {P : Program} {α : Type} (m : Sem α) : ∀ (acc : List Acc) (H : Hp) (β : Type) (_ : Nonempty β) (K : β → α → Hp → List Acc → Prop),
    (∀ b, symW P m acc H (K b)) → symW P m acc H fun a H' r => ∀ b, K b a H' r := by
  induction m with
  | pure a => exact fun acc H β _ K h => h
  | load m a k ih =>
    intro acc H β hne K h
    obtain ⟨b0⟩ := hne
    match acc, h with
    | .rd i :: acc, h =>
      simp only [symW] at h ⊢
      cases hs : H i with
      | blk b o =>
        rw [hs] at h
        cases o with
        | cells c t f =>
          refine ⟨(h b0).1, (h b0).2.1, ?_⟩
          have h3 := fun x => (h x).2.2
          cases hv : c[a.off]? with
          | none => rw [hv] at h3; exact h3 b0
          | some v => rw [hv] at h3; exact ih v acc H β ⟨b0⟩ K h3
        | _ => exact (h b0).elim
      | _ => rw [hs] at h; exact (h b0).elim
    | .rv i g :: acc, h =>
      simp only [symW] at h ⊢
      cases hs : H i with
      | blk b o =>
        rw [hs] at h
        cases o with
        | cells c t f => exact ⟨(h b0).1, (h b0).2.1, (h b0).2.2.1, ih _ acc H β ⟨b0⟩ K fun x => (h x).2.2.2⟩
        | _ => exact (h b0).elim
      | _ => rw [hs] at h; exact (h b0).elim
    | .wr _ :: _, h | .ws _ :: _, h | .nw _ :: _, h | .ch :: _, h | [], h => exact (h b0).elim
  | store m a v k ih =>
    intro acc H β hne K h
    obtain ⟨b0⟩ := hne
    match acc, h with
    | .wr i :: acc, h =>
      simp only [symW] at h ⊢
      cases hv : notAgg v with
      | false => rw [hv] at h; exact (h b0).elim
      | true =>
        rw [hv] at h
        cases hs : H i with
        | blk b o =>
          rw [hs] at h
          cases o with
          | cells c t f =>
            refine ⟨(h b0).1, (h b0).2.1, ?_⟩
            have h3 := fun x => (h x).2.2
            cases hl : Nat.blt a.off c.size with
            | false => rw [hl] at h3; exact (h3 b0).elim
            | true =>
              cases hf : frz f a.off with
              | true => rw [hl, hf] at h3; exact (h3 b0).elim
              | false => rw [hl, hf] at h3; exact ih acc _ β ⟨b0⟩ K h3
          | _ => exact (h b0).elim
        | _ => rw [hs] at h; exact (h b0).elim
    | .ws i :: acc, h =>
      simp only [symW] at h ⊢
      cases hs : H i with
      | blk b o =>
        rw [hs] at h
        cases o with
        | cells c t f =>
          obtain ⟨h1, h2, h3, h4, h5, _⟩ := h b0
          exact ⟨h1, h2, h3, h4, h5, ih acc _ β ⟨b0⟩ K fun x => (h x).2.2.2.2.2⟩
        | _ => exact (h b0).elim
      | _ => rw [hs] at h; exact (h b0).elim
    | .rd _ :: _, h | .rv _ _ :: _, h | .nw _ :: _, h | .ch :: _, h | [], h => cases v <;> exact (h b0).elim
  | new o k ih =>
    intro acc H β hne K h
    obtain ⟨b0⟩ := hne
    match acc, h with
    | .nw i :: acc, h => simp only [symW] at h ⊢; exact fun b => ih b acc _ β ⟨b0⟩ K fun x => h x b
    | .rd _ :: _, h | .rv _ _ :: _, h | .wr _ :: _, h | .ws _ :: _, h | .ch :: _, h | [], h => exact (h b0).elim
  | shape r k ih =>
    intro acc H β hne K h
    obtain ⟨b0⟩ := hne
    match acc, h with
    | .rd i :: acc, h =>
      simp only [symW] at h ⊢
      cases hs : H i with
      | blk b o => rw [hs] at h; exact ⟨(h b0).1, ih _ acc H β ⟨b0⟩ K fun x => (h x).2⟩
      | _ => rw [hs] at h; exact (h b0).elim
    | .rv _ _ :: _, h | .wr _ :: _, h | .ws _ :: _, h | .nw _ :: _, h | .ch :: _, h | [], h => exact (h b0).elim
  | freeze a n k ih =>
    intro acc H β hne K h
    obtain ⟨b0⟩ := hne
    match acc, h with
    | .wr i :: acc, h =>
      simp only [symW] at h ⊢
      cases hs : H i with
      | blk b o => rw [hs] at h; exact ⟨(h b0).1, ih acc _ β ⟨b0⟩ K fun x => (h x).2⟩
      | _ => rw [hs] at h; exact (h b0).elim
    | .rd _ :: _, h | .rv _ _ :: _, h | .ws _ :: _, h | .nw _ :: _, h | .ch :: _, h | [], h => exact (h b0).elim
  | frozen a k ih =>
    intro acc H β hne K h
    obtain ⟨b0⟩ := hne
    match acc, h with
    | .rd i :: acc, h =>
      simp only [symW] at h ⊢
      cases hs : H i with
      | blk b o => rw [hs] at h; exact ⟨(h b0).1, ih _ acc H β ⟨b0⟩ K fun x => (h x).2⟩
      | _ => rw [hs] at h; exact (h b0).elim
    | .rv _ _ :: _, h | .wr _ :: _, h | .ws _ :: _, h | .nw _ :: _, h | .ch :: _, h | [], h => exact (h b0).elim
  | getObj r k ih =>
    intro acc H β hne K h
    obtain ⟨b0⟩ := hne
    match acc, h with
    | .rd i :: acc, h =>
      simp only [symW] at h ⊢
      cases hs : H i with
      | blk b o =>
        rw [hs] at h
        have h2 := fun x => (h x).2
        refine ⟨(h b0).1, ?_⟩
        cases hc : isCells o with
        | true => rw [hc] at h2; exact (h2 b0).elim
        | false => rw [hc] at h2; exact ih _ acc H β ⟨b0⟩ K h2
      | _ => rw [hs] at h; exact (h b0).elim
    | .rv _ _ :: _, h | .wr _ :: _, h | .ws _ :: _, h | .nw _ :: _, h | .ch :: _, h | [], h => exact (h b0).elim
  | setObj r o k ih =>
    intro acc H β hne K h
    obtain ⟨b0⟩ := hne
    match acc, h with
    | .wr i :: acc, h =>
      simp only [symW] at h ⊢
      cases hs : H i with
      | blk b o' =>
        rw [hs] at h
        have h2 := fun x => (h x).2
        refine ⟨(h b0).1, ?_⟩
        cases hc : isCells o' with
        | true => rw [hc] at h2; exact (h2 b0).elim
        | false => rw [hc] at h2; exact ih acc _ β ⟨b0⟩ K h2
      | _ => rw [hs] at h; exact (h b0).elim
    | .rd _ :: _, h | .rv _ _ :: _, h | .ws _ :: _, h | .nw _ :: _, h | .ch :: _, h | [], h => exact (h b0).elim
  | choose q k ih =>
    intro acc H β hne K h
    obtain ⟨b0⟩ := hne
    match acc, h with
    | .ch :: acc, h => simp only [symW] at h ⊢; exact fun t h1 h2 => ih t acc H β ⟨b0⟩ K fun x => h x t h1 h2
    | .rd _ :: _, h | .rv _ _ :: _, h | .wr _ :: _, h | .ws _ :: _, h | .nw _ :: _, h | [], h => exact (h b0).elim
  | sys c k ih => intro acc H β hne K h; obtain ⟨b0⟩ := hne; cases acc <;> exact (h b0).elim
  | program k ih => intro acc H β hne K h; cases acc <;> exact ih P _ H β hne K h
  | mark m k ih => intro acc H β hne K h; cases acc <;> exact ih _ H β hne K h
  | halt x => intro acc H β hne K h; obtain ⟨b0⟩ := hne; cases acc <;> exact (h b0).elim

/-- One Sem and a transformer that touches other slots. -/
theorem symW_comm {P : Program} {α : Type} {T : (Value → Hp → Prop) → Hp → Prop} {rd wr : List Nat} (hT : Good T rd wr) (m : Sem α) :
    ∀ (acc : List Acc) (H : Hp) (K : α → Value → Hp → List Acc → Prop), (∀ x ∈ wrA acc, x ∉ rd ∧ x ∉ wr) → (∀ x ∈ wr, x ∉ rdA acc) →
    symW P m acc H (fun a H1 r => T (fun v H2 => K a v H2 r) H1) → T (fun v H2 => symW P m acc H2 fun a H1 r => K a v H1 r) H := by
  have keep : ∀ {K K' : Value → Hp → Prop} {H : Hp}, T K H → (∀ v H', (∀ i, i ∉ wr → H' i = H i) → K v H' → K' v H') → T K' H := fun h hk => hT.step _ _ _ h hk
  induction m with
  | pure a => exact fun acc H K _ _ h => h
  | load m a k ih =>
    intro acc H K hw hr h
    match acc, h, hw, hr with
    | .rd i :: acc, h, hw, hr =>
      have hi : i ∉ wr := fun hx => (hr i hx) (by simp [rdA])
      simp only [symW] at h
      cases hs : H i with
      | blk b o =>
        rw [hs] at h
        cases o with
        | cells c t f =>
          obtain ⟨h1, h2, h3⟩ := h
          cases hv : c[a.off]? with
          | none => rw [hv] at h3; exact h3.elim
          | some v =>
            rw [hv] at h3
            refine keep (ih v acc H K hw (fun x hx hy => hr x hx (by simp [rdA, hy])) h3) (fun v2 H2 hH h => ?_)
            simp only [symW, hH i hi, hs, hv]
            exact ⟨h1, h2, h⟩
        | _ => exact h.elim
      | _ => rw [hs] at h; exact h.elim
    | .rv i g :: acc, h, hw, hr =>
      have hi : i ∉ wr := fun hx => (hr i hx) (by simp [rdA])
      simp only [symW] at h
      cases hs : H i with
      | blk b o =>
        rw [hs] at h
        cases o with
        | cells c t f =>
          obtain ⟨h1, h2, h3, h4⟩ := h
          refine keep (ih _ acc H K hw (fun x hx hy => hr x hx (by simp [rdA, hy])) h4) (fun v2 H2 hH h => ?_)
          simp only [symW, hH i hi, hs]
          exact ⟨h1, h2, h3, h⟩
        | _ => exact h.elim
      | _ => rw [hs] at h; exact h.elim
    | .wr _ :: _, h, _, _ | .ws _ :: _, h, _, _ | .nw _ :: _, h, _, _ | .ch :: _, h, _, _ | [], h, _, _ => exact h.elim
  | store m a v k ih =>
    intro acc H K hw hr h
    match acc, h, hw, hr with
    | .wr i :: acc, h, hw, hr =>
      have hi := hw i (by simp [wrA])
      simp only [symW] at h
      cases hv : notAgg v with
      | false => rw [hv] at h; exact h.elim
      | true =>
        rw [hv] at h
        cases hs : H i with
        | blk b o =>
          rw [hs] at h
          cases o with
          | cells c t f =>
            obtain ⟨h1, h2, h3⟩ := h
            cases hl : Nat.blt a.off c.size with
            | false => rw [hl] at h3; exact h3.elim
            | true =>
              cases hf : frz f a.off with
              | true => rw [hl, hf] at h3; exact h3.elim
              | false =>
                rw [hl, hf] at h3
                refine keep (hT.set _ _ _ _ hi.1 hi.2 (ih acc _ K (fun x hx => hw x (by simp [wrA, hx])) hr h3)) (fun v2 H2 hH h => ?_)
                simp only [symW, hH i hi.2, hs, hv, hl, hf]
                exact ⟨h1, h2, h⟩
          | _ => exact h.elim
        | _ => rw [hs] at h; exact h.elim
    | .ws i :: acc, h, hw, hr =>
      have hi := hw i (by simp [wrA])
      simp only [symW] at h
      cases hs : H i with
      | blk b o =>
        rw [hs] at h
        cases o with
        | cells c t f =>
          obtain ⟨h1, h2, h3, h4, h5, h6⟩ := h
          refine keep (hT.set _ _ _ _ hi.1 hi.2 (ih acc _ K (fun x hx => hw x (by simp [wrA, hx])) hr h6)) (fun v2 H2 hH h => ?_)
          simp only [symW, hH i hi.2, hs]
          exact ⟨h1, h2, h3, h4, h5, h⟩
        | _ => exact h.elim
      | _ => rw [hs] at h; exact h.elim
    | .rd _ :: _, h, _, _ | .rv _ _ :: _, h, _, _ | .nw _ :: _, h, _, _ | .ch :: _, h, _, _ | [], h, _, _ => cases v <;> exact h.elim
  | new o k ih =>
    intro acc H K hw hr h
    match acc, h, hw, hr with
    | .nw i :: acc, h, hw, hr =>
      have hi := hw i (by simp [wrA])
      simp only [symW] at h
      refine keep (hT.all Nat ⟨0⟩ _ _ fun b => hT.set _ _ _ _ hi.1 hi.2 (ih b acc _ K (fun x hx => hw x (by simp [wrA, hx])) hr (h b))) (fun v2 H2 hH h => ?_)
      simp only [symW]
      exact h
    | .rd _ :: _, h, _, _ | .rv _ _ :: _, h, _, _ | .wr _ :: _, h, _, _ | .ws _ :: _, h, _, _ | .ch :: _, h, _, _ | [], h, _, _ => exact h.elim
  | shape r k ih =>
    intro acc H K hw hr h
    match acc, h, hw, hr with
    | .rd i :: acc, h, hw, hr =>
      have hi : i ∉ wr := fun hx => (hr i hx) (by simp [rdA])
      simp only [symW] at h
      cases hs : H i with
      | blk b o =>
        rw [hs] at h
        obtain ⟨h1, h2⟩ := h
        refine keep (ih _ acc H K hw (fun x hx hy => hr x hx (by simp [rdA, hy])) h2) (fun v2 H2 hH h => ?_)
        simp only [symW, hH i hi, hs]
        exact ⟨h1, h⟩
      | _ => rw [hs] at h; exact h.elim
    | .rv _ _ :: _, h, _, _ | .wr _ :: _, h, _, _ | .ws _ :: _, h, _, _ | .nw _ :: _, h, _, _ | .ch :: _, h, _, _ | [], h, _, _ => exact h.elim
  | freeze a n k ih =>
    intro acc H K hw hr h
    match acc, h, hw, hr with
    | .wr i :: acc, h, hw, hr =>
      have hi := hw i (by simp [wrA])
      simp only [symW] at h
      cases hs : H i with
      | blk b o =>
        rw [hs] at h
        obtain ⟨h1, h2⟩ := h
        refine keep (hT.set _ _ _ _ hi.1 hi.2 (ih acc _ K (fun x hx => hw x (by simp [wrA, hx])) hr h2)) (fun v2 H2 hH h => ?_)
        simp only [symW, hH i hi.2, hs]
        exact ⟨h1, h⟩
      | _ => rw [hs] at h; exact h.elim
    | .rd _ :: _, h, _, _ | .rv _ _ :: _, h, _, _ | .ws _ :: _, h, _, _ | .nw _ :: _, h, _, _ | .ch :: _, h, _, _ | [], h, _, _ => exact h.elim
  | frozen a k ih =>
    intro acc H K hw hr h
    match acc, h, hw, hr with
    | .rd i :: acc, h, hw, hr =>
      have hi : i ∉ wr := fun hx => (hr i hx) (by simp [rdA])
      simp only [symW] at h
      cases hs : H i with
      | blk b o =>
        rw [hs] at h
        obtain ⟨h1, h2⟩ := h
        refine keep (ih _ acc H K hw (fun x hx hy => hr x hx (by simp [rdA, hy])) h2) (fun v2 H2 hH h => ?_)
        simp only [symW, hH i hi, hs]
        exact ⟨h1, h⟩
      | _ => rw [hs] at h; exact h.elim
    | .rv _ _ :: _, h, _, _ | .wr _ :: _, h, _, _ | .ws _ :: _, h, _, _ | .nw _ :: _, h, _, _ | .ch :: _, h, _, _ | [], h, _, _ => exact h.elim
  | getObj r k ih =>
    intro acc H K hw hr h
    match acc, h, hw, hr with
    | .rd i :: acc, h, hw, hr =>
      have hi : i ∉ wr := fun hx => (hr i hx) (by simp [rdA])
      simp only [symW] at h
      cases hs : H i with
      | blk b o =>
        rw [hs] at h
        obtain ⟨h1, h2⟩ := h
        cases hc : isCells o with
        | true => rw [hc] at h2; exact h2.elim
        | false =>
          rw [hc] at h2
          refine keep (ih _ acc H K hw (fun x hx hy => hr x hx (by simp [rdA, hy])) h2) (fun v2 H2 hH h => ?_)
          simp only [symW, hH i hi, hs, hc]
          exact ⟨h1, h⟩
      | _ => rw [hs] at h; exact h.elim
    | .rv _ _ :: _, h, _, _ | .wr _ :: _, h, _, _ | .ws _ :: _, h, _, _ | .nw _ :: _, h, _, _ | .ch :: _, h, _, _ | [], h, _, _ => exact h.elim
  | setObj r o k ih =>
    intro acc H K hw hr h
    match acc, h, hw, hr with
    | .wr i :: acc, h, hw, hr =>
      have hi := hw i (by simp [wrA])
      simp only [symW] at h
      cases hs : H i with
      | blk b o' =>
        rw [hs] at h
        obtain ⟨h1, h2⟩ := h
        cases hc : isCells o' with
        | true => rw [hc] at h2; exact h2.elim
        | false =>
          rw [hc] at h2
          refine keep (hT.set _ _ _ _ hi.1 hi.2 (ih acc _ K (fun x hx => hw x (by simp [wrA, hx])) hr h2)) (fun v2 H2 hH h => ?_)
          simp only [symW, hH i hi.2, hs, hc]
          exact ⟨h1, h⟩
      | _ => rw [hs] at h; exact h.elim
    | .rd _ :: _, h, _, _ | .rv _ _ :: _, h, _, _ | .ws _ :: _, h, _, _ | .nw _ :: _, h, _, _ | .ch :: _, h, _, _ | [], h, _, _ => exact h.elim
  | choose q k ih =>
    intro acc H K hw hr h
    match acc, h, hw, hr with
    | .ch :: acc, h, hw, hr =>
      simp only [symW] at h
      let β : Type := { t : Nat // (q.forced = true → t = 0) ∧ (q.forced = false → ∃ u, t = q.cut u) }
      have hne : Nonempty β := by
        cases hf : q.forced with
        | true => exact ⟨⟨0, fun _ => rfl, fun e => by rw [hf] at e; cases e⟩⟩
        | false => exact ⟨⟨q.cut 0, fun e => (by rw [hf] at e; cases e), fun _ => ⟨0, rfl⟩⟩⟩
      refine keep (hT.all β hne (fun t v H2 => symW P (k t.1) acc H2 fun a H1 r => K a v H1 r) H fun t => ih t.1 acc H K hw hr (h t.1 t.2.1 t.2.2)) (fun v2 H2 hH h => ?_)
      simp only [symW]
      exact fun t h1 h2 => h ⟨t, h1, h2⟩
    | .rd _ :: _, h, _, _ | .rv _ _ :: _, h, _, _ | .wr _ :: _, h, _, _ | .ws _ :: _, h, _, _ | .nw _ :: _, h, _, _ | [], h, _, _ => exact h.elim
  | sys c k ih => intro acc H K hw hr h; cases acc <;> exact h.elim
  | program k ih =>
    intro acc H K hw hr h
    have e : ∀ (H : Hp) (K : α → Hp → List Acc → Prop), symW P (.program k) acc H K = symW P (k P) acc H K := fun _ _ => by cases acc <;> rfl
    simp only [e] at h ⊢
    exact ih P acc H K hw hr h
  | mark m k ih =>
    intro acc H K hw hr h
    have e : ∀ (H : Hp) (K : α → Hp → List Acc → Prop), symW P (.mark m k) acc H K = symW P k acc H K := fun _ _ => by cases acc <;> rfl
    simp only [e] at h ⊢
    exact ih acc H K hw hr h
  | halt x => intro acc H K hw hr h; cases acc <;> exact h.elim
end Go.Sx

namespace Go.Sx
open Go.RowKit

/-! ### An operation looks at its operands alone -/
theorem map_congr_arr {α β : Type} {f g : α → β} {xs : Array α} (h : ∀ x ∈ xs, f x = g x) : xs.map f = xs.map g := by
  apply Array.ext'
  simp only [Array.toList_map]
  exact List.map_congr_left fun x hx => h x (Array.mem_toList_iff.1 hx)

theorem resolve_congr {ρ ρ' : Operand → Value} {c : Call} (t : TypeId) (h : ∀ x ∈ c.operands, ρ x = ρ' x) : resolve ρ c t = resolve ρ' c t := by
  obtain ⟨callee, args, ats⟩ := c
  simp only [Call.operands] at h
  have ha : args.map ρ = args.map ρ' := map_congr_arr fun x hx => h x (Array.mem_append.2 (.inr hx))
  unfold resolve
  simp only [ha]
  cases callee with
  | value f => simp only; rw [h f (Array.mem_append.2 (.inl (by simp)))]
  | invoke r m => simp only; rw [h r (Array.mem_append.2 (.inl (by simp)))]
  | builtin b => rfl

def isSel : Op → Bool
  | .select .. => true
  | _ => false

theorem execOp_congr {ρ ρ' : Operand → Value} (o : Oper) (hs : isSel o.op = false) (h : ∀ x ∈ o.op.operands, ρ x = ρ' x) : execOp ρ o = execOp ρ' o := by
  unfold execOp
  cases ho : o.op with
  | call c => rw [ho] at h; simp only; rw [resolve_congr _ h]
  | go c => rw [ho] at h; simp only; rw [resolve_congr _ h]
  | defer c => rw [ho] at h; simp only; rw [resolve_congr _ h]
  | build t parts =>
    rw [ho] at h
    have : (parts.map fun (i, x) => (i, ρ x)) = parts.map fun (i, x) => (i, ρ' x) := map_congr_arr fun x hx => by
      simp only [Op.operands] at h
      show (x.1, ρ x.2) = (x.1, ρ' x.2)
      rw [h x.2 (by simp; exact ⟨x.1, hx⟩)]
    simp only [this]
  | buildSlice t n parts =>
    rw [ho] at h
    have : (parts.map fun (i, x) => (i, ρ x)) = parts.map fun (i, x) => (i, ρ' x) := map_congr_arr fun x hx => by
      simp only [Op.operands] at h
      show (x.1, ρ x.2) = (x.1, ρ' x.2)
      rw [h x.2 (by simp; exact ⟨x.1, hx⟩)]
    simp only [this]
  | makeFunc fn first captured =>
    rw [ho] at h
    simp only [Op.operands] at h
    have h1 : first.map ρ = first.map ρ' := map_congr_arr fun x hx => h x (Array.mem_append.2 (.inl hx))
    have h2 : captured.map ρ = captured.map ρ' := map_congr_arr fun x hx => h x (Array.mem_append.2 (.inr hx))
    simp only [h1, h2]
  | makeMap t r =>
    rw [ho] at h
    simp only [Op.operands] at h
    cases r with
    | none => rfl
    | some x => simp only [Option.map_some]; rw [h x (by simp)]
  | slice t x lo hi mx =>
    rw [ho] at h
    simp only [Op.operands] at h
    have h0 : ρ x = ρ' x := h x (by simp)
    have h1 : lo.map ρ = lo.map ρ' := by
      cases lo with
      | none => rfl
      | some y => simp only [Option.map_some]; rw [h y (by simp)]
    have h2 : hi.map ρ = hi.map ρ' := by
      cases hi with
      | none => rfl
      | some y => simp only [Option.map_some]; rw [h y (by simp)]
    have h3 : mx.map ρ = mx.map ρ' := by
      cases mx with
      | none => rfl
      | some y => simp only [Option.map_some]; rw [h y (by simp)]
    simp only [h0, h1, h2, h3]
  | select cases blocking => rw [ho] at hs; cases hs
  | _ => first | rfl | (rw [ho] at h; simp only [Op.operands] at h; simp_all)

theorem callOf_congr {ρ ρ' : Operand → Value} (o : Op) (h : ∀ x ∈ o.operands, ρ x = ρ' x) : callOf ρ o = callOf ρ' o := by
  unfold callOf
  cases o with
  | call c =>
    obtain ⟨callee, args, ats⟩ := c
    cases callee with
    | value f =>
      simp only [Op.operands, Call.operands] at h
      have ha : args.map ρ = args.map ρ' := map_congr_arr fun x hx => h x (Array.mem_append.2 (.inr hx))
      simp only [ha, h f (Array.mem_append.2 (.inl (by simp)))]
    | _ => rfl
  | _ => rfl

/-! ### Footprints -/
def rdS : Ann → List Nat
  | .sem acc | .gen acc _ => rdA acc
  | .specr ins _ | .callr ins _ => ins
  | .specw ins _ _ | .callw ins _ _ | .calln ins _ _ => ins
  | _ => []
def wrS : Ann → List Nat
  | .sem acc | .gen acc _ => wrA acc
  | .specw ins outs _ | .callw ins outs _ => ins ++ outs
  | .calln _ outs _ => outs
  | _ => []

theorem updL_set {H : Hp} {ins outs : List Nat} {ss : List Slot} {i : Nat} {sl : Slot} (ho : outs.Nodup) (h1 : i ∉ ins) (h2 : i ∉ outs) :
    updL (clears (upd H i sl) ins) outs ss = upd (updL (clears H ins) outs ss) i sl := by
  funext j
  by_cases e : j = i
  · subst e; rw [upd_same, updL_out _ _ _ _ h2, clears_out _ _ _ h1, upd_same]
  · rw [upd_other _ _ e]
    by_cases hj : j ∈ outs
    · obtain ⟨k, hk⟩ := List.getElem?_of_mem hj
      rw [updL_in outs ss _ k j ho hk, updL_in outs ss _ k j ho hk]
    · rw [updL_out _ _ _ _ hj, updL_out _ _ _ _ hj]
      by_cases hi : j ∈ ins
      · rw [clears_in _ _ _ hi, clears_in _ _ _ hi]
      · rw [clears_out _ _ _ hi, clears_out _ _ _ hi, upd_other _ _ e]

theorem map_upd {H : Hp} {ins : List Nat} {i : Nat} {sl : Slot} (h : i ∉ ins) : ins.map (upd H i sl) = ins.map H :=
  List.map_congr_left fun _ hx => upd_other _ _ (fun e => h (e ▸ hx))

theorem opVals_congr {ρ ρ' : Operand → Value} (o : Op) (h : ∀ x ∈ o.operands, ρ x = ρ' x) : opVals ρ o = opVals ρ' o :=
  List.map_congr_left fun x hx => h x (Array.mem_toList_iff.1 hx)

theorem good_specR {C : List Slot → Ctr} {T : List Slot → (X : Type) → (X → Value) → (X → List Slot) → (X → Prop) → Prop} {ins : List Nat} :
    Good (fun K H => onB (nodB ins) (specR (T (ins.map H)) (C (ins.map H)) (ins.map H) K H)) ins [] := by
  refine ⟨fun K K' H h hk => ?_, fun K H i sl h1 _ h => ?_, fun β ⟨b0⟩ K H h => ?_⟩
  · obtain ⟨hn, h1, h2, h3⟩ := onB_iff.1 h
    exact onB_iff.2 ⟨hn, h1, h2, fun x hx => hk _ _ (fun _ _ => rfl) (h3 x hx)⟩
  · rw [map_upd (ins := ins) h1] at h
    exact h
  · obtain ⟨hn, h1, h2, -⟩ := onB_iff.1 (h b0)
    exact onB_iff.2 ⟨hn, h1, h2, fun x hx b => (onB_iff.1 (h b)).2.2.2 x hx⟩

theorem good_specX {C : List Slot → Ctr} {T : List Slot → (X : Type) → (X → Value) → (X → List Slot) → (X → Prop) → Prop} {ins outs : List Nat} :
    Good (fun K H => onB (nodB ins) (onB (nodB outs) (specX (T (ins.map H)) (C (ins.map H)) ins outs K H))) ins (ins ++ outs) := by
  refine ⟨fun K K' H h hk => ?_, fun K H i sl h1 h2 h => ?_, fun β ⟨b0⟩ K H h => ?_⟩
  · obtain ⟨hn, h⟩ := onB_iff.1 h
    obtain ⟨hu, h1, h2, h3⟩ := onB_iff.1 h
    refine onB_iff.2 ⟨hn, onB_iff.2 ⟨hu, h1, h2, fun x hx => hk _ _ (fun i hi => ?_) (h3 x hx)⟩⟩
    simp only [List.mem_append, not_or] at hi
    rw [updL_out _ _ _ _ hi.2, clears_out _ _ _ hi.1]
  · obtain ⟨hn, h⟩ := onB_iff.1 h
    obtain ⟨hu, h3, h4, h5⟩ := onB_iff.1 h
    simp only [List.mem_append, not_or] at h2
    rw [map_upd (ins := ins) h1] at h3 h4 h5
    refine onB_iff.2 ⟨hn, onB_iff.2 ⟨hu, h3, h4, fun x hx => ?_⟩⟩
    have := h5 x hx
    rw [updL_set (nodB_iff.1 hu) h2.1 h2.2] at this
    exact this
  · obtain ⟨hn, h'⟩ := onB_iff.1 (h b0)
    obtain ⟨hu, h1, h2, -⟩ := onB_iff.1 h'
    exact onB_iff.2 ⟨hn, onB_iff.2 ⟨hu, h1, h2, fun x hx b => (onB_iff.1 (onB_iff.1 (h b)).2).2.2.2 x hx⟩⟩

theorem good_specN {C : List Slot → Ctr} {T : List Slot → (X : Type) → (X → Value) → (X → List Slot) → (X → Prop) → Prop} {ins outs : List Nat} :
    Good (fun K H => onB (nodB ins) (onB (nodB (ins ++ outs)) (specN (T (ins.map H)) (C (ins.map H)) (ins.map H) outs K H))) ins outs := by
  refine ⟨fun K K' H h hk => ?_, fun K H i sl h1 h2 h => ?_, fun β ⟨b0⟩ K H h => ?_⟩
  · obtain ⟨hn, h⟩ := onB_iff.1 h
    obtain ⟨hu, h1, h2, h3⟩ := onB_iff.1 h
    exact onB_iff.2 ⟨hn, onB_iff.2 ⟨hu, h1, h2, fun x hx => hk _ _ (fun i hi => updL_out _ _ _ _ hi) (h3 x hx)⟩⟩
  · obtain ⟨hn, h⟩ := onB_iff.1 h
    obtain ⟨hu, h3, h4, h5⟩ := onB_iff.1 h
    rw [map_upd (ins := ins) h1] at h3 h4 h5
    refine onB_iff.2 ⟨hn, onB_iff.2 ⟨hu, h3, h4, fun x hx => ?_⟩⟩
    have := h5 x hx
    have e := updL_set (H := H) (ins := []) (outs := outs) (ss := (C (ins.map H)).us x) (i := i) (sl := sl) (List.nodup_append.1 (nodB_iff.1 hu)).2.1 (by simp) h2
    simp only [clears] at e
    rw [e] at this
    exact this
  · obtain ⟨hn, h'⟩ := onB_iff.1 (h b0)
    obtain ⟨hu, h1, h2, -⟩ := onB_iff.1 h'
    exact onB_iff.2 ⟨hn, onB_iff.2 ⟨hu, h1, h2, fun x hx b => (onB_iff.1 (onB_iff.1 (h b)).2).2.2.2 x hx⟩⟩

theorem good_core {P : Program} {ρ : Operand → Value} {o : Oper} (a : Ann) : Good (coreW P ρ o a) (rdS a) (wrS a) := by
  cases a with
  | sem acc =>
    refine ⟨fun K K' H h hk => symW_step _ acc H _ _ h fun nx H' r hH hn => ?_, fun K H i sl h1 h2 h => ?_, fun β hne K H h => ?_⟩
    · cases nx <;> first | exact hk _ _ hH hn | exact hn
    · refine symW_step _ acc H _ _ (symW_set _ acc H _ i sl h1 h2 h) fun nx H' r _ hn => ?_
      cases nx <;> exact hn
    · refine symW_step _ acc H _ _ (symW_all _ acc H β hne _ h) fun nx H' r _ hn => ?_
      obtain ⟨b0⟩ := hne
      cases nx <;> first | exact hn | exact hn b0
  | gen acc C =>
    refine ⟨fun K K' H h hk => symW_step _ acc H _ _ h fun nx H' r hH hn => ?_, fun K H i sl h1 h2 h => ?_, fun β hne K H h => ?_⟩
    · cases nx <;> first | exact ⟨hn.1, fun x hx => hk _ _ hH (hn.2 x hx)⟩ | exact hn
    · refine symW_step _ acc H _ _ (symW_set _ acc H _ i sl h1 h2 h) fun nx H' r _ hn => ?_
      cases nx <;> exact hn
    · refine symW_step _ acc H _ _ (symW_all _ acc H β hne _ h) fun nx H' r _ hn => ?_
      obtain ⟨b0⟩ := hne
      cases nx <;> first | exact ⟨(hn b0).1, fun x hx b => (hn b).2 x hx⟩ | exact hn b0
  | eq v =>
    exact ⟨fun K K' H h hk => ⟨h.1, hk _ _ (fun _ _ => rfl) h.2⟩, fun K H i sl _ _ h => h, fun β ⟨b0⟩ K H h => ⟨(h b0).1, fun b => (h b).2⟩⟩
  | specr ins C => exact good_specR (T := OpT P (execOp ρ o)) (C := C (opVals ρ o.op))
  | specw ins outs C => exact good_specX (T := OpT P (execOp ρ o)) (C := C (opVals ρ o.op))
  | callr ins C =>
    unfold coreW
    simp only
    cases hc : callOf ρ o.op with
    | none => exact ⟨fun K K' H h => h.elim, fun K H i sl _ _ h => h.elim, fun β ⟨b0⟩ K H h => (h b0).elim⟩
    | some fa => exact good_specR (T := TgtT P fa.1 fa.2) (C := C (opVals ρ o.op))
  | callw ins outs C =>
    unfold coreW
    simp only
    cases hc : callOf ρ o.op with
    | none => exact ⟨fun K K' H h => h.elim, fun K H i sl _ _ h => h.elim, fun β ⟨b0⟩ K H h => (h b0).elim⟩
    | some fa => exact good_specX (T := TgtT P fa.1 fa.2) (C := C (opVals ρ o.op))
  | calln ins outs C =>
    unfold coreW
    simp only
    cases hc : callOf ρ o.op with
    | none => exact ⟨fun K K' H h => h.elim, fun K H i sl _ _ h => h.elim, fun β ⟨b0⟩ K H h => (h b0).elim⟩
    | some fa => exact good_specN (T := TgtT P fa.1 fa.2) (C := C (opVals ρ o.op))
  | dfr => exact ⟨fun K K' H h => h.elim, fun K H i sl _ _ h => h.elim, fun β ⟨b0⟩ K H h => (h b0).elim⟩
  | no => exact ⟨fun K K' H h => h.elim, fun K H i sl _ _ h => h.elim, fun β ⟨b0⟩ K H h => (h b0).elim⟩

/-- An annotated operation and a transformer that touches other slots. -/
theorem core_comm {P : Program} {ρ : Operand → Value} {o : Oper} (a : Ann) {T : (Value → Hp → Prop) → Hp → Prop} {rd wr : List Nat} (hT : Good T rd wr)
    (hw : ∀ x ∈ wrS a, x ∉ rd ∧ x ∉ wr) (hr : ∀ x ∈ wr, x ∉ rdS a) (H : Hp) (K : Value → Value → Hp → Prop)
    (h : coreW P ρ o a (fun v1 H1 => T (fun v2 H2 => K v1 v2 H2) H1) H) : T (fun v2 H2 => coreW P ρ o a (fun v1 H1 => K v1 v2 H1) H2) H := by
  have same : ∀ {ins : List Nat} {H2 : Hp}, (∀ i, i ∉ wr → H2 i = H i) → (∀ x ∈ wr, x ∉ ins) → ins.map H2 = ins.map H := fun hH hx =>
    List.map_congr_left fun x hxi => hH x fun hw => hx x hw hxi
  have sets : ∀ (l : List Nat) (ss : List Slot) (H0 : Hp) (K : Value → Hp → Prop), (∀ x ∈ l, x ∉ rd ∧ x ∉ wr) → T K (updL H0 l ss) → T (fun v H2 => K v (updL H2 l ss)) H0 := by
    intro l
    induction l with
    | nil => exact fun ss H0 K _ h => h
    | cons x l ih =>
      intro ss H0 K hx h
      exact hT.set _ _ x _ (hx x (by simp)).1 (hx x (by simp)).2 (ih ss.tail _ K (fun y hy => hx y (by simp [hy])) h)
  have clrs : ∀ (l : List Nat) (H0 : Hp) (K : Value → Hp → Prop), (∀ x ∈ l, x ∉ rd ∧ x ∉ wr) → T K (clears H0 l) → T (fun v H2 => K v (clears H2 l)) H0 := by
    intro l
    induction l with
    | nil => exact fun H0 K _ h => h
    | cons x l ih =>
      intro H0 K hx h
      exact hT.set _ _ x _ (hx x (by simp)).1 (hx x (by simp)).2 (ih _ K (fun y hy => hx y (by simp [hy])) h)
  have readC : ∀ {S : List Slot → (X : Type) → (X → Value) → (X → List Slot) → (X → Prop) → Prop} {C : List Slot → Ctr} {ins : List Nat}, (∀ x ∈ wr, x ∉ ins) →
      onB (nodB ins) (specR (S (ins.map H)) (C (ins.map H)) (ins.map H) (fun v1 H1 => T (fun v2 H2 => K v1 v2 H2) H1) H) →
      T (fun v2 H2 => onB (nodB ins) (specR (S (ins.map H2)) (C (ins.map H2)) (ins.map H2) (fun v1 H1 => K v1 v2 H1) H2)) H := by
    intro S C ins hr h
    obtain ⟨hn, h1, ⟨x0, hx0⟩, h3⟩ := onB_iff.1 h
    refine hT.step _ _ _ (hT.all { x : (C (ins.map H)).X // (C (ins.map H)).Φ x } ⟨⟨x0, hx0⟩⟩ (fun x v H' => K ((C (ins.map H)).val x.1) v H') H fun x => h3 x.1 x.2) fun v2 H2 hH hk => onB_iff.2 ⟨hn, ?_⟩
    rw [same (ins := ins) hH hr]
    exact ⟨h1, ⟨x0, hx0⟩, fun x hx => hk ⟨x, hx⟩⟩
  have writeC : ∀ {S : List Slot → (X : Type) → (X → Value) → (X → List Slot) → (X → Prop) → Prop} {C : List Slot → Ctr} {ins outs : List Nat}, (∀ x ∈ wr, x ∉ ins) → (∀ x ∈ ins ++ outs, x ∉ rd ∧ x ∉ wr) →
      onB (nodB ins) (onB (nodB outs) (specX (S (ins.map H)) (C (ins.map H)) ins outs (fun v1 H1 => T (fun v2 H2 => K v1 v2 H2) H1) H)) →
      T (fun v2 H2 => onB (nodB ins) (onB (nodB outs) (specX (S (ins.map H2)) (C (ins.map H2)) ins outs (fun v1 H1 => K v1 v2 H1) H2))) H := by
    intro S C ins outs hr hw h
    obtain ⟨hn, h⟩ := onB_iff.1 h
    obtain ⟨hu, h1, ⟨x0, hx0⟩, h3⟩ := onB_iff.1 h
    refine hT.step _ _ _ (hT.all { x : (C (ins.map H)).X // (C (ins.map H)).Φ x } ⟨⟨x0, hx0⟩⟩ (fun x v H2 => K ((C (ins.map H)).val x.1) v (updL (clears H2 ins) outs ((C (ins.map H)).us x.1))) H fun x =>
      clrs ins _ (fun v H2 => K ((C (ins.map H)).val x.1) v (updL H2 outs ((C (ins.map H)).us x.1))) (fun y hy => hw y (by simp [hy])) (sets outs _ _ _ (fun y hy => hw y (by simp [hy])) (h3 x.1 x.2))) fun v2 H2 hH hk => onB_iff.2 ⟨hn, onB_iff.2 ⟨hu, ?_⟩⟩
    rw [same (ins := ins) hH hr]
    exact ⟨h1, ⟨x0, hx0⟩, fun x hx => hk ⟨x, hx⟩⟩
  have newC : ∀ {S : List Slot → (X : Type) → (X → Value) → (X → List Slot) → (X → Prop) → Prop} {C : List Slot → Ctr} {ins outs : List Nat}, (∀ x ∈ wr, x ∉ ins) → (∀ x ∈ outs, x ∉ rd ∧ x ∉ wr) →
      onB (nodB ins) (onB (nodB (ins ++ outs)) (specN (S (ins.map H)) (C (ins.map H)) (ins.map H) outs (fun v1 H1 => T (fun v2 H2 => K v1 v2 H2) H1) H)) →
      T (fun v2 H2 => onB (nodB ins) (onB (nodB (ins ++ outs)) (specN (S (ins.map H2)) (C (ins.map H2)) (ins.map H2) outs (fun v1 H1 => K v1 v2 H1) H2))) H := by
    intro S C ins outs hr hw h
    obtain ⟨hn, h⟩ := onB_iff.1 h
    obtain ⟨hu, h1, ⟨x0, hx0⟩, h3⟩ := onB_iff.1 h
    refine hT.step _ _ _ (hT.all { x : (C (ins.map H)).X // (C (ins.map H)).Φ x } ⟨⟨x0, hx0⟩⟩ (fun x v H2 => K ((C (ins.map H)).val x.1) v (updL H2 outs ((C (ins.map H)).us x.1))) H fun x =>
      sets outs _ _ _ hw (h3 x.1 x.2)) fun v2 H2 hH hk => onB_iff.2 ⟨hn, onB_iff.2 ⟨hu, ?_⟩⟩
    rw [same (ins := ins) hH hr]
    exact ⟨h1, ⟨x0, hx0⟩, fun x hx => hk ⟨x, hx⟩⟩
  cases a with
  | sem acc =>
    have h' : symW P (execOp ρ o) acc H (fun nx H1 _ => T (fun v2 H2 => (match nx with | .value v => K v v2 H2 | .skip => K undef v2 H2 | _ => False)) H1) :=
      symW_step _ acc H _ _ h fun nx H1 r _ hn => by cases nx <;> first | exact hn | exact hn.elim
    exact symW_comm hT _ acc H _ hw hr h'
  | eq v => exact hT.step _ _ _ h.2 fun v2 H2 _ hk => ⟨h.1, hk⟩
  | gen acc C =>
    have h' : symW P (execOp ρ o) acc H (fun nx H1 _ => T (fun v2 H2 => (match nx with | .value u => (∃ x, (C (opVals ρ o.op)).Φ x ∧ u = (C (opVals ρ o.op)).val x) ∧ ∀ x, (C (opVals ρ o.op)).Φ x → K ((C (opVals ρ o.op)).val x) v2 H2 | _ => False)) H1) := by
      refine symW_step _ acc H _ _ h fun nx H1 r _ hn => ?_
      cases nx with
      | value u =>
        obtain ⟨hex, hn⟩ := hn
        obtain ⟨x0, hx0, hu⟩ := hex
        exact hT.step _ _ _ (hT.all { x : (C (opVals ρ o.op)).X // (C (opVals ρ o.op)).Φ x } ⟨⟨x0, hx0⟩⟩ (fun x v H => K ((C (opVals ρ o.op)).val x.1) v H) H1 fun x => hn x.1 x.2) fun v2 H2 _ hk => ⟨⟨x0, hx0, hu⟩, fun x hx => hk ⟨x, hx⟩⟩
      | _ => exact hn.elim
    exact symW_comm hT _ acc H _ hw hr h'
  | specr ins C => exact readC (S := OpT P (execOp ρ o)) (C := C (opVals ρ o.op)) hr h
  | specw ins outs C => exact writeC (S := OpT P (execOp ρ o)) (C := C (opVals ρ o.op)) hr hw h
  | callr ins C =>
    unfold coreW at h ⊢
    simp only at h ⊢
    cases hc : callOf ρ o.op with
    | none => rw [hc] at h; exact h.elim
    | some fa => rw [hc] at h; exact readC (S := TgtT P fa.1 fa.2) (C := C (opVals ρ o.op)) hr h
  | callw ins outs C =>
    unfold coreW at h ⊢
    simp only at h ⊢
    cases hc : callOf ρ o.op with
    | none => rw [hc] at h; exact h.elim
    | some fa => rw [hc] at h; exact writeC (S := TgtT P fa.1 fa.2) (C := C (opVals ρ o.op)) hr hw h
  | calln ins outs C =>
    unfold coreW at h ⊢
    simp only at h ⊢
    cases hc : callOf ρ o.op with
    | none => rw [hc] at h; exact h.elim
    | some fa => rw [hc] at h; exact newC (S := TgtT P fa.1 fa.2) (C := C (opVals ρ o.op)) hr hw h
  | dfr => exact h.elim
  | no => exact h.elim
end Go.Sx
