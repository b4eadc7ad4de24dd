/- A symbolic executor for the model's code, part 1: what is owned of memory (slots), and the run of one operation's Sem against slots. Generic over the program. -/
import Derived.RangeFuncIn
import Derived.RangeFuncCalls
import Derived.Below
import Derived.Defers
import Derived.KernelRfl
set_option linter.unusedVariables false
set_option linter.unusedSimpArgs false
namespace Go.Sx
open Go.RowKit

/-! ### Pieces of the heap -/
abbrev Hl := Nat → Option Obj
abbrev HP := Hl → Prop
def Hl.disj (p q : Hl) : Prop := ∀ b, p b = none ∨ q b = none
def Hl.inw (p : Hl) (w : World) : Prop := ∀ b o, p b = some o → w.heap[b]? = some o

/-- An entry of a journal: how a key was. -/
structure Ent where
  g : FuncId
  b : Nat
  key : Value
  was : Option Value
  z : Value
  t1 : TypeId
  t2 : TypeId
  t3 : TypeId
  t4 : TypeId
/-- What a bundle holds. -/
inductive Dat where
  | none
  | nat (n : Nat)
  | int (n : Int)
  | val (v : Value)
  | vals (l : List Value)
  | kv (m : List (Value × Value))
  | ents (L : List Ent)
  | wld (w : World)
  | list (l : List Dat)

inductive Slot where
  | free
  | blk (b : Nat) (o : Obj)
  | par (ns : List Nat) (d : Dat) (A : HP)

def Slot.sat : Slot → HP
  | .free, p => ∀ b, p b = none
  | .blk b o, p => p b = some o ∧ ∀ c, c ≠ b → p c = none
  | .par _ _ A, p => A p

abbrev Hp := Nat → Slot

def upd {α : Type _} (H : Nat → α) (i : Nat) (s : α) : Nat → α := fun j => bif Nat.beq j i then s else H j
theorem beq_no {i j : Nat} (h : j ≠ i) : Nat.beq j i = false := by
  cases e : Nat.beq j i with
  | false => rfl
  | true => exact absurd (Nat.eq_of_beq_eq_true e) h
theorem upd_same {α : Type _} (H : Nat → α) (i : Nat) (s : α) : upd H i s i = s := by simp [upd]
theorem upd_other {α : Type _} (H : Nat → α) {i j : Nat} (s : α) (h : j ≠ i) : upd H i s j = H j := by
  have : Nat.beq j i = false := beq_no h
  simp [upd, this]
theorem upd_comm {α : Type _} (H : Nat → α) {i j : Nat} (s t : α) (h : i ≠ j) : upd (upd H i s) j t = upd (upd H j t) i s := by
  funext k
  by_cases h1 : k = i
  · subst h1; rw [upd_other _ _ h, upd_same, upd_same]
  · by_cases h2 : k = j
    · subst h2; rw [upd_same, upd_other _ _ h1, upd_same]
    · rw [upd_other _ _ h2, upd_other _ _ h1, upd_other _ _ h1, upd_other _ _ h2]

def Own (H : Hp) (R : HP) (w : World) : Prop :=
  ∃ (p : Nat → Hl) (q : Hl), (∀ i, (H i).sat (p i)) ∧ R q ∧ (∀ i, (p i).inw w) ∧ q.inw w ∧ (∀ i j, i ≠ j → (p i).disj (p j)) ∧ (∀ i, (p i).disj q)

theorem Own.block {H : Hp} {R : HP} {w : World} (h : Own H R w) {i b : Nat} {o : Obj} (hi : H i = .blk b o) : w.heap[b]? = some o := by
  obtain ⟨p, q, hs, -, hp, -⟩ := h
  have := hs i
  rw [hi] at this
  exact hp i b o this.1

theorem Own.mono {H : Hp} {R R' : HP} {w : World} (h : Own H R w) (hr : ∀ q, R q → R' q) : Own H R' w := by
  obtain ⟨p, q, hs, hq, r⟩ := h
  exact ⟨p, q, hs, hr q hq, r⟩

/-- The world may turn wherever nothing is owned. -/
theorem Own.same {H : Hp} {R : HP} {w w' : World} (h : Own H R w) (he : ∀ (b : Nat) (o : Obj), w.heap[b]? = some o → w'.heap[b]? = some o) : Own H R w' := by
  obtain ⟨p, q, hs, hq, hp, hqw, hd⟩ := h
  exact ⟨p, q, hs, hq, fun i b o hb => he b o (hp i b o hb), fun b o hb => he b o (hqw b o hb), hd⟩

theorem Own.free {H : Hp} {R : HP} {w : World} (h : Own H R w) (i : Nat) : Own (upd H i .free) R w := by
  obtain ⟨p, q, hs, hq, hp, hqw, hd, hdq⟩ := h
  refine ⟨upd p i (fun _ => none), q, fun j => ?_, hq, fun j => ?_, hqw, fun j k hjk => ?_, fun j => ?_⟩
  · by_cases e : j = i
    · subst e; rw [upd_same, upd_same]; exact fun _ => rfl
    · rw [upd_other _ _ e, upd_other _ _ e]; exact hs j
  · by_cases e : j = i
    · subst e; rw [upd_same]; intro b o hb; simp at hb
    · rw [upd_other _ _ e]; exact hp j
  · by_cases e : j = i
    · subst e; rw [upd_same]; exact fun _ => .inl rfl
    · rw [upd_other _ _ e]
      by_cases e' : k = i
      · subst e'; rw [upd_same]; exact fun _ => .inr rfl
      · rw [upd_other _ _ e']; exact hd j k hjk
  · by_cases e : j = i
    · subst e; rw [upd_same]; exact fun _ => .inl rfl
    · rw [upd_other _ _ e]; exact hdq j

/-- A block that a slot owns is written. -/
theorem Own.set {H : Hp} {R : HP} {w w' : World} (h : Own H R w) {i b : Nat} {o o' : Obj} (hi : H i = .blk b o)
    (hb : w'.heap[b]? = some o') (hn : ∀ c, c ≠ b → w'.heap[c]? = w.heap[c]?) : Own (upd H i (.blk b o')) R w' := by
  obtain ⟨p, q, hs, hq, hp, hqw, hd, hdq⟩ := h
  have hsi := hs i
  rw [hi] at hsi
  have away : ∀ (r : Hl), (p i).disj r → r b = none := fun r hr => (hr b).resolve_left (by rw [hsi.1]; simp)
  refine ⟨upd p i (fun c => bif Nat.beq c b then some o' else none), q, fun j => ?_, hq, fun j => ?_, ?_, fun j k hjk => ?_, fun j => ?_⟩
  · by_cases e : j = i
    · subst e; rw [upd_same, upd_same]
      refine ⟨by simp, fun c hc => ?_⟩
      have : Nat.beq c b = false := beq_no hc
      simp [this]
    · rw [upd_other _ _ e, upd_other _ _ e]; exact hs j
  · by_cases e : j = i
    · subst e; rw [upd_same]
      intro c x hx
      by_cases hc : c = b
      · subst hc; simp at hx; subst hx; exact hb
      · have : Nat.beq c b = false := beq_no hc
        simp [this] at hx
    · rw [upd_other _ _ e]
      intro c x hx
      have hc : c ≠ b := fun hc => by
        subst hc
        have := away (p j) (hd i j (Ne.symm e))
        rw [this] at hx; cases hx
      rw [hn c hc]; exact hp j c x hx
  · intro c x hx
    have hc : c ≠ b := fun hc => by
      subst hc
      have := away q (hdq i)
      rw [this] at hx; cases hx
    rw [hn c hc]; exact hqw c x hx
  · have key : ∀ r : Hl, (p i).disj r → Hl.disj (fun c => bif Nat.beq c b then some o' else none) r := by
      intro r hr c
      by_cases hc : c = b
      · subst hc; exact .inr (away r hr)
      · have : Nat.beq c b = false := beq_no hc
        exact .inl (by simp [this])
    by_cases e : j = i
    · subst e; rw [upd_same, upd_other _ _ (Ne.symm hjk)]; exact key _ (hd j k hjk)
    · rw [upd_other _ _ e]
      by_cases e' : k = i
      · subst e'; rw [upd_same]; exact fun c => (key _ (hd k j (Ne.symm hjk)) c).symm
      · rw [upd_other _ _ e']; exact hd j k hjk
  · by_cases e : j = i
    · subst e; rw [upd_same]
      intro c
      by_cases hc : c = b
      · subst hc; exact .inr (away q (hdq j))
      · have : Nat.beq c b = false := beq_no hc
        exact .inl (by simp [this])
    · rw [upd_other _ _ e]; exact hdq j

/-- A new block. -/
theorem Own.new {H : Hp} {R : HP} {w w' : World} (h : Own H R w) {i : Nat} {o : Obj}
    (hb : w'.heap[w.heap.size]? = some o) (hn : ∀ c, c < w.heap.size → w'.heap[c]? = w.heap[c]?) : Own (upd H i (.blk w.heap.size o)) R w' := by
  obtain ⟨p, q, hs, hq, hp, hqw, hd, hdq⟩ := h
  have old : ∀ (r : Hl), r.inw w → r w.heap.size = none := fun r hr => by
    cases hx : r w.heap.size with
    | none => rfl
    | some x => have := hr _ _ hx; simp at this
  have keep : ∀ (r : Hl), r.inw w → r.inw w' := fun r hr c x hx => by
    have hlt : c < w.heap.size := by
      have := hr c x hx
      rcases Nat.lt_or_ge c w.heap.size with h | h
      · exact h
      · simp [Array.getElem?_eq_none h] at this
    rw [hn c hlt]; exact hr c x hx
  have key : ∀ r : Hl, r.inw w → Hl.disj (fun c => bif Nat.beq c w.heap.size then some o else none) r := fun r hr c => by
    by_cases hc : c = w.heap.size
    · subst hc; exact .inr (old r hr)
    · have : Nat.beq c w.heap.size = false := beq_no hc
      exact .inl (by simp [this])
  refine ⟨upd p i (fun c => bif Nat.beq c w.heap.size then some o else none), q, fun j => ?_, hq, fun j => ?_, keep q hqw, fun j k hjk => ?_, fun j => ?_⟩
  · by_cases e : j = i
    · subst e; rw [upd_same, upd_same]
      refine ⟨by simp, fun c hc => ?_⟩
      have : Nat.beq c w.heap.size = false := beq_no hc
      simp [this]
    · rw [upd_other _ _ e, upd_other _ _ e]; exact hs j
  · by_cases e : j = i
    · subst e; rw [upd_same]
      intro c x hx
      by_cases hc : c = w.heap.size
      · subst hc; simp at hx; subst hx; exact hb
      · have : Nat.beq c w.heap.size = false := beq_no hc
        simp [this] at hx
    · rw [upd_other _ _ e]; exact keep _ (hp j)
  · by_cases e : j = i
    · subst e; rw [upd_same, upd_other _ _ (Ne.symm hjk)]; exact key _ (hp k)
    · rw [upd_other _ _ e]
      by_cases e' : k = i
      · subst e'; rw [upd_same]; exact fun c => (key _ (hp j) c).symm
      · rw [upd_other _ _ e']; exact hd j k hjk
  · by_cases e : j = i
    · subst e; rw [upd_same]; exact key _ hqw
    · rw [upd_other _ _ e]; exact hdq j

/-! ### What a run of the model leaves alone beside memory -/
structure Ext (w w' : World) : Prop where
  os : w'.os = w.os
  tape : w'.tape = w.tape
  output : w'.output = w.output
  size : w.heap.size ≤ w'.heap.size
theorem Ext.refl (w : World) : Ext w w := ⟨rfl, rfl, rfl, Nat.le_refl _⟩
theorem Ext.trans {a b c : World} (h : Ext a b) (k : Ext b c) : Ext a c := ⟨k.os.trans h.os, k.tape.trans h.tape, k.output.trans h.output, Nat.le_trans h.size k.size⟩

/-! ### One Sem against slots -/
inductive Acc where
  | rd (i : Nat)
  | rv (i : Nat) (f : Addr → Array Value → Value)
  | wr (i : Nat)
  | ws (i : Nat)
  | nw (i : Nat)
  | ch

def notAgg : Value → Bool
  | .agg _ | .tuple _ => false
  | _ => true

def frz (f : Nat × Nat) (off : Nat) : Bool := f.1 ≤ off && off < f.2

def isCells : Obj → Bool
  | .cells .. => true
  | _ => false

def frozenObj (a : Addr) (n : Nat) (o : Obj) : Obj :=
  if n = 0 then o else
  match o with
  | .cells c elem (lo, hi) => .cells c elem (if lo == hi then (a.off, a.off + n) else (min lo a.off, max hi (a.off + n)))
  | o => o

def shapeOf : Obj → Option (TypeId × Nat)
  | .cells c e _ => some (e, c.size)
  | _ => none

def frozenAt (o : Obj) (off : Nat) : Bool :=
  match o with
  | .cells _ _ f => frz f off
  | _ => false

def symW (P : Program) {α : Type} : Sem α → List Acc → Hp → (α → Hp → List Acc → Prop) → Prop
  | .pure a, acc, H, K => K a H acc
  | .load _ a k, .rd i :: acc, H, K =>
    match H i with
    | .blk b (.cells c _ _) => a.block = b ∧ a.spot = none ∧ (match c[a.off]? with | some v => symW P (k v) acc H K | none => False)
    | _ => False
  | .load _ a k, .rv i f :: acc, H, K =>
    match H i with
    | .blk b (.cells c _ _) => a.block = b ∧ a.spot = none ∧ c[a.off]? = some (f a c) ∧ symW P (k (f a c)) acc H K
    | _ => False
  | .store _ a v k, .wr i :: acc, H, K =>
    match notAgg v with
    | false => False
    | true =>
      match H i with
      | .blk b (.cells c t f) => a.block = b ∧ a.spot = none ∧
          (match Nat.blt a.off c.size, frz f a.off with | true, false => symW P k acc (upd H i (.blk b (.cells (c.setIfInBounds a.off v) t f))) K | _, _ => False)
      | _ => False
  | .store _ a v k, .ws i :: acc, H, K =>
    match H i with
    | .blk b (.cells c t f) => a.block = b ∧ a.spot = none ∧ notAgg v = true ∧ a.off < c.size ∧ frz f a.off = false ∧
        symW P k acc (upd H i (.blk b (.cells (c.setIfInBounds a.off v) t f))) K
    | _ => False
  | .new o k, .nw i :: acc, H, K => ∀ b, symW P (k b) acc (upd H i (.blk b o)) K
  | .shape r k, .rd i :: acc, H, K =>
    match H i with
    | .blk b o => r = b ∧ symW P (k (shapeOf o)) acc H K
    | _ => False
  | .freeze a n k, .wr i :: acc, H, K =>
    match H i with
    | .blk b o => a.block = b ∧ symW P k acc (upd H i (.blk b (frozenObj a n o))) K
    | _ => False
  | .frozen a k, .rd i :: acc, H, K =>
    match H i with
    | .blk b o => a.block = b ∧ symW P (k (frozenAt o a.off)) acc H K
    | _ => False
  | .getObj r k, .rd i :: acc, H, K =>
    match H i with
    | .blk b o => r = b ∧ (match isCells o with | true => False | false => symW P (k o) acc H K)
    | _ => False
  | .setObj r o k, .wr i :: acc, H, K =>
    match H i with
    | .blk b o' => r = b ∧ (match isCells o' with | true => False | false => symW P k acc (upd H i (.blk b o)) K)
    | _ => False
  | .choose q k, .ch :: acc, H, K => ∀ t, (q.forced = true → t = 0) → (q.forced = false → ∃ u, t = q.cut u) → symW P (k t) acc H K
  | .program k, acc, H, K => symW P (k P) acc H K
  | .mark _ k, acc, H, K => symW P k acc H K
  | _, _, _, _ => False

theorem cell_of_block {w : World} {a : Addr} {c : Array Value} {t : TypeId} {f : Nat × Nat} (h : w.heap[a.block]? = some (.cells c t f)) (hs : a.spot = none) :
    w.cell? a = c[a.off]? := by simp [World.cell?, h, hs]

theorem frozen_of_block {w : World} {a : Addr} {o : Obj} (h : w.heap[a.block]? = some o) : w.frozen? a = frozenAt o a.off := by
  unfold World.frozen? frozenAt frz
  rw [h]
  cases o <;> rfl

theorem heap_modify_same {w : World} {b : Nat} {o : Obj} (g : Obj → Obj) (h : w.heap[b]? = some o) : (w.heap.modify b g)[b]? = some (g o) := by
  simp [Array.getElem?_modify, h]
theorem heap_modify_other {w : World} {b c : Nat} (g : Obj → Obj) (h : c ≠ b) : (w.heap.modify b g)[c]? = w.heap[c]? := by
  rw [Array.getElem?_modify, if_neg (fun e => h e.symm)]

theorem symW_sound {P : Program} {α : Type} (m : Sem α) : ∀ (acc : List Acc) (H : Hp) (K : α → Hp → List Acc → Prop) (R : HP) (w : World),
    symW P m acc H K → Own H R w → ∃ a w' H' acc', m.run P w = .ok a w' ∧ K a H' acc' ∧ Own H' R w' ∧ Ext w w' := by
  induction m with
  | pure a => exact fun acc H K R w h ho => ⟨a, w, H, acc, rfl, h, ho, .refl _⟩
  | load m a k ih =>
    intro acc H K R w h ho
    match acc, h with
    | .rd i :: acc, h =>
      simp only [symW] at h
      cases hs : H i with
      | free => rw [hs] at h; exact h.elim
      | par _ _ A => rw [hs] at h; exact h.elim
      | blk b o =>
        rw [hs] at h
        cases o with
        | cells c t f =>
          obtain ⟨hb, hsp, h⟩ := h
          have hc := cell_of_block (w := w) (a := a) (by rw [hb]; exact ho.block hs) hsp
          cases hv : c[a.off]? with
          | none => rw [hv] at h; exact h.elim
          | some v =>
            rw [hv] at h
            obtain ⟨x, w', H', acc', hr, r⟩ := ih v acc H K R w h ho
            exact ⟨x, w', H', acc', by simp only [Sem.run, hc, hv]; exact hr, r⟩
        | _ => exact h.elim
    | .rv i g :: acc, h =>
      simp only [symW] at h
      cases hs : H i with
      | free => rw [hs] at h; exact h.elim
      | par _ _ A => rw [hs] at h; exact h.elim
      | blk b o =>
        rw [hs] at h
        cases o with
        | cells c t f =>
          obtain ⟨hb, hsp, hv, h⟩ := h
          have hc := cell_of_block (w := w) (a := a) (by rw [hb]; exact ho.block hs) hsp
          obtain ⟨x, w', H', acc', hr, r⟩ := ih _ acc H K R w h ho
          exact ⟨x, w', H', acc', by simp only [Sem.run, hc, hv]; exact hr, r⟩
        | _ => exact h.elim
    | .wr _ :: _, h | .ws _ :: _, h | .nw _ :: _, h | .ch :: _, h | [], h => exact h.elim
  | store m a v k ih =>
    intro acc H K R w h ho
    have go : ∀ (i : Nat) (acc : List Acc) (b : Nat) (c : Array Value) (t : TypeId) (f : Nat × Nat), H i = .blk b (.cells c t f) → a.block = b → a.spot = none → notAgg v = true → a.off < c.size → frz f a.off = false →
        symW P k acc (upd H i (.blk b (.cells (c.setIfInBounds a.off v) t f))) K → ∃ a_1 w' H' acc', (Sem.store m a v k).run P w = .ok a_1 w' ∧ K a_1 H' acc' ∧ Own H' R w' ∧ Ext w w' := by
      intro i acc b c t f hs hb hsp hv hlt hf h
      have hblk : w.heap[a.block]? = some (.cells c t f) := by rw [hb]; exact ho.block hs
      have hc := cell_of_block hblk hsp
      have hfz : w.frozen? a = false := by rw [frozen_of_block hblk]; exact hf
      have hv' : c[a.off]? = some c[a.off] := Array.getElem?_eq_getElem hlt
      have hset : (w.setCell a v).heap[b]? = some (.cells (c.setIfInBounds a.off v) t f) := by
        simp only [World.setCell, hb]
        rw [heap_modify_same _ (by rw [← hb]; exact hblk)]
        simp [hsp]
      have hoth : ∀ x, x ≠ b → (w.setCell a v).heap[x]? = w.heap[x]? := fun x hx => by
        simp only [World.setCell, hb]
        exact heap_modify_other _ hx
      obtain ⟨x, w', H', acc', hr, hk, ho', he⟩ := ih acc _ K R _ h (ho.set hs hset hoth)
      refine ⟨x, w', H', acc', ?_, hk, ho', ?_⟩
      · cases v <;> simp [notAgg] at hv <;> simp only [Sem.run, hc, hv', hfz, Bool.false_eq_true, if_false] <;> exact hr
      · exact Ext.trans (b := w.setCell a v) ⟨rfl, rfl, rfl, by simp [World.setCell]⟩ he
    match acc, h with
    | .wr i :: acc, h =>
      simp only [symW] at h
      cases hv : notAgg v with
      | false => rw [hv] at h; exact h.elim
      | true =>
        rw [hv] at h
        cases hs : H i with
        | free => rw [hs] at h; exact h.elim
        | par _ _ A => rw [hs] at h; exact h.elim
        | blk b o =>
          rw [hs] at h
          cases o with
          | cells c t f =>
            obtain ⟨hb, hsp, h⟩ := h
            cases hl : Nat.blt a.off c.size with
            | false => rw [hl] at h; exact h.elim
            | true =>
              cases hf : frz f a.off with
              | true => rw [hl, hf] at h; exact h.elim
              | false =>
                rw [hl, hf] at h
                exact go i acc b c t f hs hb hsp hv (by simpa [Nat.blt_eq] using hl) hf h
          | _ => exact h.elim
    | .ws i :: acc, h =>
      simp only [symW] at h
      cases hs : H i with
      | free => rw [hs] at h; exact h.elim
      | par _ _ A => rw [hs] at h; exact h.elim
      | blk b o =>
        rw [hs] at h
        cases o with
        | cells c t f =>
          obtain ⟨hb, hsp, hv, hlt, hf, h⟩ := h
          exact go i acc b c t f hs hb hsp hv hlt hf h
        | _ => exact h.elim
    | .rd _ :: _, h | .rv _ _ :: _, h | .nw _ :: _, h | .ch :: _, h | [], h => cases v <;> exact h.elim
  | new o k ih =>
    intro acc H K R w h ho
    match acc, h with
    | .nw i :: acc, h =>
      simp only [symW] at h
      have hnew : ({ w with heap := w.heap.push o } : World).heap[w.heap.size]? = some o := by simp
      obtain ⟨x, w', H', acc', hr, hk, ho', he⟩ := ih w.heap.size acc _ K R { w with heap := w.heap.push o } (h w.heap.size)
        (ho.new hnew (fun c hc => by simp only; rw [Array.getElem?_push, if_neg (by omega)]))
      exact ⟨x, w', H', acc', by simp only [Sem.run]; exact hr, hk, ho', Ext.trans (b := { w with heap := w.heap.push o }) ⟨rfl, rfl, rfl, by simp⟩ he⟩
    | .rd _ :: _, h | .rv _ _ :: _, h | .wr _ :: _, h | .ws _ :: _, h | .ch :: _, h | [], h => exact h.elim
  | shape r k ih =>
    intro acc H K R w h ho
    match acc, h with
    | .rd i :: acc, h =>
      simp only [symW] at h
      cases hs : H i with
      | free => rw [hs] at h; exact h.elim
      | par _ _ A => rw [hs] at h; exact h.elim
      | blk b o =>
        rw [hs] at h
        obtain ⟨rfl, h⟩ := h
        obtain ⟨x, w', H', acc', hr, q⟩ := ih _ acc H K R w h ho
        refine ⟨x, w', H', acc', ?_, q⟩
        have : w.shape? r = shapeOf o := by simp only [World.shape?, ho.block hs]; cases o <;> rfl
        simp only [Sem.run, this]; exact hr
    | .rv _ _ :: _, h | .wr _ :: _, h | .ws _ :: _, h | .nw _ :: _, h | .ch :: _, h | [], h => exact h.elim
  | freeze a n k ih =>
    intro acc H K R w h ho
    match acc, h with
    | .wr i :: acc, h =>
      simp only [symW] at h
      cases hs : H i with
      | free => rw [hs] at h; exact h.elim
      | par _ _ A => rw [hs] at h; exact h.elim
      | blk b o =>
        rw [hs] at h
        obtain ⟨hb, h⟩ := h
        have hblk := ho.block hs
        have hown : Own (upd H i (.blk b (frozenObj a n o))) R (w.freeze a n) := by
          refine ho.set hs ?_ ?_
          · unfold World.freeze frozenObj
            split
            · exact hblk
            · simp only [hb]; rw [heap_modify_same _ hblk]; cases o <;> rfl
          · intro c hc
            unfold World.freeze
            split
            · rfl
            · simp only [hb]; exact heap_modify_other _ hc
        obtain ⟨x, w', H', acc', hr, hk, ho', he⟩ := ih acc _ K R _ h hown
        refine ⟨x, w', H', acc', by simp only [Sem.run]; exact hr, hk, ho', Ext.trans ?_ he⟩
        unfold World.freeze
        split
        · exact .refl _
        · exact ⟨rfl, rfl, rfl, by simp⟩
    | .rd _ :: _, h | .rv _ _ :: _, h | .ws _ :: _, h | .nw _ :: _, h | .ch :: _, h | [], h => exact h.elim
  | frozen a k ih =>
    intro acc H K R w h ho
    match acc, h with
    | .rd i :: acc, h =>
      simp only [symW] at h
      cases hs : H i with
      | free => rw [hs] at h; exact h.elim
      | par _ _ A => rw [hs] at h; exact h.elim
      | blk b o =>
        rw [hs] at h
        obtain ⟨hb, h⟩ := h
        obtain ⟨x, w', H', acc', hr, q⟩ := ih _ acc H K R w h ho
        refine ⟨x, w', H', acc', ?_, q⟩
        have : w.frozen? a = frozenAt o a.off := frozen_of_block (by rw [hb]; exact ho.block hs)
        simp only [Sem.run, this]; exact hr
    | .rv _ _ :: _, h | .wr _ :: _, h | .ws _ :: _, h | .nw _ :: _, h | .ch :: _, h | [], h => exact h.elim
  | getObj r k ih =>
    intro acc H K R w h ho
    match acc, h with
    | .rd i :: acc, h =>
      simp only [symW] at h
      cases hs : H i with
      | free => rw [hs] at h; exact h.elim
      | par _ _ A => rw [hs] at h; exact h.elim
      | blk b o =>
        rw [hs] at h
        obtain ⟨rfl, h⟩ := h
        have hblk := ho.block hs
        cases hc : isCells o with
        | true => rw [hc] at h; exact h.elim
        | false =>
          rw [hc] at h
          obtain ⟨x, w', H', acc', hr, q⟩ := ih _ acc H K R w h ho
          refine ⟨x, w', H', acc', ?_, q⟩
          cases o <;> simp [isCells] at hc <;> simp only [Sem.run, hblk] <;> exact hr
    | .rv _ _ :: _, h | .wr _ :: _, h | .ws _ :: _, h | .nw _ :: _, h | .ch :: _, h | [], h => exact h.elim
  | setObj r o k ih =>
    intro acc H K R w h ho
    match acc, h with
    | .wr i :: acc, h =>
      simp only [symW] at h
      cases hs : H i with
      | free => rw [hs] at h; exact h.elim
      | par _ _ A => rw [hs] at h; exact h.elim
      | blk b o' =>
        rw [hs] at h
        obtain ⟨rfl, h⟩ := h
        have hblk := ho.block hs
        cases hc : isCells o' with
        | true => rw [hc] at h; exact h.elim
        | false =>
          rw [hc] at h
          have hlt : r < w.heap.size := by
            rcases Nat.lt_or_ge r w.heap.size with h | h
            · exact h
            · simp [Array.getElem?_eq_none h] at hblk
          obtain ⟨x, w', H', acc', hr, hk, ho', he⟩ := ih acc _ K R { w with heap := w.heap.setIfInBounds r o } h
            (ho.set hs (by simp [hlt]) (fun c hcr => by simp [Ne.symm hcr]))
          refine ⟨x, w', H', acc', ?_, hk, ho', Ext.trans (b := { w with heap := w.heap.setIfInBounds r o }) ⟨rfl, rfl, rfl, by simp⟩ he⟩
          cases o' <;> simp [isCells] at hc <;> simp only [Sem.run, hblk] <;> exact hr
    | .rd _ :: _, h | .rv _ _ :: _, h | .ws _ :: _, h | .nw _ :: _, h | .ch :: _, h | [], h => exact h.elim
  | choose q k ih =>
    intro acc H K R w h ho
    match acc, h with
    | .ch :: acc, h =>
      simp only [symW] at h
      cases hf : q.forced with
      | true =>
        obtain ⟨x, w', H', acc', hr, r⟩ := ih 0 acc H K R w (h 0 (fun _ => rfl) (fun e => by rw [hf] at e; cases e)) ho
        exact ⟨x, w', H', acc', by simp only [Sem.run, hf, if_true]; exact hr, r⟩
      | false =>
        obtain ⟨x, w', H', acc', hr, hk, ho', he⟩ := ih (q.cut (w.tape w.drawn q)) acc H K R { w with drawn := w.drawn + 1 } (h _ (fun e => by rw [hf] at e; cases e) (fun _ => ⟨_, rfl⟩)) (ho.same fun _ _ hb => hb)
        exact ⟨x, w', H', acc', by simp only [Sem.run, hf, Bool.false_eq_true, if_false]; exact hr, hk, ho', Ext.trans (b := { w with drawn := w.drawn + 1 }) ⟨rfl, rfl, rfl, Nat.le_refl _⟩ he⟩
    | .rd _ :: _, h | .rv _ _ :: _, h | .wr _ :: _, h | .ws _ :: _, h | .nw _ :: _, h | [], h => exact h.elim
  | sys c k ih => intro acc H K R w h ho; cases acc <;> exact h.elim
  | program k ih =>
    intro acc H K R w h ho
    have h' : symW P (k P) acc H K := by cases acc <;> exact h
    obtain ⟨x, w', H', acc', hr, r⟩ := ih P acc H K R w h' ho
    exact ⟨x, w', H', acc', by simp only [Sem.run]; exact hr, r⟩
  | mark m k ih =>
    intro acc H K R w h ho
    have h' : symW P k acc H K := by cases acc <;> exact h
    obtain ⟨x, w', H', acc', hr, r⟩ := ih acc H K R w h' ho
    exact ⟨x, w', H', acc', by simp only [Sem.run]; exact hr, r⟩
  | halt h => intro acc H K R w h ho; cases acc <;> exact h.elim
end Go.Sx
