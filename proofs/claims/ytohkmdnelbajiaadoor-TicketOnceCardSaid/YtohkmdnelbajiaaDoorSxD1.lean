/- The caller's memory: slices that are read there. -/
import Derived.Test.YtohkmdnelbajiaaDoorSxB13
set_option linter.unusedVariables false
set_option linter.unusedSimpArgs false
namespace Go.Sx
open Go.RowKit
/-- v is a slice of w's memory; its elements, n cells each, are es. -/
structure Sl (w : World) (n : Nat) (v : Value) (es : List (List Value)) : Prop where
  len : vlen v = es.length
  form : v = .slice none 0 0 ∨ ∃ a len cap, v = .slice (some a) len cap
  get : ∀ i e, es[i]? = some e → ∃ a len cap, v = .slice (some a) len cap ∧ a.spot = none ∧ e.length = n ∧ ∀ j c, e[j]? = some c → w.cell? ⟨a.block, a.off + i * n + j, none⟩ = some c
def swld (s : Slot) : World := match s with | .par _ (.wld w) _ => w | _ => default
theorem old_inj {w w' : World} (h : old w = old w') : w = w' := by
  unfold old at h; injection h with _ h _; injection h
theorem heap_of_old {w w' : World} (h : old w = old w') : ∀ i : Nat, w.heap[i]? = w'.heap[i]? := by rw [old_inj h]; exact fun _ => rfl
theorem cell_of_heap {w w' : World} (h : ∀ i : Nat, w.heap[i]? = w'.heap[i]?) (a : Addr) : w.cell? a = w'.cell? a := by
  simp only [World.cell?, h]
/-- What lies at an address, cell by cell. -/
def At (w : World) (p : Value) (cs : List Value) : Prop := ∃ a, p = .pointer (some a) ∧ ∀ j c, cs[j]? = some c → w.cell? ⟨a.block, a.off + j, none⟩ = some c
def F_old {X : Type} (val : X → Value) (Ok : X → Prop) : List Value → List Slot → Ctr := fun vs hs => ⟨X, val, fun _ => hs, fun zx => Ok zx ∧ ∃ w, sarg hs 0 = old w ∧ At w (varg vs 0) (val zx).cells.toList⟩
def f_oidx (n : Nat) : List Value → Value := fun vs => .pointer (some ⟨vblk (varg vs 0), voff (varg vs 0) + (ci (varg vs 1)).toNat * n, none⟩)
structure ElT (P : Program) (t e : TypeId) (n : Nat) : Prop where
  und : P.underlying t = some (.slice e)
  size : ∀ w, (sizeOf e).run P w = .ok n w
theorem xolen {P : Program} {t e : TypeId} {n m : Nat} (h : ElT P t e n) {w : World} {v : Value} {es : List (List Value)} (hs : Sl w m v es) (ty : TypeId) : PureRun P (do pure (.value (← Builtin.len_ #[t] ty #[v]))) (.int .i64 ((vlen v : Nat) : Int)) := by
  intro w
  rcases hs.form with rfl | ⟨a, len, cap, rfl⟩ <;> simp [Builtin.len_, run_underlying h.und, vlen, goInt]
theorem xoidx {P : Program} {t e : TypeId} {n : Nat} (h : ElT P t e n) {w : World} {v : Value} {es : List (List Value)} (hs : Sl w n v es) (k : IntKind) (i : Int) (h0 : 0 ≤ i) (h1 : i < (es.length : Nat)) :
    PureRun P (do pure (.value (← Instr.indexAt t v (.int k i)))) (.pointer (some ⟨vblk v, voff v + i.toNat * n, none⟩)) := by
  intro w
  have hx : ∃ x, es[i.toNat]? = some x := ⟨es[i.toNat]'(by omega), List.getElem?_eq_getElem (by omega)⟩
  obtain ⟨x, hx⟩ := hx
  obtain ⟨a, len, cap, rfl, hsp, _⟩ := hs.get _ _ hx
  have hl := hs.len
  simp only [vlen] at hl
  have hc : 0 ≤ i ∧ i < (len : Int) := ⟨h0, by omega⟩
  obtain ⟨b, off, sp⟩ := a
  simp only at hsp; subst hsp
  simp [Instr.indexAt, run_underlying h.und, asIntOf, hc, h.size w, vblk, voff, Addr.add]
/-- How an element of type t is read: n cells, the value val x of some x with Ok x. -/
structure ElK (P : Program) (t : TypeId) (n : Nat) {X : Type} (val : X → Value) (Ok : X → Prop) : Prop where
  agg : ((∀ w, (isAgg t).run P w = .ok true w) ∧ ∀ x, ∃ cs, val x = .agg cs) ∨ ((∀ w, (isAgg t).run P w = .ok false w) ∧ ∀ x, (val x).cells = #[val x])
  size : ∀ w, (sizeOf t).run P w = .ok n w
  len : ∀ x, (val x).cells.toList.length = n
  inj : ∀ x y, Ok x → Ok y → (val x).cells.toList = (val y).cells.toList → x = y
/-- A slice of w's memory of elements that are read so. -/
structure SlX {X : Type} (w : World) (n : Nat) (val : X → Value) (Ok : X → Prop) (v : Value) (xs : List X) : Prop where
  sl : Sl w n v (xs.map fun x => (val x).cells.toList)
  ok : ∀ x ∈ xs, Ok x
theorem SlX.at {X : Type} {w : World} {n : Nat} {val : X → Value} {Ok : X → Prop} {v : Value} {xs : List X} (h : SlX w n val Ok v xs) {i : Nat} {x : X} (hx : xs[i]? = some x) :
    Ok x ∧ ∃ a len cap, v = .slice (some a) len cap ∧ a.spot = none ∧ ∀ j c, (val x).cells.toList[j]? = some c → w.cell? ⟨a.block, a.off + i * n + j, none⟩ = some c := by
  refine ⟨h.ok x (List.mem_of_getElem? hx), ?_⟩
  obtain ⟨a, len, cap, hv, hsp, _, hc⟩ := h.sl.get i ((val x).cells.toList) (by rw [List.getElem?_map, hx]; rfl)
  exact ⟨a, len, cap, hv, hsp, hc⟩
theorem SlX.vlen {X : Type} {w : World} {n : Nat} {val : X → Value} {Ok : X → Prop} {v : Value} {xs : List X} (h : SlX w n val Ok v xs) : vlen v = xs.length := by rw [h.sl.len, List.length_map]
theorem own_cell {w0 w : World} {R : HP} (h : Own (ofList [old w0]) R w) {a : Addr} {c : Value} (hc : w0.cell? a = some c) : w.cell? a = some c := by
  obtain ⟨p, q, hs, _, hp, _⟩ := h
  have h0 := hs 0
  simp only [ofList, old, List.getD_cons_zero, Slot.sat] at h0
  unfold World.cell? at hc ⊢
  cases ho : w0.heap[a.block]? with
  | none => rw [ho] at hc; cases hc
  | some o => rw [ho] at hc; rw [hp 0 a.block o (by rw [h0, ho])]; exact hc
theorem xold {P : Program} {t : TypeId} {n : Nat} {X : Type} {val : X → Value} {Ok : X → Prop} (K : ElK P t n val Ok) {w0 : World} {v : Value} {xs : List X} (h : SlX w0 n val Ok v xs) (i : Nat) {x : X} (hx : xs[i]? = some x) :
    OpT P (do pure (.value (← Instr.loadAt t (.pointer (some ⟨vblk v, voff v + i * n, none⟩))))) [old w0] X val (fun _ => [old w0])
      (fun zx => Ok zx ∧ ∃ w, old w0 = old w ∧ At w (.pointer (some ⟨vblk v, voff v + i * n, none⟩)) (val zx).cells.toList) := by
  intro R w ho
  obtain ⟨hok, a, len, cap, rfl, hsp, hc⟩ := h.at hx
  refine ⟨x, w, ⟨hok, w0, rfl, ⟨_, rfl, fun j c hj => hc j c hj⟩⟩, .inl ?_, ho, Ext.refl w⟩
  have hcell : ∀ j c, (val x).cells.toList[j]? = some c → w.cell? ((⟨a.block, a.off + i * n, none⟩ : Addr).add j) = some c := fun j c hj => by
    have := own_cell ho (hc j c hj)
    rcases Nat.eq_zero_or_pos j with rfl | hj0
    · simpa [Addr.add] using this
    · simpa [Addr.add, Nat.ne_of_gt hj0] using this
  simp only [vblk, voff]
  rcases K.agg with ⟨ha, hv⟩ | ⟨ha, hv⟩
  · obtain ⟨cs, hcs⟩ := hv x
    have hr := run_loadCells_list (P := P) w ⟨a.block, a.off + i * n, none⟩ (val x).cells.toList hcell
    rw [K.len x] at hr
    simp [Instr.loadAt, Instr.sureAddr, loadVar, Sem.run_bind, ha, K.size w, hr, hcs, Value.cells]
  · have h0 : w.cell? ⟨a.block, a.off + i * n, none⟩ = some (val x) := by
      have := hcell 0 (val x) (by rw [hv x]; rfl)
      simpa [Addr.add] using this
    simp [Instr.loadAt, Instr.sureAddr, loadVar, Sem.run_bind, ha, h0]
theorem wold {X : Type} {val : X → Value} {Ok : X → Prop} {n : Nat} {w0 : World} {v : Value} {xs : List X} (h : SlX w0 n val Ok v xs) (i : Nat) {x : X} (hx : xs[i]? = some x) :
    ∃ zx, (fun zx => Ok zx ∧ ∃ w, old w0 = old w ∧ At w (.pointer (some ⟨vblk v, voff v + i * n, none⟩)) (val zx).cells.toList) zx := by
  obtain ⟨hok, a, len, cap, rfl, hsp, hc⟩ := h.at hx
  exact ⟨x, hok, w0, rfl, ⟨_, rfl, fun j c hj => hc j c hj⟩⟩
theorem eold {P : Program} {t : TypeId} {X : Type} {val : X → Value} {Ok : X → Prop} {n : Nat} (K : ElK P t n val Ok) {w0 : World} {v : Value} {xs : List X} (h : SlX w0 n val Ok v xs) (i : Nat) {x : X} (hx : xs[i]? = some x) {zx : X}
    (hz : Ok zx ∧ ∃ w, old w0 = old w ∧ At w (.pointer (some ⟨vblk v, voff v + i * n, none⟩)) (val zx).cells.toList) : zx = x := by
  obtain ⟨hok, a, len, cap, rfl, hsp, hc⟩ := h.at hx
  obtain ⟨hok', w, hw, ⟨a', ha', hc'⟩⟩ := hz
  refine K.inj _ _ hok' hok ?_
  have hp := heap_of_old hw
  simp only [vblk, voff, Value.pointer.injEq, Option.some.injEq] at ha'
  subst ha'
  have e1 := K.len zx
  have e2 := K.len x
  apply List.ext_getElem?
  intro j
  rcases Nat.lt_or_ge j n with hj | hj
  · have k1 := hc' j _ (List.getElem?_eq_getElem (by omega))
    have k2 := hc j _ (List.getElem?_eq_getElem (by omega))
    rw [← cell_of_heap hp] at k1
    simp only at k1
    rw [k2] at k1
    rw [List.getElem?_eq_getElem (by omega), List.getElem?_eq_getElem (by omega)]
    exact k1.symm
  · rw [List.getElem?_eq_none (by omega), List.getElem?_eq_none (by omega)]
def gx {X : Type} [Inhabited X] (xs : List X) (i : Nat) : X := xs.getD i default
theorem gx_some {X : Type} [Inhabited X] {xs : List X} {i : Nat} (h : i < xs.length) : xs[i]? = some (gx xs i) := by
  unfold gx; rw [List.getD_eq_getElem?_getD, List.getElem?_eq_getElem h]; rfl
/-! ### What elements may be -/
theorem elK_int {P : Program} {t : TypeId} {k : IntKind} (ha : ∀ w, (isAgg t).run P w = .ok false w) (hs : ∀ w, (sizeOf t).run P w = .ok 1 w) (Ok : Int → Prop) : ElK P t 1 (Value.int k) Ok :=
  ⟨.inr ⟨ha, fun _ => rfl⟩, hs, fun _ => rfl, fun x y _ _ h => by simpa [Value.cells] using h⟩
theorem elK_bool {P : Program} {t : TypeId} (ha : ∀ w, (isAgg t).run P w = .ok false w) (hs : ∀ w, (sizeOf t).run P w = .ok 1 w) (Ok : Bool → Prop) : ElK P t 1 Value.bool Ok :=
  ⟨.inr ⟨ha, fun _ => rfl⟩, hs, fun _ => rfl, fun x y _ _ h => by simpa [Value.cells] using h⟩
theorem elK_num {P : Program} {t : TypeId} (ha : ∀ w, (isAgg t).run P w = .ok true w) (hs : ∀ w, (sizeOf t).run P w = .ok 4 w) : ElK P t 4 vI R4 :=
  ⟨.inl ⟨ha, fun x => ⟨_, rfl⟩⟩, hs, fun _ => rfl, fun x y hx hy h => by
    have e : vI x = vI y := congrArg (fun l : List Value => Value.agg l.toArray) h
    have := congrArg num e
    rwa [num_vI hx, num_vI hy] at this⟩
end Go.Sx
