/- A part of the prover's own frame for walking code (see the claim's other texts). -/
import Derived.Test.YtmikgnjocfcekaaF2
import Derived.Test.YtmikgnjocfcekaaF3
import Derived.WideKeyArr2
import Derived.OpenShut
import Derived.RowKitTokens
import Derived.Carry
set_option linter.unusedVariables false
set_option linter.unusedSimpArgs false
namespace Go.Sx
open Go.RowKit
/-- v is a slice of w's memory; its elements, n cells each, are es. -/
structure Sl (w : World) (n : Nat) (v : Value) (es : List (List Value)) : Prop where
  len : vlen v = es.length
  form : v = .slice none 0 0 ∨ ∃ a len cap, v = .slice (some a) len cap
  get : ∀ i e, es[i]? = some e → ∃ a len cap, v = .slice (some a) len cap ∧ a.spot = none ∧ e.length = n ∧ ∀ j c, e[j]? = some c → w.cell? ⟨a.block, a.off + i * n + j, none⟩ = some c
def swld (s : Slot) : World := match s with | .par _ (.wld w) _ => w | _ => default
theorem old_inj {w w' : World} (h : old w = old w') : w = w' := by
  unfold old at h; injection h with _ h _; injection h
theorem heap_of_old {w w' : World} (h : old w = old w') : ∀ i : Nat, w.heap[i]? = w'.heap[i]? := by rw [old_inj h]; exact fun _ => rfl
theorem cell_of_heap {w w' : World} (h : ∀ i : Nat, w.heap[i]? = w'.heap[i]?) (a : Addr) : w.cell? a = w'.cell? a := by
  simp only [World.cell?, h]
/-- What lies at an address, cell by cell. -/
def At (w : World) (p : Value) (cs : List Value) : Prop := ∃ a, p = .pointer (some a) ∧ ∀ j c, cs[j]? = some c → w.cell? ⟨a.block, a.off + j, none⟩ = some c
def F_old {X : Type} (val : X → Value) (Ok : X → Prop) : List Value → List Slot → Ctr := fun vs hs => ⟨X, val, fun _ => hs, fun zx => Ok zx ∧ ∃ w, sarg hs 0 = old w ∧ At w (varg vs 0) (val zx).cells.toList⟩
def f_oidx (n : Nat) : List Value → Value := fun vs => .pointer (some ⟨vblk (varg vs 0), voff (varg vs 0) + (ci (varg vs 1)).toNat * n, none⟩)
structure ElT (P : Program) (t e : TypeId) (n : Nat) : Prop where
  und : P.underlying t = some (.slice e)
  size : ∀ w, (sizeOf e).run P w = .ok n w
theorem xolen {P : Program} {t e : TypeId} {n m : Nat} (h : ElT P t e n) {w : World} {v : Value} {es : List (List Value)} (hs : Sl w m v es) (ty : TypeId) : PureRun P (do pure (.value (← Builtin.len_ #[t] ty #[v]))) (.int .i64 ((vlen v : Nat) : Int)) := by
  intro w
  rcases hs.form with rfl | ⟨a, len, cap, rfl⟩ <;> simp [Builtin.len_, run_underlying h.und, vlen, goInt]
theorem xoidx {P : Program} {t e : TypeId} {n : Nat} (h : ElT P t e n) {w : World} {v : Value} {es : List (List Value)} (hs : Sl w n v es) (k : IntKind) (i : Int) (h0 : 0 ≤ i) (h1 : i < (es.length : Nat)) :
    PureRun P (do pure (.value (← Instr.indexAt t v (.int k i)))) (.pointer (some ⟨vblk v, voff v + i.toNat * n, none⟩)) := by
  intro w
  have hx : ∃ x, es[i.toNat]? = some x := ⟨es[i.toNat]'(by omega), List.getElem?_eq_getElem (by omega)⟩
  obtain ⟨x, hx⟩ := hx
  obtain ⟨a, len, cap, rfl, hsp, _⟩ := hs.get _ _ hx
  have hl := hs.len
  simp only [vlen] at hl
  have hc : 0 ≤ i ∧ i < (len : Int) := ⟨h0, by omega⟩
  obtain ⟨b, off, sp⟩ := a
  simp only at hsp; subst hsp
  simp [Instr.indexAt, run_underlying h.und, asIntOf, hc, h.size w, vblk, voff, Addr.add]
/-- How an element of type t is read: n cells, the value val x of some x with Ok x. -/
structure ElK (P : Program) (t : TypeId) (n : Nat) {X : Type} (val : X → Value) (Ok : X → Prop) : Prop where
  agg : ((∀ w, (isAgg t).run P w = .ok true w) ∧ ∀ x, ∃ cs, val x = .agg cs) ∨ ((∀ w, (isAgg t).run P w = .ok false w) ∧ ∀ x, (val x).cells = #[val x])
  size : ∀ w, (sizeOf t).run P w = .ok n w
  len : ∀ x, (val x).cells.toList.length = n
  inj : ∀ x y, Ok x → Ok y → (val x).cells.toList = (val y).cells.toList → x = y
/-- A slice of w's memory of elements that are read so. -/
structure SlX {X : Type} (w : World) (n : Nat) (val : X → Value) (Ok : X → Prop) (v : Value) (xs : List X) : Prop where
  sl : Sl w n v (xs.map fun x => (val x).cells.toList)
  ok : ∀ x ∈ xs, Ok x
theorem SlX.at {X : Type} {w : World} {n : Nat} {val : X → Value} {Ok : X → Prop} {v : Value} {xs : List X} (h : SlX w n val Ok v xs) {i : Nat} {x : X} (hx : xs[i]? = some x) :
    Ok x ∧ ∃ a len cap, v = .slice (some a) len cap ∧ a.spot = none ∧ ∀ j c, (val x).cells.toList[j]? = some c → w.cell? ⟨a.block, a.off + i * n + j, none⟩ = some c := by
  refine ⟨h.ok x (List.mem_of_getElem? hx), ?_⟩
  obtain ⟨a, len, cap, hv, hsp, _, hc⟩ := h.sl.get i ((val x).cells.toList) (by rw [List.getElem?_map, hx]; rfl)
  exact ⟨a, len, cap, hv, hsp, hc⟩
theorem SlX.vlen {X : Type} {w : World} {n : Nat} {val : X → Value} {Ok : X → Prop} {v : Value} {xs : List X} (h : SlX w n val Ok v xs) : vlen v = xs.length := by rw [h.sl.len, List.length_map]
theorem own_cell {w0 w : World} {R : HP} (h : Own (ofList [old w0]) R w) {a : Addr} {c : Value} (hc : w0.cell? a = some c) : w.cell? a = some c := by
  obtain ⟨p, q, hs, _, hp, _⟩ := h
  have h0 := hs 0
  simp only [ofList, old, List.getD_cons_zero, Slot.sat] at h0
  unfold World.cell? at hc ⊢
  cases ho : w0.heap[a.block]? with
  | none => rw [ho] at hc; cases hc
  | some o => rw [ho] at hc; rw [hp 0 a.block o (by rw [h0, ho])]; exact hc
theorem xold {P : Program} {t : TypeId} {n : Nat} {X : Type} {val : X → Value} {Ok : X → Prop} (K : ElK P t n val Ok) {w0 : World} {v : Value} {xs : List X} (h : SlX w0 n val Ok v xs) (i : Nat) {x : X} (hx : xs[i]? = some x) :
    OpT P (do pure (.value (← Instr.loadAt t (.pointer (some ⟨vblk v, voff v + i * n, none⟩))))) [old w0] X val (fun _ => [old w0])
      (fun zx => Ok zx ∧ ∃ w, old w0 = old w ∧ At w (.pointer (some ⟨vblk v, voff v + i * n, none⟩)) (val zx).cells.toList) := by
  intro R w ho
  obtain ⟨hok, a, len, cap, rfl, hsp, hc⟩ := h.at hx
  refine ⟨x, w, ⟨hok, w0, rfl, ⟨_, rfl, fun j c hj => hc j c hj⟩⟩, .inl ?_, ho, Ext.refl w⟩
  have hcell : ∀ j c, (val x).cells.toList[j]? = some c → w.cell? ((⟨a.block, a.off + i * n, none⟩ : Addr).add j) = some c := fun j c hj => by
    have := own_cell ho (hc j c hj)
    rcases Nat.eq_zero_or_pos j with rfl | hj0
    · simpa [Addr.add] using this
    · simpa [Addr.add, Nat.ne_of_gt hj0] using this
  simp only [vblk, voff]
  rcases K.agg with ⟨ha, hv⟩ | ⟨ha, hv⟩
  · obtain ⟨cs, hcs⟩ := hv x
    have hr := run_loadCells_list (P := P) w ⟨a.block, a.off + i * n, none⟩ (val x).cells.toList hcell
    rw [K.len x] at hr
    simp [Instr.loadAt, Instr.sureAddr, loadVar, Sem.run_bind, ha, K.size w, hr, hcs, Value.cells]
  · have h0 : w.cell? ⟨a.block, a.off + i * n, none⟩ = some (val x) := by
      have := hcell 0 (val x) (by rw [hv x]; rfl)
      simpa [Addr.add] using this
    simp [Instr.loadAt, Instr.sureAddr, loadVar, Sem.run_bind, ha, h0]
theorem wold {X : Type} {val : X → Value} {Ok : X → Prop} {n : Nat} {w0 : World} {v : Value} {xs : List X} (h : SlX w0 n val Ok v xs) (i : Nat) {x : X} (hx : xs[i]? = some x) :
    ∃ zx, (fun zx => Ok zx ∧ ∃ w, old w0 = old w ∧ At w (.pointer (some ⟨vblk v, voff v + i * n, none⟩)) (val zx).cells.toList) zx := by
  obtain ⟨hok, a, len, cap, rfl, hsp, hc⟩ := h.at hx
  exact ⟨x, hok, w0, rfl, ⟨_, rfl, fun j c hj => hc j c hj⟩⟩
theorem eold {P : Program} {t : TypeId} {X : Type} {val : X → Value} {Ok : X → Prop} {n : Nat} (K : ElK P t n val Ok) {w0 : World} {v : Value} {xs : List X} (h : SlX w0 n val Ok v xs) (i : Nat) {x : X} (hx : xs[i]? = some x) {zx : X}
    (hz : Ok zx ∧ ∃ w, old w0 = old w ∧ At w (.pointer (some ⟨vblk v, voff v + i * n, none⟩)) (val zx).cells.toList) : zx = x := by
  obtain ⟨hok, a, len, cap, rfl, hsp, hc⟩ := h.at hx
  obtain ⟨hok', w, hw, ⟨a', ha', hc'⟩⟩ := hz
  refine K.inj _ _ hok' hok ?_
  have hp := heap_of_old hw
  simp only [vblk, voff, Value.pointer.injEq, Option.some.injEq] at ha'
  subst ha'
  have e1 := K.len zx
  have e2 := K.len x
  apply List.ext_getElem?
  intro j
  rcases Nat.lt_or_ge j n with hj | hj
  · have k1 := hc' j _ (List.getElem?_eq_getElem (by omega))
    have k2 := hc j _ (List.getElem?_eq_getElem (by omega))
    rw [← cell_of_heap hp] at k1
    simp only at k1
    rw [k2] at k1
    rw [List.getElem?_eq_getElem (by omega), List.getElem?_eq_getElem (by omega)]
    exact k1.symm
  · rw [List.getElem?_eq_none (by omega), List.getElem?_eq_none (by omega)]
def gx {X : Type} [Inhabited X] (xs : List X) (i : Nat) : X := xs.getD i default
theorem gx_some {X : Type} [Inhabited X] {xs : List X} {i : Nat} (h : i < xs.length) : xs[i]? = some (gx xs i) := by
  unfold gx; rw [List.getD_eq_getElem?_getD, List.getElem?_eq_getElem h]; rfl
/-! ### What elements may be -/
theorem elK_int {P : Program} {t : TypeId} {k : IntKind} (ha : ∀ w, (isAgg t).run P w = .ok false w) (hs : ∀ w, (sizeOf t).run P w = .ok 1 w) (Ok : Int → Prop) : ElK P t 1 (Value.int k) Ok :=
  ⟨.inr ⟨ha, fun _ => rfl⟩, hs, fun _ => rfl, fun x y _ _ h => by simpa [Value.cells] using h⟩
theorem elK_bool {P : Program} {t : TypeId} (ha : ∀ w, (isAgg t).run P w = .ok false w) (hs : ∀ w, (sizeOf t).run P w = .ok 1 w) (Ok : Bool → Prop) : ElK P t 1 Value.bool Ok :=
  ⟨.inr ⟨ha, fun _ => rfl⟩, hs, fun _ => rfl, fun x y _ _ h => by simpa [Value.cells] using h⟩
theorem elK_num {P : Program} {t : TypeId} (ha : ∀ w, (isAgg t).run P w = .ok true w) (hs : ∀ w, (sizeOf t).run P w = .ok 4 w) : ElK P t 4 vI R4 :=
  ⟨.inl ⟨ha, fun x => ⟨_, rfl⟩⟩, hs, fun _ => rfl, fun x y hx hy h => by
    have e : vI x = vI y := congrArg (fun l : List Value => Value.agg l.toArray) h
    have := congrArg num e
    rwa [num_vI hx, num_vI hy] at this⟩
end Go.Sx

namespace Go.Sx
def nv : List Int → Int
  | [] => 0
  | d :: l => d + 65536 * nv l
def Dig (l : List Int) : Prop := ∀ d ∈ l, 0 ≤ d ∧ d < 65536
def dgt (l : List Int) (i : Nat) : Int := l.getD i 0
def Canon (l : List Int) : Prop := l.getLast? ≠ some 0
def P16 (n : Nat) : Int := 65536 ^ n
theorem P16_zero : P16 0 = 1 := rfl
theorem P16_succ (n : Nat) : P16 (n + 1) = 65536 * P16 n := by unfold P16; rw [Int.pow_succ, Int.mul_comm]
theorem P16_pos (n : Nat) : 0 < P16 n := Int.pow_pos (by decide)
theorem P16_add (m n : Nat) : P16 (m + n) = P16 m * P16 n := Int.pow_add ..
theorem P16_mono {m n : Nat} (h : m ≤ n) : P16 m ≤ P16 n := by
  obtain ⟨k, rfl⟩ := Nat.exists_eq_add_of_le h
  have := Int.mul_le_mul_of_nonneg_left (Int.add_one_le_of_lt (P16_pos k)) (Int.le_of_lt (P16_pos m))
  rw [P16_add]; simpa using this
theorem Dig.nil : Dig [] := fun _ h => by cases h
theorem Dig.tail {d : Int} {l : List Int} (h : Dig (d :: l)) : Dig l := fun x hx => h x (.tail _ hx)
theorem Dig.head {d : Int} {l : List Int} (h : Dig (d :: l)) : 0 ≤ d ∧ d < 65536 := h d (.head _)
theorem Dig.append {l m : List Int} (h : Dig l) (k : Dig m) : Dig (l ++ m) := fun x hx => (List.mem_append.1 hx).elim (h x) (k x)
theorem Dig.take {l : List Int} (h : Dig l) (n : Nat) : Dig (l.take n) := fun x hx => h x (List.mem_of_mem_take hx)
theorem Dig.drop {l : List Int} (h : Dig l) (n : Nat) : Dig (l.drop n) := fun x hx => h x (List.mem_of_mem_drop hx)
theorem Dig.one {x : Int} (h0 : 0 ≤ x) (h1 : x < 65536) : Dig [x] := fun d hd => by simp at hd; subst hd; exact ⟨h0, h1⟩
theorem Dig.set {l : List Int} (h : Dig l) (n : Nat) {x : Int} (h0 : 0 ≤ x) (h1 : x < 65536) : Dig (l.set n x) := fun d hd => by
  rcases List.mem_or_eq_of_mem_set hd with h' | h'
  · exact h d h'
  · subst h'; exact ⟨h0, h1⟩
theorem Dig.replicate (n : Nat) : Dig (List.replicate n 0) := fun d hd => by have := (List.mem_replicate.1 hd).2; subst this; exact ⟨by decide, by decide⟩
theorem Dig.dgt {l : List Int} (h : Dig l) (i : Nat) : 0 ≤ dgt l i ∧ dgt l i < 65536 := by
  unfold Sx.dgt
  rw [List.getD_eq_getElem?_getD]
  cases hx : l[i]? with
  | none => exact ⟨by decide, by decide⟩
  | some x => exact h x (List.mem_of_getElem? hx)
theorem nv_nonneg : ∀ {l : List Int}, Dig l → 0 ≤ nv l
  | [], _ => Int.le_refl _
  | d :: l, h => by have := nv_nonneg h.tail; have := h.head; simp only [nv]; omega
theorem nv_lt : ∀ {l : List Int}, Dig l → nv l < P16 l.length
  | [], _ => by decide
  | d :: l, h => by have := nv_lt h.tail; have := h.head; simp only [nv, List.length_cons, P16_succ]; omega
theorem nv_append : ∀ (l m : List Int), nv (l ++ m) = nv l + P16 l.length * nv m
  | [], m => by simp [nv, P16_zero]
  | d :: l, m => by simp only [List.cons_append, nv, nv_append l m, List.length_cons, P16_succ, Int.mul_add, Int.mul_assoc]; omega
theorem nv_snoc (l : List Int) (x : Int) : nv (l ++ [x]) = nv l + P16 l.length * x := by rw [nv_append]; simp [nv]
theorem nv_split (l : List Int) (n : Nat) (h : n ≤ l.length) : nv l = nv (l.take n) + P16 n * nv (l.drop n) := by
  conv => lhs; rw [← List.take_append_drop n l]
  rw [nv_append, List.length_take, Nat.min_eq_left h]
theorem take_succ_dgt (l : List Int) (i : Nat) (h : i < l.length) : l.take (i + 1) = l.take i ++ [dgt l i] := by
  rw [List.take_add_one, dgt, List.getD_eq_getElem?_getD, List.getElem?_eq_getElem h]; rfl
theorem nv_take_succ (l : List Int) (i : Nat) : nv (l.take (i + 1)) = nv (l.take i) + P16 i * dgt l i := by
  rcases Nat.lt_or_ge i l.length with h | h
  · rw [take_succ_dgt l i h, nv_snoc, List.length_take, Nat.min_eq_left (by omega)]
  · rw [List.take_of_length_le h, List.take_of_length_le (by omega), dgt, List.getD_eq_getElem?_getD, List.getElem?_eq_none h]; simp
theorem nv_take_all (l : List Int) (i : Nat) (h : l.length ≤ i) : nv (l.take i) = nv l := by rw [List.take_of_length_le h]
theorem nv_drop_dgt (l : List Int) (i : Nat) : nv (l.drop i) = dgt l i + 65536 * nv (l.drop (i + 1)) := by
  rcases Nat.lt_or_ge i l.length with h | h
  · rw [List.drop_eq_getElem_cons h, nv, dgt, List.getD_eq_getElem?_getD, List.getElem?_eq_getElem h]; rfl
  · rw [List.drop_of_length_le h, List.drop_of_length_le (by omega), dgt, List.getD_eq_getElem?_getD, List.getElem?_eq_none h]; rfl
theorem nv_set : ∀ (l : List Int) (j : Nat) (x : Int), j < l.length → nv (l.set j x) = nv l + P16 j * (x - dgt l j)
  | [], j, x, h => by simp at h
  | d :: l, 0, x, _ => by simp [nv, dgt, P16_zero]; omega
  | d :: l, j + 1, x, h => by
    have ih := nv_set l j x (by simpa using h)
    have e : dgt (d :: l) (j + 1) = dgt l j := by simp [dgt]
    rw [List.set_cons_succ, nv, ih, e, nv, P16_succ, Int.mul_add, Int.mul_assoc]; omega
theorem nv_replicate : ∀ n : Nat, nv (List.replicate n 0) = 0
  | 0 => rfl
  | n + 1 => by rw [List.replicate_succ, nv, nv_replicate n]; rfl
theorem nv_zero : ∀ {l : List Int}, Dig l → nv l = 0 → Canon l → l = []
  | [], _, _, _ => rfl
  | d :: l, h, h0, hc => by
    exfalso
    have := nv_nonneg h.tail; have := h.head
    simp only [nv] at h0
    have hd : d = 0 := by omega
    have hl : nv l = 0 := by omega
    subst hd
    cases l with
    | nil => exact hc rfl
    | cons x l =>
      have := nv_zero h.tail hl (by simpa [Canon] using hc)
      cases this
theorem canon_len {l : List Int} (h : Dig l) (hc : Canon l) {k : Nat} (hk : nv l < P16 k) : l.length ≤ k := by
  rcases Nat.lt_or_ge k l.length with hlt | hge
  · exfalso
    have hs := nv_split l k (by omega)
    have a := nv_nonneg (h.take k)
    have b := nv_nonneg (h.drop k)
    have hp := P16_pos k
    have : nv (l.drop k) = 0 := by
      rcases Int.lt_or_le 0 (nv (l.drop k)) with h' | h'
      · have := Int.mul_le_mul_of_nonneg_left (Int.add_one_le_of_lt h') (Int.le_of_lt hp)
        simp at this; omega
      · omega
    have hd : Canon (l.drop k) := by
      unfold Canon at *
      rw [List.getLast?_drop, if_neg (by omega)]
      exact hc
    have := nv_zero (h.drop k) this hd
    have := congrArg List.length this
    simp at this; omega
  · exact hge
theorem canon_pos {l : List Int} (h : Dig l) (hc : Canon l) : (l.length = 0) ↔ nv l = 0 := by
  constructor
  · intro h'; rw [List.length_eq_zero_iff.1 h']; rfl
  · intro h'; rw [nv_zero h h' hc]; rfl
/-! ### Rows of digits -/
def dg (r : Row) : List Int := (vals r).map ci
def rdv (v : Value) (s : Slot) : List Int := (rvals v s).map ci
theorem rdv_eq (r : Row) (e : TypeId) : rdv (sv r) (ss e r) = dg r := by rw [rdv, rvals_eq, dg]
structure RowOK (r : Row) : Prop where
  int : vals r = (dg r).map (Value.int .i64)
  dig : Dig (dg r)
theorem dg_len (r : Row) : (dg r).length = (vals r).length := by simp [dg]
theorem vlen_dg (r : Row) : vlen (sv r) = (dg r).length := by rw [vlen_sv, dg_len]
theorem RowOK.get {r : Row} (h : RowOK r) {n : Nat} (hn : n < (dg r).length) : (vals r)[n]? = some (.int .i64 (dgt (dg r) n)) := by
  rw [h.int, List.getElem?_map, dgt, List.getD_eq_getElem?_getD, List.getElem?_eq_getElem hn]; rfl
theorem map_ci (l : List Int) : (l.map (Value.int .i64)).map ci = l := by rw [List.map_map]; exact List.map_id _
theorem RowOK.of {r : Row} {l : List Int} (h : vals r = l.map (Value.int .i64)) (hd : Dig l) : RowOK r ∧ dg r = l := by
  have e : dg r = l := by rw [dg, h, map_ci]
  exact ⟨⟨by rw [e]; exact h, by rw [e]; exact hd⟩, e⟩
theorem RowOK.nil : RowOK .nil := ⟨rfl, Dig.nil⟩
theorem RowOK.take {r : Row} (h : RowOK r) (n : Nat) : RowOK (r.take n) ∧ dg (r.take n) = (dg r).take n :=
  RowOK.of (by rw [vals_take, h.int, List.map_take]) (h.dig.take n)
theorem RowOK.set {r : Row} (h : RowOK r) (n : Nat) {x : Int} (h0 : 0 ≤ x) (h1 : x < 65536) : RowOK (r.set n (.int .i64 x)) ∧ dg (r.set n (.int .i64 x)) = (dg r).set n x :=
  RowOK.of (by rw [vals_set, h.int, List.map_set]) (h.dig.set n h0 h1)
theorem RowOK.snoc {r y : Row} (h : RowOK r) {x : Int} (h0 : 0 ≤ x) (h1 : x < 65536) (hy : vals y = vals r ++ [.int .i64 x]) : RowOK y ∧ dg y = dg r ++ [x] :=
  RowOK.of (by rw [hy, h.int, List.map_append]; rfl) (h.dig.append (Dig.one h0 h1))
theorem RowOK.zeros {y : Row} {n : Nat} (hy : vals y = List.replicate n (.int .i64 0)) : RowOK y ∧ dg y = List.replicate n 0 :=
  RowOK.of (by rw [hy, List.map_replicate]) (Dig.replicate n)
end Go.Sx
namespace Go.Sx
/-! ### The operations' families over rows of ints -/
def F_get : List Value → List Slot → Ctr := fun vs hs => ⟨Int, fun zx => .int .i64 zx, fun _ => hs, fun zx => (scells (sarg hs 0))[voff (varg vs 0)]? = some (.int .i64 zx)⟩
def F_put : List Value → List Slot → Ctr := fun vs hs => ⟨Unit, fun _ => .tuple #[], fun _ => [sset (sarg hs 0) (voff (varg vs 0)) (varg vs 1)], fun _ => True⟩
def F_app (e : TypeId) : List Value → List Slot → Ctr := fun vs hs => ⟨Row, fun y => sv y, fun y => [ss e y, sarg hs 1], fun y => vals y = rvals (varg vs 0) (sarg hs 0) ++ [scell (sarg hs 1) 0]⟩
def F_make (e : TypeId) (z : Value) : List Value → List Slot → Ctr := fun vs _ => ⟨Row, fun y => sv y, fun y => [ss e y], fun y => vals y = List.replicate (ci (varg vs 0)).toNat z⟩
theorem scells_ss (r : Row) (e : TypeId) (n : Nat) (h : n < (vals r).length) : (scells (ss e r))[n]? = (vals r)[n]? := by
  cases r with
  | nil => simp [vals] at h
  | mk b vs ex => simp only [vals] at h; simp [scells, ss, vals, List.getElem?_append_left h]
theorem getR {e : TypeId} (r : Row) (n : Nat) (h : RowOK r) (hn : n < (dg r).length) {x : Int} (hx : (scells (ss e r))[n]? = some (.int .i64 x)) : x = dgt (dg r) n := by
  rw [scells_ss r e n (by rw [← dg_len]; exact hn), h.get hn] at hx
  injection hx with hx; injection hx with _ hx; exact hx.symm
theorem wit_get {e : TypeId} (r : Row) (n : Nat) (h : RowOK r) (hn : n < (dg r).length) : ∃ x : Int, (fun zx => (scells (ss e r))[n]? = some (.int .i64 zx)) x :=
  ⟨dgt (dg r) n, by dsimp only; rw [scells_ss r e n (by rw [← dg_len]; exact hn), h.get hn]⟩
theorem xgetR {P : Program} {e : TypeId} (r : Row) (te : TypeId) (ha : ∀ w, (isAgg te).run P w = .ok false w) (n : Nat) (h : RowOK r) (hn : n < (dg r).length) :
    OpT P (do pure (.value (← Instr.loadAt te (.pointer (some ⟨vblk (sv r), n, none⟩))))) [ss e r] Int (fun zx => .int .i64 zx) (fun _ => [ss e r]) (fun zx => (scells (ss e r))[n]? = some (.int .i64 zx)) := by
  intro R w hO
  obtain ⟨_, w', _, hr, ho, he⟩ := xget (e := e) r te ha n _ (h.get hn) R w hO
  exact ⟨dgt (dg r) n, w', by rw [scells_ss r e n (by rw [← dg_len]; exact hn), h.get hn], hr, ho, he⟩
theorem xappendR {P : Program} {t e : TypeId} {z : Value} (h : SlT P t e z) (ty : TypeId) (r : Row) (hl : (dg r).length ≤ 1073741824) (c m : Nat) (x : Value) (h2 : x.oneCell' = true) :
    OpT P (do pure (.value (← Builtin.append_ #[t, t] ty #[sv r, .slice (some ⟨c, 0, none⟩) 1 m]))) [ss e r, .blk c (.cells #[x] e (0, 0))] Row (fun zx => sv zx) (fun zx => [ss e zx, .blk c (.cells #[x] e (0, 0))]) (fun zx => vals zx = rvals (sv r) (ss e r) ++ [x]) := by
  rw [rvals_eq]
  exact xappend h ty r (by rw [← dg_len]; exact hl) c m x h2
theorem wit_app (l : List Value) : ∃ y : Row, (fun zx => vals zx = l) y := ⟨.mk 0 l [], rfl⟩
theorem wit_make {e : TypeId} (n : Nat) (z : Value) : ∃ y : Row, (fun zx => vals zx = List.replicate n z) y := ⟨.mk 0 _ [], rfl⟩
theorem rowOK_lit (b : Nat) (l : List Int) (h : l.all (fun d => decide (0 ≤ d) && decide (d < 65536)) = true) : RowOK (.mk b (l.map (.int .i64)) []) :=
  (RowOK.of rfl (fun d hd => by have := (List.all_eq_true.1 h) d hd; simpa using this)).1
end Go.Sx

namespace Go.Sx
theorem dgt_out {l : List Int} {n : Nat} (h : l.length ≤ n) : dgt l n = 0 := by
  rw [dgt, List.getD_eq_getElem?_getD, List.getElem?_eq_none h]; rfl
/-! ### Trim -/
structure TrimR (l m : List Int) : Prop where
  eq : nv m = nv l
  canon : Canon m
  len : m.length ≤ l.length
structure TrimI (l : List Int) (n : Nat) : Prop where
  le : n ≤ l.length
  eq : nv (l.take n) = nv l
theorem trim_start (l : List Int) : TrimI l l.length := ⟨Nat.le_refl _, by rw [List.take_length]⟩
theorem trim_step {l : List Int} {n : Nat} (h : TrimI l n) (h0 : 0 < n) (hd : dgt l (n - 1) = 0) : TrimI l (n - 1) := by
  refine ⟨by have := h.le; omega, ?_⟩
  have e := nv_take_succ l (n - 1)
  rw [show n - 1 + 1 = n from by omega, hd, Int.mul_zero, Int.add_zero] at e
  rw [← e]; exact h.eq
theorem trim_end {l : List Int} {n : Nat} (h : TrimI l n) (hd : n = 0 ∨ dgt l (n - 1) ≠ 0) : TrimR l (l.take n) := by
  refine ⟨h.eq, ?_, by simp; have := h.le; omega⟩
  unfold Canon
  rcases hd with rfl | hd
  · simp
  · rcases Nat.eq_zero_or_pos n with rfl | hp
    · simp
    · have hl := h.le
      rw [List.getLast?_eq_getElem?, List.length_take, Nat.min_eq_left hl, List.getElem?_take_of_lt (by omega)]
      intro hx
      exact hd (by rw [dgt, List.getD_eq_getElem?_getD, hx]; rfl)
theorem wit_trim (a : Row) (h : RowOK a) : ∃ x : Row, (fun zx => RowOK zx ∧ ss 3 zx = ss 3 a ∧ TrimR (rdv (sv a) (ss 3 a)) (dg zx)) x := by
  rw [rdv_eq]
  have key : ∀ n, TrimI (dg a) n → ∃ m, TrimI (dg a) m ∧ (m = 0 ∨ dgt (dg a) (m - 1) ≠ 0) := by
    intro n
    induction n with
    | zero => exact fun h => ⟨0, h, .inl rfl⟩
    | succ n ih =>
      intro h
      rcases Classical.em (dgt (dg a) n = 0) with h' | h'
      · exact ih (trim_step h (by omega) h')
      · exact ⟨n + 1, h, .inr h'⟩
  obtain ⟨m, hm, he⟩ := key _ (trim_start _)
  refine ⟨a.take m, (h.take m).1, ss_take _ _ _, ?_⟩
  rw [(h.take m).2]
  exact trim_end hm he
/-! ### Cmp -/
structure CmpI (a b : List Int) (n : Nat) : Prop where
  le : n ≤ max a.length b.length
  eq : nv (a.drop n) = nv (b.drop n)
theorem cmp_start (a b : List Int) : CmpI a b (max a.length b.length) :=
  ⟨Nat.le_refl _, by rw [List.drop_of_length_le (by omega), List.drop_of_length_le (by omega)]⟩
theorem nv_split' (l : List Int) (n : Nat) : nv l = nv (l.take n) + P16 n * nv (l.drop n) := by
  rcases Nat.lt_or_ge l.length n with h | h
  · rw [List.take_of_length_le (by omega), List.drop_of_length_le (by omega)]; simp [nv]
  · exact nv_split l n h
theorem nv_take_lt {l : List Int} (h : Dig l) (n : Nat) : 0 ≤ nv (l.take n) ∧ nv (l.take n) < P16 n :=
  ⟨nv_nonneg (h.take n), Int.lt_of_lt_of_le (nv_lt (h.take n)) (P16_mono (by simp; omega))⟩
theorem cmp_step {a b : List Int} {n : Nat} (h : CmpI a b n) (h0 : 0 < n) (hd : dgt a (n - 1) = dgt b (n - 1)) : CmpI a b (n - 1) := by
  refine ⟨by have := h.le; omega, ?_⟩
  rw [nv_drop_dgt a, nv_drop_dgt b, hd, show n - 1 + 1 = n from by omega, h.eq]
theorem cmp_lt {a b : List Int} (ha : Dig a) (hb : Dig b) {n : Nat} (h : CmpI a b n) (h0 : 0 < n) (hd : dgt a (n - 1) < dgt b (n - 1)) : nv a < nv b := by
  have e1 := nv_split' a (n - 1); have e2 := nv_split' b (n - 1)
  rw [nv_drop_dgt a, show n - 1 + 1 = n from by omega] at e1
  rw [nv_drop_dgt b, show n - 1 + 1 = n from by omega, ← h.eq] at e2
  have t1 := nv_take_lt ha (n - 1); have t2 := nv_take_lt hb (n - 1)
  have hp := P16_pos (n - 1)
  have := Int.mul_le_mul_of_nonneg_left (show dgt a (n - 1) + 65536 * nv (a.drop n) + 1 ≤ dgt b (n - 1) + 65536 * nv (a.drop n) by omega) (Int.le_of_lt hp)
  rw [Int.mul_add] at this
  omega
theorem cmp_end {a b : List Int} (h : CmpI a b 0) : nv a = nv b := by simpa using h.eq
theorem CmpI.symm {a b : List Int} {n : Nat} (h : CmpI a b n) : CmpI b a n := ⟨by have := h.le; omega, h.eq.symm⟩
theorem hCmp_lt {a b : Int} (h : a < b) : -1 = hCmp a b := by unfold hCmp; rw [if_pos h]
theorem hCmp_gt {a b : Int} (h : b < a) : 1 = hCmp a b := by unfold hCmp; rw [if_neg (by omega), if_pos h]
theorem hCmp_eq {a b : Int} (h : a = b) : 0 = hCmp a b := by unfold hCmp; rw [if_neg (by omega), if_neg (by omega)]
/-! ### Add -/
structure AddI (a b : List Int) (i : Nat) (c : Int) (o : List Int) : Prop where
  le : i ≤ max a.length b.length + 1
  len : o.length = i
  c0 : 0 ≤ c
  c1 : c ≤ 1
  ends : max a.length b.length < i → c = 0
  eq : nv o + P16 i * c = nv (a.take i) + nv (b.take i)
theorem add_start (a b : List Int) : AddI a b 0 0 [] := ⟨by omega, rfl, by omega, by omega, by omega, by simp [nv]⟩
theorem add_step {a b o : List Int} {i : Nat} {c x : Int} (ha : Dig a) (hb : Dig b) (h : AddI a b i c o) (hx : x = dgt a i + dgt b i + c) (hlt : (i < max a.length b.length) ∨ 0 < c) :
    AddI a b (i + 1) (x / 65536) (o ++ [x % 65536]) ∧ 0 ≤ x % 65536 ∧ x % 65536 < 65536 := by
  obtain ⟨h1, h2, h3, h4, h5, h6⟩ := h
  have da := ha.dgt i; have db := hb.dgt i
  refine ⟨⟨?_, by simp [h2], by omega, by omega, ?_, ?_⟩, by omega, by omega⟩
  · rcases Nat.lt_or_ge (max a.length b.length) i with h' | h'
    · have := h5 h'; omega
    · omega
  · intro h'
    have e1 : dgt a i = 0 := dgt_out (by omega)
    have e2 : dgt b i = 0 := dgt_out (by omega)
    omega
  · rw [nv_snoc, h2, nv_take_succ, nv_take_succ, P16_succ, Int.mul_comm 65536, Int.mul_assoc]
    have e : P16 i * (dgt a i + dgt b i + c) = P16 i * (x % 65536) + P16 i * (65536 * (x / 65536)) := by rw [← Int.mul_add, ← hx]; congr 1; omega
    rw [Int.mul_add, Int.mul_add] at e
    omega
theorem add_end {a b o : List Int} {i : Nat} {c : Int} (h : AddI a b i c o) (hi : max a.length b.length ≤ i) (hc : c ≤ 0) : nv o = nv a + nv b := by
  have e := h.eq
  have : c = 0 := by have := h.c0; omega
  rw [this, Int.mul_zero, Int.add_zero, nv_take_all a i (by omega), nv_take_all b i (by omega)] at e
  exact e
/-! ### Sub -/
structure SubI (a b : List Int) (i : Nat) (c : Int) (o : List Int) : Prop where
  le : i ≤ a.length
  len : o.length = i
  c0 : 0 ≤ c
  c1 : c ≤ 1
  eq : nv o = nv (a.take i) - nv (b.take i) + P16 i * c
theorem sub_start (a b : List Int) : SubI a b 0 0 [] := ⟨by omega, rfl, by omega, by omega, by simp [nv]⟩
theorem sub_go {a b o : List Int} {i : Nat} {c x c' : Int} (ha : Dig a) (hb : Dig b) (h : SubI a b i c o) (hi : i < a.length) (hx : x = dgt a i - dgt b i - c + 65536 * c') (h0 : 0 ≤ x) (h1 : x < 65536) (c0 : 0 ≤ c') (c1 : c' ≤ 1) :
    SubI a b (i + 1) c' (o ++ [x]) := by
  obtain ⟨h1, h2, h3, h4, h6⟩ := h
  refine ⟨by omega, by simp [h2], by omega, by omega, ?_⟩
  rw [nv_snoc, h2, nv_take_succ, nv_take_succ, P16_succ, h6, hx, Int.mul_add, Int.mul_sub, Int.mul_sub, Int.mul_comm 65536 (P16 i), Int.mul_assoc]
  omega
theorem sub_end {a b o : List Int} {c : Int} (ha : Dig a) (hb : Dig b) (ho : Dig o) (h : SubI a b a.length c o) (hle : nv b ≤ nv a) : nv o = nv a - nv b := by
  have e := h.eq
  rw [nv_take_all a _ (Nat.le_refl _)] at e
  have e2 := nv_split' b a.length
  have la := nv_lt ha
  have lb := nv_take_lt hb a.length
  have lo := nv_lt ho
  rw [h.len] at lo
  have d0 := nv_nonneg (hb.drop a.length)
  have n0 := nv_nonneg ho
  have hp := P16_pos a.length
  have hd : nv (b.drop a.length) = 0 := by
    rcases Int.lt_or_le 0 (nv (b.drop a.length)) with h' | h'
    · have := Int.mul_le_mul_of_nonneg_left (Int.add_one_le_of_lt h') (Int.le_of_lt hp)
      simp at this; omega
    · omega
  rw [hd] at e2
  have c0 := h.c0; have c1 := h.c1
  have hc : c = 0 := by
    rcases Int.lt_or_le 0 c with h' | h'
    · have : c = 1 := by omega
      subst this; omega
    · omega
  subst hc; omega
end Go.Sx
namespace Go.Sx
theorem ex_digits : ∀ (k n : Nat), n ≤ k → ∃ l : List Int, Dig l ∧ nv l = (n : Int) ∧ Canon l
  | k, 0, _ => ⟨[], Dig.nil, rfl, by simp [Canon]⟩
  | 0, n + 1, h => by omega
  | k + 1, n + 1, h => by
    obtain ⟨l, hd, hv, hc⟩ := ex_digits k ((n + 1) / 65536) (by omega)
    refine ⟨(((n + 1) % 65536 : Nat) : Int) :: l, ?_, ?_, ?_⟩
    · intro d hd'
      rcases List.mem_cons.1 hd' with rfl | h'
      · omega
      · exact hd d h'
    · simp only [nv, hv]; omega
    · cases l with
      | nil =>
        simp only [nv] at hv
        intro h0
        simp at h0
        omega
      | cons x l => simpa [Canon] using hc
theorem wit_row {n : Int} (h : 0 ≤ n) : ∃ x : Row, (fun zx => RowOK zx ∧ nv (dg zx) = n ∧ Canon (dg zx)) x := by
  obtain ⟨l, hd, hv, hc⟩ := ex_digits n.toNat n.toNat (Nat.le_refl _)
  obtain ⟨h1, h2⟩ := RowOK.of (r := .mk 0 (l.map (.int .i64)) []) rfl hd
  exact ⟨_, h1, by rw [h2, hv]; omega, by rw [h2]; exact hc⟩
theorem quo_i64 {x : Int} (h0 : 0 ≤ x) (h1 : x ≤ 9223372036854775807) : IntKind.i64.wrap (Int.tdiv x 65536) = x / 65536 := by
  rw [Int.tdiv_eq_ediv_of_nonneg h0, wrap_i64 _ (by omega) (by omega)]
end Go.Sx

namespace Go.Sx
structure MulO (a b : List Int) (i : Nat) (o : List Int) : Prop where
  le : i ≤ a.length
  len : o.length = a.length + b.length
  eq : nv o = nv (a.take i) * nv b
  z : nv (o.drop (i + b.length)) = 0
structure MulN (a b : List Int) (i k : Nat) (c : Int) (o : List Int) : Prop where
  le : k ≤ b.length
  len : o.length = a.length + b.length
  c0 : 0 ≤ c
  c1 : c < 65536
  eq : nv o + P16 (i + k) * c = nv (a.take i) * nv b + P16 i * (dgt a i * nv (b.take k))
  z : nv (o.drop (i + b.length)) = 0
theorem dmul {a b : Int} (a0 : 0 ≤ a) (a1 : a < 65536) (b0 : 0 ≤ b) (b1 : b < 65536) : 0 ≤ a * b ∧ a * b ≤ 4294836225 :=
  ⟨Int.mul_nonneg a0 b0, by
    have : a * b ≤ 65535 * 65535 := Int.mul_le_mul (by omega) (by omega) b0 (by decide)
    omega⟩
theorem mul_start (a b : List Int) (n : Nat) (h : n = a.length + b.length) : MulO a b 0 (List.replicate n 0) :=
  ⟨by omega, by simp [h], by simp [nv_replicate, nv], by rw [List.drop_replicate, nv_replicate]⟩
theorem muln_start {a b o : List Int} {i : Nat} (h : MulO a b i o) : MulN a b i 0 0 o :=
  ⟨by omega, h.len, by decide, by decide, by rw [h.eq]; simp [nv], h.z⟩
theorem drop_set_lt (l : List Int) (j n : Nat) (x : Int) (h : j < n) : (l.set j x).drop n = l.drop n := by
  rw [List.drop_set_of_lt h]
theorem muln_step {a b o : List Int} {i k : Nat} {c x : Int} (ha : Dig a) (hb : Dig b) (ho : Dig o) (h : MulN a b i k c o) (hi : i < a.length) (hk : k < b.length) (hx : x = dgt o (i + k) + dgt a i * dgt b k + c) :
    MulN a b i (k + 1) (x / 65536) (o.set (i + k) (x % 65536)) ∧ 0 ≤ x % 65536 ∧ x % 65536 < 65536 := by
  obtain ⟨h1, h2, h3, h4, h5, h6⟩ := h
  have da := ha.dgt i; have db := hb.dgt k; have d_o := ho.dgt (i + k)
  have hab := dmul da.1 da.2 db.1 db.2
  refine ⟨⟨by omega, by simp [h2], by omega, by omega, ?_, ?_⟩, by omega, by omega⟩
  · rw [nv_set o (i + k) _ (by omega), nv_take_succ, show i + (k + 1) = i + k + 1 from rfl, P16_succ, Int.mul_add (dgt a i), Int.mul_add (P16 i)]
    have e1 : P16 i * (dgt a i * (P16 k * dgt b k)) = P16 (i + k) * (dgt a i * dgt b k) := by rw [P16_add, Int.mul_left_comm (dgt a i), Int.mul_assoc]
    rw [e1]
    have e2 : P16 (i + k) * (dgt o (i + k) + dgt a i * dgt b k + c) = P16 (i + k) * (x % 65536) + P16 (i + k) * (65536 * (x / 65536)) := by rw [← Int.mul_add, ← hx]; congr 1; omega
    rw [Int.mul_add, Int.mul_add] at e2
    rw [Int.mul_sub, Int.mul_comm 65536, Int.mul_assoc]
    omega
  · rw [drop_set_lt _ _ _ _ (by omega)]; exact h6
theorem dgt_zero_of {l : List Int} (h : Dig l) {n : Nat} (hz : nv (l.drop n) = 0) : dgt l n = 0 ∧ nv (l.drop (n + 1)) = 0 := by
  have := nv_drop_dgt l n
  have := h.dgt n
  have := nv_nonneg (h.drop (n + 1))
  omega
theorem muln_end {a b o : List Int} {i : Nat} {c : Int} (ho : Dig o) (h : MulN a b i b.length c o) (hi : i < a.length) :
    MulO a b (i + 1) (o.set (i + b.length) (dgt o (i + b.length) + c)) ∧ 0 ≤ dgt o (i + b.length) + c ∧ dgt o (i + b.length) + c < 65536 := by
  obtain ⟨h1, h2, h3, h4, h5, h6⟩ := h
  obtain ⟨z1, z2⟩ := dgt_zero_of ho h6
  refine ⟨⟨by omega, by simp [h2], ?_, ?_⟩, by omega, by omega⟩
  · rw [nv_set o _ _ (by omega), nv_take_succ, Int.add_mul, Int.mul_assoc]
    rw [nv_take_all b _ (Nat.le_refl _)] at h5
    rw [Int.mul_sub, Int.mul_add]
    omega
  · rw [drop_set_lt _ _ _ _ (by omega), show i + 1 + b.length = i + b.length + 1 from by omega]; exact z2
theorem mul_end {a b o : List Int} (h : MulO a b a.length o) : nv o = nv a * nv b := by
  rw [h.eq, nv_take_all a _ (Nat.le_refl _)]
end Go.Sx

namespace Go.Sx
theorem snoc3 {r y : Row} {k : Nat} {n x p : Int} (h : RowOK r ∧ (dg r).length = k ∧ nv (dg r) = n) (hp : P16 k = p) (hy : vals y = vals r ++ [.int .i64 x]) (h0 : 0 ≤ x) (h1 : x < 65536) :
    RowOK y ∧ (dg y).length = k + 1 ∧ nv (dg y) = n + p * x := by
  obtain ⟨q1, q2⟩ := h.1.snoc h0 h1 hy
  refine ⟨q1, by rw [q2]; simp [h.2.1], ?_⟩
  rw [q2, nv_snoc, h.2.1, h.2.2, hp]
theorem nil3 : RowOK .nil ∧ (dg .nil).length = 0 ∧ nv (dg .nil) = 0 := ⟨RowOK.nil, rfl, rfl⟩
theorem quo_u16 {x : Int} (h : W x) : IntKind.u64.wrap (Int.tdiv x 65536) = x / 65536 := by
  rw [Int.tdiv_eq_ediv_of_nonneg h.1, wrap_u64]; unfold W at h; omega
theorem W_div {x : Int} (h : W x) : W (x / 65536) := by unfold W at *; omega
theorem wit_num {n : Int} (h : R4 n) : ∃ x : Row, (fun zx => RowOK zx ∧ nv (dg zx) = n ∧ Canon (dg zx) ∧ (dg zx).length ≤ 16) x := by
  obtain ⟨x, h1, h2, h3⟩ := wit_row h.1
  refine ⟨x, h1, h2, h3, canon_len h1.dig h3 ?_⟩
  rw [h2, show P16 16 = 115792089237316195423570985008687907853269984665640564039457584007913129639936 from rfl]; exact h.2
theorem num_len {l : List Int} {n : Int} (hd : Dig l) (hc : Canon l) (hn : nv l = n) (h : R4 n) : l.length ≤ 16 := by
  refine canon_len hd hc ?_
  rw [hn, show P16 16 = 115792089237316195423570985008687907853269984665640564039457584007913129639936 from rfl]; exact h.2
theorem conv16 (x : Int) : IntKind.i64.wrap (x % 65536) = x % 65536 := wrap_i64 _ (by omega) (by omega)
theorem m16_0 (x : Int) : 0 ≤ x % 65536 := by omega
theorem m16_1 (x : Int) : x % 65536 < 65536 := by omega
theorem limb_digits {x : Int} (h : W x) : x % 65536 + 65536 * (x / 65536 % 65536) + 4294967296 * (x / 65536 / 65536 % 65536) + 281474976710656 * (x / 65536 / 65536 / 65536 % 65536) = x := by
  unfold W at h; omega
end Go.Sx

namespace Go.Sx
theorem OpT.ofPure {P : Program} {m : Sem Next} {v v' : Value} (h : PureRun P m v) (e : v = v') : OpT P m [] Unit (fun _ => v') (fun _ => []) (fun _ => True) :=
  fun _ w hO => ⟨(), w, trivial, .inl (by rw [h w, e]), hO, Ext.refl w⟩
def lit17 : List Int := [0, 0, 0, 0, 0, 0, 0, 0, 0, 0, 0, 0, 0, 0, 0, 0, 1]
theorem lit17_nv : nv lit17 = 115792089237316195423570985008687907853269984665640564039457584007913129639936 := rfl
theorem len40 {l : List Int} {n : Int} (hd : Dig l) (hc : Canon l) (hn : nv l = n) (h : n < 179769313486231590772930519078902473361797697894230657273430081157732675805500963132708477322407536021120113879871393357658789768814416622492847430639474124377767893424865485276302219601246094119453082952085005768838150682342462881473913110540827237163350510684586298239947245938479716304835356329624224137216) : l.length ≤ 64 := by
  refine canon_len hd hc ?_
  rw [hn, show P16 64 = 179769313486231590772930519078902473361797697894230657273430081157732675805500963132708477322407536021120113879871393357658789768814416622492847430639474124377767893424865485276302219601246094119453082952085005768838150682342462881473913110540827237163350510684586298239947245938479716304835356329624224137216 from rfl]
  exact h
theorem wide_parts {w : Int} (h : R8 w) : num (.agg #[.int .u64 (lim w 0), .int .u64 (lim w 1), .int .u64 (lim w 2), .int .u64 (lim w 3)]) + num (.agg #[.int .u64 (lim w 4), .int .u64 (lim w 5), .int .u64 (lim w 6), .int .u64 (lim w 7)]) * 115792089237316195423570985008687907853269984665640564039457584007913129639936 = w := by
  have e := lims8 h
  rw [num4', num4']; omega
theorem wide_num {n : Int} (h : R8 n) : n < 179769313486231590772930519078902473361797697894230657273430081157732675805500963132708477322407536021120113879871393357658789768814416622492847430639474124377767893424865485276302219601246094119453082952085005768838150682342462881473913110540827237163350510684586298239947245938479716304835356329624224137216 := Int.lt_trans h.2 (by decide)
theorem lit_nv (b : Nat) : nv (dg (.mk b (lit17.map (.int .i64)) [])) = 115792089237316195423570985008687907853269984665640564039457584007913129639936 := rfl
theorem wide_mul {n : Int} (h : R4 n) (b : Nat) : n * nv (dg (.mk b (lit17.map (.int .i64)) [])) < 179769313486231590772930519078902473361797697894230657273430081157732675805500963132708477322407536021120113879871393357658789768814416622492847430639474124377767893424865485276302219601246094119453082952085005768838150682342462881473913110540827237163350510684586298239947245938479716304835356329624224137216 := by
  rw [lit_nv]; unfold R4 at h; omega
theorem wit_wide {n : Int} (h : R8 n) : ∃ x : Row, (fun zx => RowOK zx ∧ nv (dg zx) = n ∧ Canon (dg zx) ∧ (dg zx).length ≤ 64) x := by
  obtain ⟨x, h1, h2, h3⟩ := wit_row h.1
  exact ⟨x, h1, h2, h3, len40 h1.dig h3 h2 (wide_num h)⟩
end Go.Sx

namespace Go.Sx
open Go.RowKit Go.ChangeShapes Go.WideShapes
/-- A contract that asks for no slot leaves all that was there. -/
theorem CallT.below0 {P : Program} {f : FuncId} {args : Array Value} {X : Type} {val : X → Value} {us : X → List Slot} {Φ : X → Prop} (h : CallT P f args [] X val us Φ) (w : World) :
    Calls P f args w fun e w' => ∃ x, Φ x ∧ e = .returned (val x) ∧ Below w.heap.size w w' := by
  have ho : Own (ofList []) (fun q => ∀ b o, w.heap[b]? = some o → q b = some o) w := by
    refine ⟨fun _ _ => none, fun b => w.heap[b]?, fun i => ?_, fun b o h => h, fun i b o hb => (by cases hb), fun b o hb => hb, fun i j _ b => .inl rfl, fun i b => .inl rfl⟩
    show Slot.sat .free _
    exact fun _ => rfl
  refine (h.calls _ w ho).mono ?_
  rintro e w' ⟨x, hx, he, ⟨p, q, _, hq, _, hqw, _⟩, hext⟩
  refine ⟨x, hx, he, hext.os, hext.tape, hext.output, hext.size, fun i hi => ?_⟩
  have := hqw i w.heap[i] (hq i _ (by simp [hi]))
  rw [this]; simp [hi]
section
variable {H : Type} {enc : TypeId × Value → H} {P : Program}
theorem post_of_below {f : Func} {s : ChangeSpec} {apart fresh handsOn again : Bool} {W W' : World} {args : Array Value} {v : Value} {ds gs : List (DataW H)} {before pa pv : List MemPlace}
    (hW : DataW.Whole enc P f.params.toList s.vars apart W args.toList ds gs before)
    (hres : ∀ (b : Nat) (sp : Nat → Bool) (hd : Bool), DataW.TrodAll enc P W' b sp hd f.resultTypes.toList (v.resultList f.resultTypes.size) (s.fn H (ds ++ gs)).results [])
    (hargs : ∀ sp : Nat → Bool, (∀ p ∈ before, sp p.block = true) → DataW.TrodAll enc P W' 0 sp true f.params.toList args.toList (s.fn H (ds ++ gs)).args pa)
    (hvars : ∀ sp : Nat → Bool, (∀ p ∈ before, sp p.block = true) → DataW.TrodVars enc P W' sp s.vars (s.fn H (ds ++ gs)).vars pv)
    (hps : before = pa ++ pv) (hb : Below W.heap.size W W')
    (hok : ∀ (j : Nat) (t : TypeId) (r : Value), f.resultTypes[j]? = some t → (v.resultList f.resultTypes.size)[j]? = some r → Value.okWide P W' .any 0 t r) :
    s.post enc P f apart fresh handsOn again W args v W' := by
  have hold : ∀ p ∈ before, (fun b => decide (b < W.heap.size)) p.block = true := fun p hp => by simpa using hW.lt p hp
  have hlt := hW.lt
  refine ⟨ds, gs, before, [], pa, pv, hW, hres _ _ _, hargs _ hold, hvars _ hold, World.keptBut_mono (fun p hp => ⟨hp, ?_⟩) (hb.frame (· ∈ before)), fun _ => ?_⟩
  · rw [hps, List.mem_append] at hp
    exact Or.inr hp
  · obtain ⟨_, _, _, _, _, hz, hn⟩ := hW
    refine ⟨hok, _, _, ([] ++ pa) ++ pv, ⟨[] ++ pa, pv, trodAll_append (hargs _ (fun _ _ => rfl)) (hres _ _ _), hvars _ (fun _ _ => rfl), rfl, ?_, ?_⟩, ?_⟩
    · intro b off hp
      have hp' : (MemPlace.cell b off) ∈ before := by rw [hps]; simpa using hp
      rw [hb.frozen (hlt _ hp')]
      exact hz b off hp'
    · intro ha
      have := hn ha
      rw [hps] at this
      simpa using this
    · intro p hp _
      rw [hps]
      simpa using hp
theorem list4 {α : Type} {l : List α} (h : l.length = 4) : ∃ a b c d, l = [a, b, c, d] := by
  match l, h with
  | [a, b, c, d], _ => exact ⟨a, b, c, d, rfl⟩
theorem wf_W {n : Int} (h : (Lit.int .u64 n).wf = true) : W n := by
  simp [Lit.wf, IntKind.min, IntKind.max, IntKind.signed, IntKind.bits] at h
  unfold W; omega
theorem W_wf {n : Int} (h : W n) : (Lit.int .u64 n).wf = true := by
  unfold W at h
  simp [Lit.wf, IntKind.min, IntKind.max, IntKind.signed, IntKind.bits]; omega
/-- An argument that is an array of four words: a number. It reads alike in every world. -/
theorem open_num4 {r : Reach} {b0 base : Nat} {sp : Nat → Bool} {held : Bool} {t e : TypeId} {W : World} {v : Value} {d : DataW H} {ps : List MemPlace} (hu : P.underlying t = some (.array 4 e)) (he : P.underlying e = some (.int .u64)) (hc : P.cellsOf e = 1) (hk : P.cellsOf t = 4)
    (hval : Value.okWide P W r b0 t v) (hd : DataW.Trod enc P W base sp held t v d ps) :
    ∃ n, v = vI n ∧ R4 n ∧ ps = [] ∧ ∀ W' base' sp' held', DataW.Trod enc P W' base' sp' held' t v d [] := by
  simp only [Value.okWide, hu] at hval
  obtain ⟨cs, rfl, hsz, _⟩ := hval
  obtain ⟨a0, a1, a2, a3, hl⟩ := list4 (l := cs.toList) (by rw [Array.length_toList, hsz, hk])
  clear hsz
  obtain rfl : cs = #[a0, a1, a2, a3] := by apply Array.ext'; rw [hl]
  obtain ⟨fuel, hf⟩ := hd
  cases fuel with
  | zero => simp [DataW.trod] at hf
  | succ m =>
    rw [DataW.trod_step] at hf
    unfold DataW.trodStep at hf
    have hr : List.range 4 = [0, 1, 2, 3] := rfl
    simp only [hu, Value.cells, hc, hk, hr, List.mapM_cons, List.mapM_nil, bind, Option.bind_eq_some_iff, pure, Option.map_eq_some_iff] at hf
    simp only [List.toList_toArray, List.length_cons, List.length_nil, List.drop_zero, Nat.zero_mul, Nat.one_mul, Nat.mul_one, List.drop_succ_cons, List.take_succ_cons, List.take_zero, if_true] at hf
    cases m with
    | zero => simp [DataW.trod] at hf
    | succ m =>
    have one : ∀ (a : Value) (x : DataW H × List MemPlace), DataW.trod enc P W base sp held (m + 1) e [a] = some x → ∃ n, a = .int .u64 n ∧ x = (.lit (.int .u64 n), []) ∧ (Lit.int .u64 n).wf = true := by
      intro a x hx
      obtain ⟨n, h1, h2, h3⟩ := DataW.trod_int he hx
      exact ⟨n, by simpa using h1, h2, h3⟩
    cases h0 : DataW.trod enc P W base sp held (m + 1) e [a0] with
    | none => rw [h0] at hf; cases hf
    | some y0 =>
    cases h1 : DataW.trod enc P W base sp held (m + 1) e [a1] with
    | none => rw [h0, h1] at hf; cases hf
    | some y1 =>
    cases h2 : DataW.trod enc P W base sp held (m + 1) e [a2] with
    | none => rw [h0, h1, h2] at hf; cases hf
    | some y2 =>
    cases h3 : DataW.trod enc P W base sp held (m + 1) e [a3] with
    | none => rw [h0, h1, h2, h3] at hf; cases hf
    | some y3 =>
    obtain ⟨n0, rfl, rfl, w0⟩ := one _ _ h0
    obtain ⟨n1, rfl, rfl, w1⟩ := one _ _ h1
    obtain ⟨n2, rfl, rfl, w2⟩ := one _ _ h2
    obtain ⟨n3, rfl, rfl, w3⟩ := one _ _ h3
    rw [h0, h1, h2, h3] at hf
    simp only [Option.bind_some, Option.map_some, Option.some.injEq, Prod.mk.injEq, List.map_cons, List.map_nil, List.flatMap_cons, List.flatMap_nil, List.append_nil] at hf
    obtain ⟨rfl, rfl⟩ := hf
    refine ⟨num (.agg #[.int .u64 n0, .int .u64 n1, .int .u64 n2, .int .u64 n3]), (vI_num4 (wf_W w0) (wf_W w1) (wf_W w2) (wf_W w3)).symm, R4_num4 (wf_W w0) (wf_W w1) (wf_W w2) (wf_W w3), rfl, fun W' base' sp' held' => ⟨m + 2, ?_⟩⟩
    rw [DataW.trod_step]
    unfold DataW.trodStep
    simp only [hu, Value.cells, hc, hk, hr, List.mapM_cons, List.mapM_nil, bind, pure, List.toList_toArray, List.length_cons, List.length_nil, List.drop_zero, Nat.zero_mul, Nat.one_mul, Nat.mul_one, List.drop_succ_cons, List.take_succ_cons, List.take_zero, if_true]
    simp only [trod_int_mk (enc := enc) (w := W') (base := base') (spare := sp') (held := held') m he w0, trod_int_mk (enc := enc) (w := W') (base := base') (spare := sp') (held := held') m he w1, trod_int_mk (enc := enc) (w := W') (base := base') (spare := sp') (held := held') m he w2, trod_int_mk (enc := enc) (w := W') (base := base') (spare := sp') (held := held') m he w3]
    rfl
end
end Go.Sx

namespace Go.Sx
open Go.RowKit Go.ChangeShapes Go.WideShapes
section
variable {H : Type} {enc : TypeId × Value → H} {P : Program}
theorem list8 {α : Type} {l : List α} (h : l.length = 8) : ∃ a0 a1 a2 a3 a4 a5 a6 a7, l = [a0, a1, a2, a3, a4, a5, a6, a7] := by
  match l, h with
  | [a0, a1, a2, a3, a4, a5, a6, a7], _ => exact ⟨a0, a1, a2, a3, a4, a5, a6, a7, rfl⟩
theorem open_num8 {r : Reach} {b0 base : Nat} {sp : Nat → Bool} {held : Bool} {t e : TypeId} {W : World} {v : Value} {d : DataW H} {ps : List MemPlace} (hu : P.underlying t = some (.array 8 e)) (he : P.underlying e = some (.int .u64)) (hc : P.cellsOf e = 1) (hk : P.cellsOf t = 8)
    (hval : Value.okWide P W r b0 t v) (hd : DataW.Trod enc P W base sp held t v d ps) :
    ∃ n, v = vW n ∧ R8 n ∧ ps = [] ∧ ∀ W' base' sp' held', DataW.Trod enc P W' base' sp' held' t v d [] := by
  simp only [Value.okWide, hu] at hval
  obtain ⟨cs, rfl, hsz, _⟩ := hval
  obtain ⟨a0, a1, a2, a3, a4, a5, a6, a7, hl⟩ := list8 (l := cs.toList) (by rw [Array.length_toList, hsz, hk])
  clear hsz
  obtain rfl : cs = #[a0, a1, a2, a3, a4, a5, a6, a7] := by apply Array.ext'; rw [hl]
  obtain ⟨fuel, hf⟩ := hd
  cases fuel with
  | zero => simp [DataW.trod] at hf
  | succ m =>
    rw [DataW.trod_step] at hf
    unfold DataW.trodStep at hf
    have hr : List.range 8 = [0, 1, 2, 3, 4, 5, 6, 7] := rfl
    simp only [hu, Value.cells, hc, hk, hr, List.mapM_cons, List.mapM_nil, bind, Option.bind_eq_some_iff, pure, Option.map_eq_some_iff] at hf
    simp only [List.toList_toArray, List.length_cons, List.length_nil, List.drop_zero, Nat.zero_mul, Nat.one_mul, Nat.mul_one, List.drop_succ_cons, List.take_succ_cons, List.take_zero, if_true] at hf
    cases m with
    | zero => simp [DataW.trod] at hf
    | succ m =>
    have one : ∀ (a : Value) (x : DataW H × List MemPlace), DataW.trod enc P W base sp held (m + 1) e [a] = some x → ∃ n, a = .int .u64 n ∧ x = (.lit (.int .u64 n), []) ∧ (Lit.int .u64 n).wf = true := by
      intro a x hx
      obtain ⟨n, h1, h2, h3⟩ := DataW.trod_int he hx
      exact ⟨n, by simpa using h1, h2, h3⟩
    cases h0 : DataW.trod enc P W base sp held (m + 1) e [a0] with
    | none => rw [h0] at hf; cases hf
    | some y0 =>
    cases h1 : DataW.trod enc P W base sp held (m + 1) e [a1] with
    | none => rw [h0, h1] at hf; cases hf
    | some y1 =>
    cases h2 : DataW.trod enc P W base sp held (m + 1) e [a2] with
    | none => rw [h0, h1, h2] at hf; cases hf
    | some y2 =>
    cases h3 : DataW.trod enc P W base sp held (m + 1) e [a3] with
    | none => rw [h0, h1, h2, h3] at hf; cases hf
    | some y3 =>
    cases h4 : DataW.trod enc P W base sp held (m + 1) e [a4] with
    | none => rw [h0, h1, h2, h3, h4] at hf; cases hf
    | some y4 =>
    cases h5 : DataW.trod enc P W base sp held (m + 1) e [a5] with
    | none => rw [h0, h1, h2, h3, h4, h5] at hf; cases hf
    | some y5 =>
    cases h6 : DataW.trod enc P W base sp held (m + 1) e [a6] with
    | none => rw [h0, h1, h2, h3, h4, h5, h6] at hf; cases hf
    | some y6 =>
    cases h7 : DataW.trod enc P W base sp held (m + 1) e [a7] with
    | none => rw [h0, h1, h2, h3, h4, h5, h6, h7] at hf; cases hf
    | some y7 =>
    obtain ⟨n0, rfl, rfl, w0⟩ := one _ _ h0
    obtain ⟨n1, rfl, rfl, w1⟩ := one _ _ h1
    obtain ⟨n2, rfl, rfl, w2⟩ := one _ _ h2
    obtain ⟨n3, rfl, rfl, w3⟩ := one _ _ h3
    obtain ⟨n4, rfl, rfl, w4⟩ := one _ _ h4
    obtain ⟨n5, rfl, rfl, w5⟩ := one _ _ h5
    obtain ⟨n6, rfl, rfl, w6⟩ := one _ _ h6
    obtain ⟨n7, rfl, rfl, w7⟩ := one _ _ h7
    rw [h0, h1, h2, h3, h4, h5, h6, h7] at hf
    simp only [Option.bind_some, Option.map_some, Option.some.injEq, Prod.mk.injEq, List.map_cons, List.map_nil, List.flatMap_cons, List.flatMap_nil, List.append_nil] at hf
    obtain ⟨rfl, rfl⟩ := hf
    refine ⟨num (.agg #[.int .u64 n0, .int .u64 n1, .int .u64 n2, .int .u64 n3, .int .u64 n4, .int .u64 n5, .int .u64 n6, .int .u64 n7]), (vW_num8 (wf_W w0) (wf_W w1) (wf_W w2) (wf_W w3) (wf_W w4) (wf_W w5) (wf_W w6) (wf_W w7)).symm, R8_num8 (wf_W w0) (wf_W w1) (wf_W w2) (wf_W w3) (wf_W w4) (wf_W w5) (wf_W w6) (wf_W w7), rfl, fun W' base' sp' held' => ⟨m + 2, ?_⟩⟩
    rw [DataW.trod_step]
    unfold DataW.trodStep
    simp only [hu, Value.cells, hc, hk, hr, List.mapM_cons, List.mapM_nil, bind, pure, List.toList_toArray, List.length_cons, List.length_nil, List.drop_zero, Nat.zero_mul, Nat.one_mul, Nat.mul_one, List.drop_succ_cons, List.take_succ_cons, List.take_zero, if_true]
    simp only [trod_int_mk (enc := enc) (w := W') (base := base') (spare := sp') (held := held') m he w0, trod_int_mk (enc := enc) (w := W') (base := base') (spare := sp') (held := held') m he w1, trod_int_mk (enc := enc) (w := W') (base := base') (spare := sp') (held := held') m he w2, trod_int_mk (enc := enc) (w := W') (base := base') (spare := sp') (held := held') m he w3, trod_int_mk (enc := enc) (w := W') (base := base') (spare := sp') (held := held') m he w4, trod_int_mk (enc := enc) (w := W') (base := base') (spare := sp') (held := held') m he w5, trod_int_mk (enc := enc) (w := W') (base := base') (spare := sp') (held := held') m he w6, trod_int_mk (enc := enc) (w := W') (base := base') (spare := sp') (held := held') m he w7]
    rfl
end
end Go.Sx

namespace Go.Sx
open Go.RowKit Go.ChangeShapes Go.WideShapes
section
variable {H : Type} {enc : TypeId × Value → H} {P : Program}
theorem cells_get {w : World} {base : Nat} {a : Addr} {n : Nat} {cs : List Value} (h : w.cells? base a n = some cs) : cs.length = n ∧ ∀ j c, cs[j]? = some c → w.cell? (a.add j) = some c := by
  unfold World.cells? at h
  split at h
  · have hl := mapM_some_length h
    simp at hl
    refine ⟨hl, fun j c hj => ?_⟩
    have hlt : j < n := by
      have := (List.getElem?_eq_some_iff.1 hj).1; omega
    have := mapM_some_get h j j (by simp [hlt])
    rw [this]; exact hj
  · cases h
/-- How an element's cells are read. -/
def Opens (P : Program) (t : TypeId) (n : Nat) {X : Type} (val : X → Value) (Ok : X → Prop) : Prop :=
  ∀ (H : Type) (enc : TypeId × Value → H) (W : World) (base : Nat) (sp : Nat → Bool) (held : Bool) (fuel : Nat) (cs : List Value) (y : DataW H × List MemPlace),
    cs.length = n → DataW.trod enc P W base sp held fuel t cs = some y → ∃ x, cs = (val x).cells.toList ∧ Ok x
theorem add_add_spot {a : Addr} (hs : a.spot = none) (i j : Nat) : (a.add i).add j = ⟨a.block, a.off + i + j, none⟩ := by
  obtain ⟨b, o, s⟩ := a
  simp only at hs; subst hs
  unfold Addr.add
  by_cases hi : i = 0 <;> by_cases hj : j = 0 <;> simp [hi, hj]
theorem open_slice {X : Type} {val : X → Value} {Ok : X → Prop} {t e : TypeId} {n : Nat} (hu : P.underlying t = some (.slice e)) (hc : P.cellsOf e = n) (hn : 0 < n) (O : Opens P e n val Ok) {W : World} {sp : Nat → Bool} {held : Bool} {base : Nat} {v : Value} {d : DataW H} {ps : List MemPlace}
    (hd : DataW.Trod enc P W base sp held t v d ps) (h1 : v.cells = #[v]) : ∃ xs : List X, SlX W n val Ok v xs ∧ xs.length ≤ maxLen := by
  obtain ⟨fuel, hf⟩ := hd
  rw [h1] at hf
  rcases DataW.trod_slice hu hf with ⟨hv, _⟩ | ⟨a, len, cap, elems, rest, m, hm, hv, hx, hb, hlc, hcm, hel, hget, _⟩
  · refine ⟨[], ⟨⟨?_, ?_, fun i e h => by simp at h⟩, fun x h => by cases h⟩, by simp⟩
    · simp at hv; subst hv; rfl
    · simp at hv; exact .inl hv
  · simp at hv; subst hv
    rw [hc] at hget
    have key : ∀ i, i < len → ∃ x : X, Ok x ∧ ∀ j c, (val x).cells.toList[j]? = some c → W.cell? ((a.add (i * n)).add j) = some c := by
      intro i hi
      have h := hget i hi
      obtain ⟨y, hy⟩ : ∃ y, elems[i]? = some y := ⟨_, List.getElem?_eq_getElem (by omega)⟩
      rw [hy, Option.bind_eq_some_iff] at h
      obtain ⟨cs, h2, h3⟩ := h
      obtain ⟨hl, hcell⟩ := cells_get h2
      obtain ⟨x, hx, hok⟩ := O _ _ _ _ _ _ _ _ _ hl h3
      exact ⟨x, hok, fun j c hj => hcell j c (by rw [hx]; exact hj)⟩
    have len0 : ∀ i, i < len → ∃ x : X, Ok x ∧ (val x).cells.toList.length = n ∧ ∀ j c, (val x).cells.toList[j]? = some c → W.cell? ((a.add (i * n)).add j) = some c := by
      intro i hi
      have h := hget i hi
      obtain ⟨y, hy⟩ : ∃ y, elems[i]? = some y := ⟨_, List.getElem?_eq_getElem (by omega)⟩
      rw [hy, Option.bind_eq_some_iff] at h
      obtain ⟨cs, h2, h3⟩ := h
      obtain ⟨hl, hcell⟩ := cells_get h2
      obtain ⟨x, hx, hok⟩ := O _ _ _ _ _ _ _ _ _ hl h3
      exact ⟨x, hok, by rw [← hx]; exact hl, fun j c hj => hcell j c (by rw [hx]; exact hj)⟩
    have spot : 0 < len → a.spot = none := by
      intro h0
      obtain ⟨x, _, hl, hcell⟩ := len0 0 h0
      have := hcell 0 _ (List.getElem?_eq_getElem (by omega))
      unfold World.cell? at this
      split at this
      · rename_i cs _ _ _
        cases hs : a.spot with
        | none => rfl
        | some s => simp [Addr.add, hs] at this
      · cases this
    have build : ∀ m, m ≤ len → ∃ xs : List X, xs.length = m ∧ (∀ x ∈ xs, Ok x) ∧ ∀ i x, xs[i]? = some x → (val x).cells.toList.length = n ∧ ∀ j c, (val x).cells.toList[j]? = some c → W.cell? ((a.add (i * n)).add j) = some c := by
      intro m
      induction m with
      | zero => exact fun _ => ⟨([] : List X), rfl, ⟨fun x h => absurd h (by simp), fun i x h => by simp at h⟩⟩
      | succ m ih =>
        intro hm
        obtain ⟨xs, hl, hok, hg⟩ := ih (by omega)
        obtain ⟨x, hx1, hx2, hx3⟩ := len0 m (by omega)
        refine ⟨xs ++ [x], by simp [hl], fun y hy => ?_, fun i y hy => ?_⟩
        · rcases List.mem_append.1 hy with h | h
          · exact hok y h
          · simp at h; subst h; exact hx1
        · rcases Nat.lt_or_ge i m with hi | hi
          · rw [List.getElem?_append_left (by omega)] at hy; exact hg i y hy
          · rw [List.getElem?_append_right (by omega)] at hy
            have hi' : i = m := by
              have := (List.getElem?_eq_some_iff.1 hy).1
              simp at this; omega
            subst hi'
            rw [hl, Nat.sub_self] at hy
            simp at hy; subst hy
            exact ⟨hx2, hx3⟩
    obtain ⟨xs, hl, hok, hg⟩ := build len (Nat.le_refl _)
    refine ⟨xs, ⟨⟨by simp [vlen, hl], .inr ⟨a, len, cap, rfl⟩, fun i e he => ?_⟩, hok⟩, by omega⟩
    rw [List.getElem?_map] at he
    cases hxi : xs[i]? with
    | none => rw [hxi] at he; cases he
    | some x =>
      rw [hxi] at he
      simp at he; subst he
      obtain ⟨g1, g2⟩ := hg i x hxi
      have hs := spot (by have := (List.getElem?_eq_some_iff.1 hxi).1; omega)
      refine ⟨a, len, cap, rfl, hs, g1, fun j c hj => ?_⟩
      have := g2 j c hj
      rw [add_add_spot hs] at this
      exact this
theorem opens_int {t : TypeId} {k : IntKind} (hu : P.underlying t = some (.int k)) : Opens P t 1 (Value.int k) (fun n => (Lit.int k n).wf = true) := by
  intro H enc W base sp held fuel cs y hl h
  obtain ⟨n, rfl, _, hw⟩ := DataW.trod_int hu h
  exact ⟨n, rfl, hw⟩
theorem opens_bool {t : TypeId} (hu : P.underlying t = some .bool) : Opens P t 1 Value.bool (fun _ => True) := by
  intro H enc W base sp held fuel cs y hl h
  obtain ⟨b, rfl, _⟩ := DataW.trod_bool hu h
  exact ⟨b, rfl, trivial⟩
theorem opens_num {t e : TypeId} (hu : P.underlying t = some (.array 4 e)) (he : P.underlying e = some (.int .u64)) (hc : P.cellsOf e = 1) (hk : P.cellsOf t = 4) : Opens P t 4 vI R4 := by
  intro H enc W base sp held fuel cs y hl hf
  obtain ⟨a0, a1, a2, a3, rfl⟩ := list4 hl
  cases fuel with
  | zero => simp [DataW.trod] at hf
  | succ m =>
    rw [DataW.trod_step] at hf
    unfold DataW.trodStep at hf
    have hr : List.range 4 = [0, 1, 2, 3] := rfl
    simp only [hu, hc, hk, hr, List.mapM_cons, List.mapM_nil, bind, Option.bind_eq_some_iff, pure, Option.map_eq_some_iff] at hf
    simp only [List.length_cons, List.length_nil, List.drop_zero, Nat.zero_mul, Nat.one_mul, Nat.mul_one, List.drop_succ_cons, List.take_succ_cons, List.take_zero, if_true] at hf
    have one : ∀ (a : Value) (x : DataW H × List MemPlace), DataW.trod enc P W base sp held m e [a] = some x → ∃ n, a = .int .u64 n ∧ (Lit.int .u64 n).wf = true := by
      intro a x hx
      obtain ⟨n, h1, h2, h3⟩ := DataW.trod_int he hx
      exact ⟨n, by simpa using h1, h3⟩
    cases h0 : DataW.trod enc P W base sp held m e [a0] with
    | none => rw [h0] at hf; cases hf
    | some y0 =>
    cases h1 : DataW.trod enc P W base sp held m e [a1] with
    | none => rw [h0, h1] at hf; cases hf
    | some y1 =>
    cases h2 : DataW.trod enc P W base sp held m e [a2] with
    | none => rw [h0, h1, h2] at hf; cases hf
    | some y2 =>
    cases h3 : DataW.trod enc P W base sp held m e [a3] with
    | none => rw [h0, h1, h2, h3] at hf; cases hf
    | some y3 =>
    obtain ⟨n0, rfl, w0⟩ := one _ _ h0
    obtain ⟨n1, rfl, w1⟩ := one _ _ h1
    obtain ⟨n2, rfl, w2⟩ := one _ _ h2
    obtain ⟨n3, rfl, w3⟩ := one _ _ h3
    refine ⟨num (.agg #[.int .u64 n0, .int .u64 n1, .int .u64 n2, .int .u64 n3]), ?_, R4_num4 (wf_W w0) (wf_W w1) (wf_W w2) (wf_W w3)⟩
    rw [vI_num4 (wf_W w0) (wf_W w1) (wf_W w2) (wf_W w3)]; rfl
end
end Go.Sx

namespace Go.Sx
open Go.RowKit Go.ChangeShapes Go.WideShapes
section
variable {H : Type} {enc : TypeId × Value → H} {P : Program}
theorem slice_cells {t e : TypeId} {W : World} {r : Reach} {b0 : Nat} {v : Value} (hu : P.underlying t = some (.slice e)) (hval : Value.okWide P W r b0 t v) : v.cells = #[v] := by
  cases v <;> simp [Value.okWide, hu] at hval <;> first | rfl | simp [Cell.okWide, Cell.ok, hu] at hval
theorem below_trodAll {W W' : World} (hl : laidOutB P = true) : ∀ {ts : List TypeId} {vs : List Value} {ds : List (DataW H)} {ps : List MemPlace}, (∀ t ∈ ts, P.readableRec t = true ∧ t < P.types.size) →
    DataW.TrodAll enc P W 0 (fun _ => true) true ts vs ds ps → Below W.heap.size W W' → (∀ x ∈ ps, x.block < W.heap.size) → DataW.TrodAll enc P W' 0 (fun b => decide (b < W.heap.size)) true ts vs ds ps
  | [], vs, ds, ps, _, h, _, _ => by
    obtain ⟨rfl, rfl, rfl⟩ := trodAll_nil h
    exact rfl
  | t :: ts, vs, ds, ps, ht, h, hb, hlt => by
    obtain ⟨v, vs', d, ds', p, q, rfl, rfl, rfl, hd, hr⟩ := trodAll_cons h
    obtain ⟨h1, h2⟩ := ht t (List.mem_cons_self ..)
    exact ⟨p, q, Below.trod hl h1 h2 hd hb (fun x hx => hlt x (List.mem_append_left _ hx)), below_trodAll hl (fun t' h' => ht t' (List.mem_cons_of_mem _ h')) hr hb (fun x hx => hlt x (List.mem_append_right _ hx)), rfl⟩
theorem post_of_below2 {f : Func} {s : ChangeSpec} {apart fresh handsOn : Bool} {W W' : World} {args : Array Value} {v : Value} {ds gs : List (DataW H)} {before : List MemPlace} (hl : laidOutB P = true) (ht : ∀ t ∈ f.params.toList, P.readableRec t = true ∧ t < P.types.size)
    (hW : DataW.Whole enc P f.params.toList s.vars apart W args.toList ds gs before)
    (hres : ∀ (b : Nat) (sp : Nat → Bool) (hd : Bool), DataW.TrodAll enc P W' b sp hd f.resultTypes.toList (v.resultList f.resultTypes.size) (s.fn H (ds ++ gs)).results [])
    (hvars : s.vars = []) (hargs : (s.fn H (ds ++ gs)).args = ds) (hvs : (s.fn H (ds ++ gs)).vars = []) (hb : Below W.heap.size W W') :
    s.post enc P f apart fresh handsOn false W args v W' := by
  have hlt := hW.lt
  have hW0 := hW
  obtain ⟨p, q, hA, hV, rfl, hz, hn⟩ := hW0
  rw [hvars] at hV
  obtain ⟨rfl, rfl⟩ := trodVars_none hV
  refine ⟨ds, [], _, [], p, [], hW, hres _ _ _, ?_, ?_, World.keptBut_mono (fun x hx => ⟨hx, ?_⟩) (hb.frame (· ∈ p ++ [])), fun h => by cases h⟩
  · rw [hargs]
    exact below_trodAll hl ht hA hb (fun x hx => hlt x (List.mem_append_left _ hx))
  · rw [hvars, hvs]; exact rfl
  · simp at hx; exact Or.inr (Or.inl hx)
end
end Go.Sx

namespace Go.Sx
open Go.RowKit
def Hl.emp : Hl := fun _ => none
def Hl.un (p q : Hl) : Hl := fun b => match p b with | some o => some o | none => q b
theorem un_some {p q : Hl} {b : Nat} {o : Obj} (h : Hl.un p q b = some o) : p b = some o ∨ q b = some o := by
  unfold Hl.un at h
  cases hp : p b with
  | some x => rw [hp] at h; exact .inl h
  | none => rw [hp] at h; exact .inr h
theorem un_left {p q : Hl} {b : Nat} {o : Obj} (h : p b = some o) : Hl.un p q b = some o := by unfold Hl.un; rw [h]
theorem un_right {p q : Hl} (d : p.disj q) {b : Nat} {o : Obj} (h : q b = some o) : Hl.un p q b = some o := by
  unfold Hl.un
  rcases d b with h' | h'
  · rw [h']; exact h
  · rw [h] at h'; cases h'
theorem un_none {p q : Hl} {b : Nat} (h : p b = none) (k : q b = none) : Hl.un p q b = none := by unfold Hl.un; rw [h]; exact k
theorem un_none_iff {p q : Hl} {b : Nat} : Hl.un p q b = none ↔ p b = none ∧ q b = none := by
  constructor
  · intro h
    unfold Hl.un at h
    cases hp : p b with
    | some x => rw [hp] at h; cases h
    | none => rw [hp] at h; exact ⟨rfl, h⟩
  · exact fun h => un_none h.1 h.2
theorem disj_symm {p q : Hl} (h : p.disj q) : q.disj p := fun b => (h b).symm
theorem disj_un {p q r : Hl} : (Hl.un p q).disj r ↔ p.disj r ∧ q.disj r := by
  constructor
  · intro h
    refine ⟨fun b => ?_, fun b => ?_⟩ <;> rcases h b with h' | h'
    · exact .inl (un_none_iff.1 h').1
    · exact .inr h'
    · exact .inl (un_none_iff.1 h').2
    · exact .inr h'
  · intro ⟨h1, h2⟩ b
    rcases h1 b with a | a
    · rcases h2 b with c | c
      · exact .inl (un_none a c)
      · exact .inr c
    · exact .inr a
theorem disj_un' {p q r : Hl} : r.disj (Hl.un p q) ↔ r.disj p ∧ r.disj q :=
  ⟨fun h => let ⟨a, b⟩ := disj_un.1 (disj_symm h); ⟨disj_symm a, disj_symm b⟩, fun ⟨a, b⟩ => disj_symm (disj_un.2 ⟨disj_symm a, disj_symm b⟩)⟩
theorem disj_emp {p : Hl} : p.disj Hl.emp := fun _ => .inr rfl
theorem un_emp {p : Hl} : Hl.un p Hl.emp = p := by funext b; unfold Hl.un; cases p b <;> rfl
theorem emp_un {p : Hl} : Hl.un Hl.emp p = p := rfl
theorem un_assoc {p q r : Hl} : Hl.un (Hl.un p q) r = Hl.un p (Hl.un q r) := by
  funext b; unfold Hl.un; cases p b <;> simp
theorem un_comm {p q : Hl} (d : p.disj q) : Hl.un p q = Hl.un q p := by
  funext b
  unfold Hl.un
  rcases d b with h | h <;> rw [h]
  · cases q b <;> rfl
  · cases p b <;> rfl
theorem inw_un {p q : Hl} {w : World} (h : p.inw w) (k : q.inw w) : (Hl.un p q).inw w := fun b o hb => (un_some hb).elim (h b o) (k b o)
theorem inw_left {p q : Hl} {w : World} (h : (Hl.un p q).inw w) : p.inw w := fun b o hb => h b o (un_left hb)
theorem inw_right {p q : Hl} {w : World} (d : p.disj q) (h : (Hl.un p q).inw w) : q.inw w := fun b o hb => h b o (un_right d hb)
/-! ### Lists of slots, as one piece of the heap -/
def SepL : List Slot → Hl → Prop
  | [], h => h = Hl.emp
  | s :: l, h => ∃ p q, s.sat p ∧ SepL l q ∧ p.disj q ∧ h = Hl.un p q
theorem sep_nil {h : Hl} : SepL [] h ↔ h = Hl.emp := Iff.rfl
theorem sep_append : ∀ (a b : List Slot) {h : Hl}, SepL (a ++ b) h ↔ ∃ p q, SepL a p ∧ SepL b q ∧ p.disj q ∧ h = Hl.un p q
  | [], b, h => ⟨fun hb => ⟨Hl.emp, h, rfl, hb, fun _ => .inl rfl, rfl⟩, fun ⟨p, q, hp, hq, _, e⟩ => by cases hp; subst e; exact hq⟩
  | s :: a, b, h => by
    constructor
    · rintro ⟨p, q, hs, hr, d, rfl⟩
      obtain ⟨p2, q2, ha, hb, d2, rfl⟩ := (sep_append a b).1 hr
      have d' := disj_un'.1 d
      exact ⟨Hl.un p p2, q2, ⟨p, p2, hs, ha, d'.1, rfl⟩, hb, disj_un.2 ⟨d'.2, d2⟩, un_assoc.symm⟩
    · rintro ⟨p, q, ⟨p1, p2, hs, ha, d1, rfl⟩, hb, d, rfl⟩
      have d' := disj_un.1 d
      exact ⟨p1, Hl.un p2 q, hs, (sep_append a b).2 ⟨p2, q, ha, hb, d'.2, rfl⟩, disj_un'.2 ⟨d1, d'.1⟩, un_assoc⟩
theorem sep_swap {a b : List Slot} {h : Hl} (k : SepL (a ++ b) h) : SepL (b ++ a) h := by
  obtain ⟨p, q, hp, hq, d, rfl⟩ := (sep_append a b).1 k
  exact (sep_append b a).2 ⟨q, p, hq, hp, disj_symm d, un_comm d⟩
theorem sep_mid {a b c : List Slot} {h : Hl} : SepL (a ++ b ++ c) h ↔ SepL (b ++ (a ++ c)) h := by
  constructor
  · intro k
    rw [List.append_assoc] at k
    obtain ⟨p, q, hp, hq, d, rfl⟩ := (sep_append a (b ++ c)).1 k
    obtain ⟨p2, q2, hp2, hq2, d2, rfl⟩ := (sep_append b c).1 hq
    have d' := disj_un'.1 d
    refine (sep_append b (a ++ c)).2 ⟨p2, Hl.un p q2, hp2, (sep_append a c).2 ⟨p, q2, hp, hq2, d'.2, rfl⟩, disj_un'.2 ⟨disj_symm d'.1, d2⟩, ?_⟩
    rw [← un_assoc, un_comm d'.1, un_assoc]
  · intro k
    obtain ⟨p, q, hp, hq, d, rfl⟩ := (sep_append b (a ++ c)).1 k
    obtain ⟨p2, q2, hp2, hq2, d2, rfl⟩ := (sep_append a c).1 hq
    have d' := disj_un'.1 d
    rw [List.append_assoc]
    refine (sep_append a (b ++ c)).2 ⟨p2, Hl.un p q2, hp2, (sep_append b c).2 ⟨p, q2, hp, hq2, d'.2, rfl⟩, disj_un'.2 ⟨disj_symm d'.1, d2⟩, ?_⟩
    rw [← un_assoc, un_comm d'.1, un_assoc]
theorem sep_weaken {s : Slot} {l : List Slot} {h : Hl} (k : SepL (s :: l) h) : ∃ h', SepL l h' ∧ ∀ b o, h' b = some o → h b = some o := by
  obtain ⟨p, q, _, hl, d, rfl⟩ := k
  exact ⟨q, hl, fun b o hb => un_right d hb⟩
/-! ### What is owned, as one piece -/
theorem own_sep : ∀ {l : List Slot} {R : HP} {w : World}, Own (ofList l) R w ↔ ∃ h q, SepL l h ∧ R q ∧ h.inw w ∧ q.inw w ∧ h.disj q
  | [], R, w => by
    constructor
    · rintro ⟨p, q, hs, hq, hp, hqw, hd, hdq⟩
      exact ⟨Hl.emp, q, rfl, hq, fun b o hb => (by cases hb), hqw, fun _ => .inl rfl⟩
    · rintro ⟨h, q, _, hq, _, hqw, _⟩
      exact ⟨fun _ _ => none, q, fun i => fun _ => rfl, hq, fun i b o hb => (by cases hb), hqw, fun i j _ b => .inl rfl, fun i b => .inl rfl⟩
  | s :: l, R, w => by
    constructor
    · rintro ⟨p, q, hs, hq, hp, hqw, hd, hdq⟩
      have : Own (ofList l) (fun q' => ∃ q0, R q0 ∧ q' = Hl.un (p 0) q0 ∧ q0.inw w ∧ (p 0).disj q0) w := by
        refine ⟨fun i => p (i + 1), Hl.un (p 0) q, fun i => hs (i + 1), ⟨q, hq, rfl, hqw, hdq 0⟩, fun i => hp (i + 1), inw_un (hp 0) hqw, fun i j h => hd _ _ (fun e => h (Nat.succ.inj e)), fun i => disj_un'.2 ⟨hd _ _ (by omega), hdq _⟩⟩
      obtain ⟨h, q', hl, ⟨q0, hq0, rfl, hq0w, d0⟩, hw, hqw', d⟩ := own_sep.1 this
      have d' := disj_un'.1 d
      exact ⟨Hl.un (p 0) h, q0, ⟨p 0, h, hs 0, hl, disj_symm d'.1, rfl⟩, hq0, inw_un (hp 0) hw, hq0w, disj_un.2 ⟨d0, d'.2⟩⟩
    · rintro ⟨h, q, ⟨p, h', hs, hl, d, rfl⟩, hq, hw, hqw, dq⟩
      have dq' := disj_un.1 dq
      have : Own (ofList l) (fun q' => q' = Hl.un p q) w := own_sep.2 ⟨h', Hl.un p q, hl, rfl, inw_right d hw, inw_un (inw_left hw) hqw, disj_un'.2 ⟨disj_symm d, dq'.2⟩⟩
      obtain ⟨pp, q2, hs2, rfl, hp2, hq2, hd2, hdq2⟩ := this
      refine ⟨fun i => match i with | 0 => p | i + 1 => pp i, q, fun i => ?_, hq, fun i => ?_, hqw, fun i j hij => ?_, fun i => ?_⟩
      · cases i with
        | zero => exact hs
        | succ i => exact hs2 i
      · cases i with
        | zero => exact inw_left hw
        | succ i => exact hp2 i
      · cases i with
        | zero =>
          cases j with
          | zero => exact absurd rfl hij
          | succ j => exact disj_symm (disj_un'.1 (hdq2 j)).1
        | succ i =>
          cases j with
          | zero => exact (disj_un'.1 (hdq2 i)).1
          | succ j => exact hd2 i j (fun e => hij (e ▸ rfl))
      · cases i with
        | zero => exact dq'.1
        | succ i => exact (disj_un'.1 (hdq2 i)).2
/-- Slots that say no less. -/
def Imp (a b : List Slot) : Prop := ∀ (R : HP) (w : World), Own (ofList a) R w → Own (ofList b) R w
theorem Imp.of {a b : List Slot} (h : ∀ p, SepL a p → ∃ q, SepL b q ∧ ∀ x o, q x = some o → p x = some o) : Imp a b := by
  intro R w ho
  obtain ⟨p, r, hp, hr, hpw, hrw, d⟩ := own_sep.1 ho
  obtain ⟨q, hq, hsub⟩ := h p hp
  refine own_sep.2 ⟨q, r, hq, hr, fun b o hb => hpw b o (hsub b o hb), hrw, fun b => ?_⟩
  rcases d b with h' | h'
  · left
    cases hqb : q b with
    | none => rfl
    | some o => rw [hsub b o hqb] at h'; cases h'
  · exact .inr h'
theorem Imp.same {a b : List Slot} (h : ∀ p, SepL a p → SepL b p) : Imp a b := .of fun p hp => ⟨p, h p hp, fun _ _ h => h⟩
theorem Imp.refl (a : List Slot) : Imp a a := fun _ _ h => h
theorem Imp.trans {a b c : List Slot} (h : Imp a b) (k : Imp b c) : Imp a c := fun R w x => k R w (h R w x)
theorem Imp.swap (a b : List Slot) : Imp (a ++ b) (b ++ a) := .same fun _ => sep_swap
theorem Imp.mid (a b c : List Slot) : Imp (a ++ b ++ c) (b ++ (a ++ c)) := .same fun _ => sep_mid.1
theorem Imp.unmid (a b c : List Slot) : Imp (b ++ (a ++ c)) (a ++ b ++ c) := .same fun _ => sep_mid.2
theorem Imp.drop (a b : List Slot) : Imp (a ++ b) a := .of fun p hp => by
  obtain ⟨p, q, ha, hb, d, rfl⟩ := (sep_append a b).1 hp
  exact ⟨p, ha, fun x o h => un_left h⟩
/-! ### Bundles -/
/-- Slots as one: the numbers ns and the data d tell what they are; E is what is hidden. -/
def bun {E : Type} (ns : List Nat) (d : Dat) (F : E → List Slot) : Slot := .par ns d (fun h => ∃ e, SepL (F e) h)
theorem bun_shut {E : Type} {ns : List Nat} {d : Dat} {F : E → List Slot} (e : E) (l : List Slot) : Imp (F e ++ l) (bun ns d F :: l) := .same fun p hp => by
  obtain ⟨p, q, ha, hb, d, rfl⟩ := (sep_append _ _).1 hp
  exact ⟨p, q, ⟨e, ha⟩, hb, d, rfl⟩
theorem bun_open {E : Type} {ns : List Nat} {d : Dat} {F : E → List Slot} {l : List Slot} {R : HP} {w : World} (h : Own (ofList (bun ns d F :: l)) R w) : ∃ e, Own (ofList (F e ++ l)) R w := by
  obtain ⟨h, q, ⟨p, h', ⟨e, hs⟩, hl, d, rfl⟩, hq, hw, hqw, dq⟩ := own_sep.1 h
  exact ⟨e, own_sep.2 ⟨_, q, (sep_append _ _).2 ⟨p, h', hs, hl, d, rfl⟩, hq, hw, hqw, dq⟩⟩
/-! ### A contract over some slots, used among others; over bundles -/
theorem own_frame {a b : List Slot} {R : HP} {w : World} : Own (ofList (a ++ b)) R w ↔ Own (ofList a) (fun q => ∃ h r, SepL b h ∧ R r ∧ h.disj r ∧ q = Hl.un h r) w := by
  constructor
  · intro ho
    obtain ⟨h, q, hab, hq, hw, hqw, d⟩ := own_sep.1 ho
    obtain ⟨p1, p2, ha, hb, d12, rfl⟩ := (sep_append a b).1 hab
    have dd := disj_un.1 d
    exact own_sep.2 ⟨p1, Hl.un p2 q, ha, ⟨p2, q, hb, hq, dd.2, rfl⟩, inw_left hw, inw_un (inw_right d12 hw) hqw, disj_un'.2 ⟨d12, dd.1⟩⟩
  · intro ho
    obtain ⟨p1, q, ha, ⟨p2, r, hb, hr, dr, rfl⟩, hw, hqw, d⟩ := own_sep.1 ho
    have dd := disj_un'.1 d
    exact own_sep.2 ⟨Hl.un p1 p2, r, (sep_append a b).2 ⟨p1, p2, ha, hb, dd.1, rfl⟩, hr, inw_un hw (inw_left hqw), inw_right dr hqw, disj_un.2 ⟨dd.2, dr⟩⟩
theorem CallT.frame {P : Program} {f : FuncId} {args : Array Value} {Hs : List Slot} {X : Type} {val : X → Value} {us : X → List Slot} {Φ : X → Prop} (h : CallT P f args Hs X val us Φ) (l : List Slot) :
    CallT P f args (Hs ++ l) X val (fun x => us x ++ l) Φ :=
  ⟨h.enter, fun R w ho => (h.calls _ w (own_frame.1 ho)).mono fun _ _ ⟨x, hx, he, ho', hext⟩ => ⟨x, hx, he, own_frame.2 ho', hext⟩⟩
/-- The slots that a contract asks for are in what one has; what it leaves says enough. -/
theorem CallT.conv {P : Program} {f : FuncId} {args : Array Value} {Hs Ks : List Slot} {X : Type} {val : X → Value} {us vs : X → List Slot} {Φ : X → Prop} (h : CallT P f args Hs X val us Φ) (hi : Imp Ks Hs) (ho : ∀ x, Φ x → Imp (us x) (vs x)) :
    CallT P f args Ks X val vs Φ :=
  ⟨h.enter, fun R w hw => (h.calls R w (hi R w hw)).mono fun _ _ ⟨x, hx, he, ho', hext⟩ => ⟨x, hx, he, ho x hx _ _ ho', hext⟩⟩
/-- A bundle is opened: whatever is hidden, the contract holds. -/
theorem CallT.unbun {P : Program} {f : FuncId} {args : Array Value} {E : Type} {ns : List Nat} {d : Dat} {F : E → List Slot} {l : List Slot} {X : Type} {val : X → Value} {us : X → List Slot} {Φ : X → Prop}
    (h : ∀ e, CallT P f args (F e ++ l) X val us Φ) (e0 : EnterOK P f) : CallT P f args (bun ns d F :: l) X val us Φ :=
  ⟨e0, fun R w hw => let ⟨e, he⟩ := bun_open hw; (h e).calls R w he⟩
theorem CallT.exists {P : Program} {f : FuncId} {args : Array Value} {Hs : List Slot} {X Y : Type} {val : X → Value} {us : X → List Slot} {Φ : X → Prop} {val' : Y → Value} {us' : Y → List Slot} {Ψ : Y → Prop}
    (h : CallT P f args Hs X val us Φ) (hk : ∀ x, Φ x → ∃ y, Ψ y ∧ val x = val' y ∧ Imp (us x) (us' y)) : CallT P f args Hs Y val' us' Ψ :=
  ⟨h.enter, fun R w hw => (h.calls R w hw).mono fun _ _ ⟨x, hx, he, ho, hext⟩ => let ⟨y, hy, h1, h2⟩ := hk x hx; ⟨y, hy, h1 ▸ he, h2 _ _ ho, hext⟩⟩
end Go.Sx

namespace Go.Sx
open Go.RowKit
abbrev KV := List (Value × Value)
noncomputable instance decValue : DecidableEq Value := fun _ _ => Classical.propDecidable _
def kvs (es : Array MapEntry) : KV := es.toList.map fun e => (e.key, e.val)
/-- Each entry has its own birth, before the clock. -/
def Born (es : Array MapEntry) (clock : Nat) : Prop := (es.toList.map (·.born)).Nodup ∧ ∀ e ∈ es.toList, e.born < clock
theorem Born.push {es : Array MapEntry} {clock : Nat} (h : Born es clock) (k v : Value) : Born (es.push { key := k, val := v, born := clock }) (clock + 1) := by
  refine ⟨?_, fun e he => ?_⟩
  · rw [Array.toList_push, List.map_append, List.nodup_append]
    refine ⟨h.1, by simp, fun a ha b hb => ?_⟩
    simp at hb; subst hb
    obtain ⟨e, he, rfl⟩ := List.mem_map.1 ha
    exact Nat.ne_of_lt (h.2 e he)
  · rw [Array.toList_push] at he
    rcases List.mem_append.1 he with he | he
    · exact Nat.lt_succ_of_lt (h.2 e he)
    · simp at he; subst he; exact Nat.lt_succ_self _
theorem modify_born {f : MapEntry → MapEntry} (hf : ∀ y, (f y).born = y.born) : ∀ (l : List MapEntry) (i : Nat), (l.modify i f).map (·.born) = l.map (·.born)
  | [], i => by simp
  | x :: l, 0 => by simp [hf]
  | x :: l, i + 1 => by simp [modify_born hf l i]
theorem Born.modify {es : Array MapEntry} {clock i : Nat} {f : MapEntry → MapEntry} (h : Born es clock) (hf : ∀ y, (f y).born = y.born) : Born (es.modify i f) clock := by
  have e : (es.modify i f).toList.map (·.born) = es.toList.map (·.born) := by rw [Array.toList_modify, modify_born hf]
  refine ⟨by rw [e]; exact h.1, fun x hx => ?_⟩
  have : x.born ∈ es.toList.map (·.born) := by rw [← e]; exact List.mem_map.2 ⟨x, hx, rfl⟩
  obtain ⟨y, hy, hxy⟩ := List.mem_map.1 this
  have := h.2 y hy
  omega
theorem Born.erase {es : Array MapEntry} {clock i : Nat} (h : Born es clock) : Born (es.eraseIdxIfInBounds i) clock := by
  have hs : (es.eraseIdxIfInBounds i).toList.Sublist es.toList := by
    unfold Array.eraseIdxIfInBounds
    split
    · rw [Array.toList_eraseIdx]; exact List.eraseIdx_sublist _ _
    · exact List.Sublist.refl _
  exact ⟨h.1.sublist (hs.map _), fun e he => h.2 e (hs.subset he)⟩
theorem Born.empty : Born #[] 0 := ⟨by simp, fun e he => by simp at he⟩
/-- The map at block r holds m. -/
def mo (r : Nat) (m : KV) : Slot := .par [r] (.kv m) (fun h => ∃ es clock, h r = some (.map es clock) ∧ (∀ c, c ≠ r → h c = none) ∧ kvs es = m ∧ Born es clock)
def skv (s : Slot) : KV := match s with | .par _ (.kv m) _ => m | _ => []
def snum (s : Slot) (i : Nat) : Nat := match s with | .par ns _ _ => ns.getD i 0 | _ => 0
def sents (s : Slot) : List Ent := match s with | .par _ (.ents L) _ => L | _ => []
theorem mo_open {r : Nat} {m : KV} {l : List Slot} {R : HP} {w : World} (h : Own (ofList (mo r m :: l)) R w) : ∃ es clock, (kvs es = m ∧ Born es clock) ∧ Own (ofList (.blk r (.map es clock) :: l)) R w := by
  obtain ⟨p, q, hs, rest⟩ := h
  obtain ⟨es, clock, h1, h2, h3⟩ := hs 0
  refine ⟨es, clock, h3, p, q, fun i => ?_, rest⟩
  cases i with
  | zero => exact ⟨h1, h2⟩
  | succ i => exact hs (i + 1)
theorem mo_shut {r : Nat} {m : KV} {es : Array MapEntry} {clock : Nat} {l : List Slot} {R : HP} {w : World} (e : kvs es = m) (hbn : Born es clock) (h : Own (ofList (.blk r (.map es clock) :: l)) R w) : Own (ofList (mo r m :: l)) R w := by
  obtain ⟨p, q, hs, rest⟩ := h
  refine ⟨p, q, fun i => ?_, rest⟩
  cases i with
  | zero => exact ⟨es, clock, (hs 0).1, (hs 0).2, e, hbn⟩
  | succ i => exact hs (i + 1)

noncomputable def mget (m : KV) (k : Value) : Option Value := (m.find? fun e => decide (e.1 = k)).map (·.2)

noncomputable def mset (m : KV) (k v : Value) : KV := if (mget m k).isSome then m.map (fun e => if e.1 = k then (k, v) else e) else m ++ [(k, v)]

noncomputable def mdel (m : KV) (k : Value) : KV := m.eraseP fun e => decide (e.1 = k)
/-- Keys stand once. -/
def MOK (m : KV) : Prop := (m.map (·.1)).Nodup
theorem mget_nil (k : Value) : mget [] k = none := rfl
theorem mget_cons (e : Value × Value) (m : KV) (k : Value) : mget (e :: m) k = if e.1 = k then some e.2 else mget m k := by
  unfold mget
  rw [List.find?_cons]
  by_cases h : e.1 = k <;> simp [h]
theorem mget_none {m : KV} {k : Value} : mget m k = none ↔ ∀ e ∈ m, e.1 ≠ k := by
  unfold mget
  rw [Option.map_eq_none_iff, List.find?_eq_none]
  simp
theorem mget_append (m n : KV) (k : Value) : mget (m ++ n) k = (mget m k).or (mget n k) := by
  induction m with
  | nil => rfl
  | cons e m ih => rw [List.cons_append, mget_cons, mget_cons, ih]; split <;> rfl
theorem mget_map_set (m : KV) (k v : Value) (k' : Value) : mget (m.map fun e => if e.1 = k then (k, v) else e) k' = if k' = k then (mget m k).map (fun _ => v) else mget m k' := by
  induction m with
  | nil => simp [mget_nil]
  | cons e m ih =>
    rw [List.map_cons, mget_cons, mget_cons, mget_cons, ih]
    by_cases h : e.1 = k
    · rw [if_pos h]
      by_cases h' : k' = k
      · subst h'; simp [h]
      · rw [if_neg (fun x => h' x.symm), if_neg h', if_neg h', if_neg (fun x => h' (x.symm.trans h))]
    · rw [if_neg h]
      by_cases h' : k' = k
      · subst h'; simp [h]
      · simp [h']
theorem mget_set (m : KV) (k v k' : Value) : mget (mset m k v) k' = if k' = k then some v else mget m k' := by
  unfold mset
  split
  · rename_i h
    rw [mget_map_set]
    split
    · obtain ⟨x, hx⟩ := Option.isSome_iff_exists.1 h
      rw [hx]; rfl
    · rfl
  · rename_i h
    have hn : mget m k = none := by simpa using h
    rw [mget_append, mget_cons, mget_nil]
    split
    · rename_i e; subst e; rw [hn]; simp
    · rename_i e; rw [if_neg (fun x => e x.symm)]; simp
theorem mget_del {m : KV} (hm : MOK m) (k k' : Value) : mget (mdel m k) k' = if k' = k then none else mget m k' := by
  induction m with
  | nil => simp [mdel, mget_nil]
  | cons e m ih =>
    unfold MOK at hm
    rw [List.map_cons, List.nodup_cons] at hm
    unfold mdel
    rw [List.eraseP_cons]
    by_cases h : e.1 = k
    · simp only [h, decide_true, cond_true]
      rw [mget_cons]
      by_cases h' : k' = k
      · subst h'
        rw [if_pos rfl]
        refine mget_none.2 fun x hx he => hm.1 ?_
        exact List.mem_map.2 ⟨x, hx, by rw [he, h]⟩
      · rw [if_neg h', if_neg (fun x => h' (x.symm.trans h))]
    · simp only [h, decide_false, cond_false]
      rw [mget_cons, mget_cons]
      have := ih hm.2
      unfold mdel at this
      rw [this]
      by_cases h' : e.1 = k'
      · simp only [h', if_true]; rw [if_neg (fun x => h (h'.trans x))]
      · simp [h']
theorem keys_map_set (m : KV) (k v : Value) : (m.map fun e => if e.1 = k then (k, v) else e).map (·.1) = m.map (·.1) := by
  rw [List.map_map]
  apply List.map_congr_left
  intro e he
  by_cases h : e.1 = k <;> simp [h]
theorem MOK.set {m : KV} (h : MOK m) (k v : Value) : MOK (mset m k v) := by
  unfold mset
  split
  · unfold MOK; rw [keys_map_set]; exact h
  · rename_i hn
    have hn : mget m k = none := by simpa using hn
    unfold MOK
    rw [List.map_append, List.map_cons, List.map_nil, List.nodup_append]
    refine ⟨h, by simp, fun a ha b hb => ?_⟩
    simp at hb; subst hb
    obtain ⟨e, he, rfl⟩ := List.mem_map.1 ha
    exact mget_none.1 hn e he
theorem MOK.del {m : KV} (h : MOK m) (k : Value) : MOK (mdel m k) := by
  unfold MOK mdel
  exact h.sublist (List.eraseP_sublist.map _)
theorem MOK.nil : MOK [] := List.nodup_nil
/-! ### Keys -/
/-- How the model compares keys of type kt: as values. -/
structure KL (P : Program) (kt : TypeId) (Ok : Value → Prop) : Prop where
  check : ∀ b k w, Ok k → (Instr.checkKey b 10000 kt k).run P w = .ok () w
  find : ∀ k (es : List MapEntry) w, Ok k → (∀ e ∈ es, Ok e.key) → ∃ o, (Instr.findKey kt k es).run P w = .ok o w ∧
    (match o with | none => mget (es.map fun e => (e.key, e.val)) k = none | some (i, v) => ∃ e, es[i]? = some e ∧ e.key = k ∧ e.val = v ∧ ∀ j e', j < i → es[j]? = some e' → e'.key ≠ k)
  same : ∀ k, Ok k → Instr.sameBits 10000 k k = true
theorem mget_found {es : List MapEntry} {k : Value} {i : Nat} {e : MapEntry} (h : es[i]? = some e) (hk : e.key = k) (hl : ∀ j e', j < i → es[j]? = some e' → e'.key ≠ k) : mget (es.map fun e => (e.key, e.val)) k = some e.val := by
  induction es generalizing i with
  | nil => simp at h
  | cons x es ih =>
    rw [List.map_cons, mget_cons]
    cases i with
    | zero => simp at h; subst h; simp [hk]
    | succ i =>
      have hx := hl 0 x (by omega) (by simp)
      rw [if_neg hx]
      exact ih (by simpa using h) fun j e' hj he => hl (j + 1) e' (by omega) (by simpa using he)
structure TM (P : Program) (t kt vt : TypeId) (Ok : Value → Prop) (z : Value) : Prop where
  und : P.underlying t = some (.map kt vt)
  key : KL P kt Ok
  zero : ∀ w, (zeroValue vt).run P w = .ok z w
def KeysOk (Ok : Value → Prop) (m : KV) : Prop := ∀ e ∈ m, Ok e.1
theorem kvs_keys {Ok : Value → Prop} {es : Array MapEntry} {m : KV} (e : kvs es = m) (h : KeysOk Ok m) : ∀ x ∈ es.toList, Ok x.key := fun x hx => h (x.key, x.val) (by rw [← e]; exact List.mem_map.2 ⟨x, hx, rfl⟩)
theorem run_getMap {P : Program} {w : World} {r : Nat} {es : Array MapEntry} {clock : Nat} (h : w.heap[r]? = some (.map es clock)) : (getObj r).run P w = .ok (.map es clock) w := by
  simp [getObj, Sem.run, h]
theorem xlookup {P : Program} {t kt vt : TypeId} {Ok : Value → Prop} {z : Value} (T : TM P t kt vt Ok z) {r : Nat} {m : KV} (hm : KeysOk Ok m) {k : Value} (hk : Ok k) :
    OpT P (do pure (.value (← Instr.lookup t (.map (some r)) k true))) [mo r m] Unit (fun _ => .tuple #[(mget m k).getD z, .bool (mget m k).isSome]) (fun _ => [mo r m]) (fun _ => True) := by
  intro R w ho
  obtain ⟨es, clock, ⟨e, hbn⟩, ho'⟩ := mo_open ho
  have hb := ho'.block (i := 0) rfl
  obtain ⟨o, hf, hspec⟩ := T.key.find k es.toList w hk (kvs_keys e hm)
  refine ⟨(), w, trivial, .inl ?_, ho, Ext.refl w⟩
  have hg : mget m k = o.map (·.2) := by
    rw [← e]
    cases o with
    | none => exact hspec
    | some iv =>
      obtain ⟨x, h1, h2, h3, h4⟩ := hspec
      exact (mget_found h1 h2 h4).trans (by rw [h3]; rfl)
  rw [hg]
  simp only [Instr.lookup, Sem.run_bind, run_underlying T.und, Result.andThen_ok, run_getMap hb, Sem.run_pure, T.key.check _ _ _ hk, hf]
  cases o with
  | none => simp [T.zero w]
  | some iv => simp
theorem own_setMap {r : Nat} {es : Array MapEntry} {clock : Nat} {o : Obj} {l : List Slot} {R : HP} {w : World} (ho : Own (ofList (.blk r (.map es clock) :: l)) R w) :
    Own (ofList (.blk r o :: l)) R { w with heap := w.heap.setIfInBounds r o } := by
  have hb := ho.block (i := 0) rfl
  have hlt : r < w.heap.size := by
    rcases Nat.lt_or_ge r w.heap.size with h | h
    · exact h
    · simp [Array.getElem?_eq_none h] at hb
  have := ho.set (i := 0) (w' := { w with heap := w.heap.setIfInBounds r o }) (o' := o) rfl (by simp [hlt]) (fun c hc => by simp [Ne.symm hc])
  refine (congrArg (fun H => Own H R _) ?_).mp this
  funext i
  cases i <;> rfl
theorem run_setMap {P : Program} {w : World} {r : Nat} {es : Array MapEntry} {clock : Nat} {o : Obj} (h : w.heap[r]? = some (.map es clock)) : (setObj r o).run P w = .ok () { w with heap := w.heap.setIfInBounds r o } := by
  simp [setObj, Sem.run, h]
theorem ext_setMap (w : World) (r : Nat) (o : Obj) : Ext w { w with heap := w.heap.setIfInBounds r o } := ⟨rfl, rfl, rfl, by simp, by first | exact Nat.le_refl _ | exact Nat.le_succ _ | simp⟩
theorem kvs_modify {es : Array MapEntry} {i : Nat} {x : MapEntry} {k v : Value} {f : MapEntry → MapEntry} (h : es.toList[i]? = some x) (hk : x.key = k) (hl : ∀ j e', j < i → es.toList[j]? = some e' → e'.key ≠ k) (hn : MOK (kvs es))
    (hf : ∀ y, (f y).key = k ∧ (f y).val = v) : kvs (es.modify i f) = mset (kvs es) k v := by
  have hg : mget (kvs es) k = some x.val := mget_found h hk hl
  unfold mset
  rw [if_pos (by rw [hg]; rfl)]
  unfold kvs
  apply List.ext_getElem?
  intro j
  rw [List.getElem?_map, List.getElem?_map, List.getElem?_map]
  have hm : (es.modify i f).toList[j]? = if i = j then es.toList[j]?.map f else es.toList[j]? := by
    rw [Array.toList_modify, List.getElem?_modify]
    by_cases hij : i = j <;> simp [hij]
  rw [hm]
  by_cases hij : i = j
  · subst hij
    rw [if_pos rfl, h]
    simp [hk, hf]
  · rw [if_neg hij]
    cases hj : es.toList[j]? with
    | none => rfl
    | some y =>
      have hy : y.key ≠ k := by
        intro hyk
        rcases Nat.lt_or_gt_of_ne hij with hlt | hlt
        · -- j behind i: the key would stand twice
          unfold MOK at hn
          have h1 : ((kvs es).map (·.1))[i]? = some k := by simp [kvs, h, hk]
          have h2 : ((kvs es).map (·.1))[j]? = some k := by simp [kvs, hj, hyk]
          obtain ⟨a1, b1⟩ := List.getElem?_eq_some_iff.1 h1
          obtain ⟨a2, b2⟩ := List.getElem?_eq_some_iff.1 h2
          exact hij ((List.getElem_inj hn).1 (b1.trans b2.symm))
        · exact hl j y hlt hj hyk
      simp [hy]
theorem kvs_push {es : Array MapEntry} {k v : Value} {b : Nat} (h : mget (kvs es) k = none) : kvs (es.push { key := k, val := v, born := b }) = mset (kvs es) k v := by
  unfold mset
  rw [if_neg (by rw [h]; simp)]
  simp [kvs]
theorem kvs_erase {es : Array MapEntry} {i : Nat} {x : MapEntry} {k : Value} (h : es.toList[i]? = some x) (hk : x.key = k) (hl : ∀ j e', j < i → es.toList[j]? = some e' → e'.key ≠ k) : kvs (es.eraseIdxIfInBounds i) = mdel (kvs es) k := by
  have key : ∀ (l : List MapEntry) (i : Nat), l[i]? = some x → (∀ j e', j < i → l[j]? = some e' → e'.key ≠ k) → (l.eraseIdx i).map (fun e => (e.key, e.val)) = mdel (l.map fun e => (e.key, e.val)) k := by
    intro l
    induction l with
    | nil => intro i h; simp at h
    | cons y l ih =>
      intro i h hl
      unfold mdel
      rw [List.map_cons, List.eraseP_cons]
      cases i with
      | zero =>
        simp at h; subst h
        simp [hk]
      | succ i =>
        have hy := hl 0 y (by omega) (by simp)
        simp only [hy, decide_false, cond_false, List.eraseIdx_cons_succ, List.map_cons]
        have := ih i (by simpa using h) fun j e' hj he => hl (j + 1) e' (by omega) (by simpa using he)
        unfold mdel at this
        rw [this]
  have hlt : i < es.size := by
    have := (List.getElem?_eq_some_iff.1 h).1
    simpa using this
  unfold kvs
  rw [← key es.toList i h hl]
  simp [Array.eraseIdxIfInBounds, hlt]
theorem keysOk_set {Ok : Value → Prop} {m : KV} (h : KeysOk Ok m) {k : Value} (hk : Ok k) (v : Value) : KeysOk Ok (mset m k v) := by
  intro e he
  unfold mset at he
  split at he
  · obtain ⟨x, hx, rfl⟩ := List.mem_map.1 he
    split
    · exact hk
    · exact h x hx
  · rcases List.mem_append.1 he with he | he
    · exact h e he
    · simp at he; subst he; exact hk
theorem keysOk_del {Ok : Value → Prop} {m : KV} (h : KeysOk Ok m) (k : Value) : KeysOk Ok (mdel m k) := fun e he => h e (List.mem_of_mem_eraseP he)
theorem keysOk_nil {Ok : Value → Prop} : KeysOk Ok [] := fun e h => by cases h
theorem xupdate {P : Program} {t kt vt : TypeId} {Ok : Value → Prop} {z : Value} (T : TM P t kt vt Ok z) {r : Nat} {m : KV} (hm : KeysOk Ok m) (hn : MOK m) {k : Value} (hk : Ok k) (v : Value) :
    OpT P (do Instr.mapUpdate t (.map (some r)) k v; pure .skip) [mo r m] Unit (fun _ => undef) (fun _ => [mo r (mset m k v)]) (fun _ => True) := by
  intro R w ho
  obtain ⟨es, clock, ⟨e, hbn⟩, ho'⟩ := mo_open ho
  have hb := ho'.block (i := 0) rfl
  obtain ⟨o, hf, hspec⟩ := T.key.find k es.toList w hk (kvs_keys e hm)
  cases o with
  | none =>
    have hg : mget (kvs es) k = none := hspec
    refine ⟨(), _, trivial, .inr ⟨?_, rfl⟩, mo_shut (by rw [kvs_push hg, e]) (hbn.push _ _) (own_setMap (o := .map (es.push { key := k, val := v, born := clock }) (clock + 1)) ho'), ext_setMap _ _ _⟩
    simp only [Instr.mapUpdate, Sem.run_bind, run_underlying T.und, Result.andThen_ok, run_getMap hb, T.key.check _ _ _ hk, hf, run_setMap hb, Sem.run_pure]
  | some iv =>
    obtain ⟨i, u⟩ := iv
    obtain ⟨x, h1, h2, h3, h4⟩ := hspec
    have hxi : es[i]? = some x := by simpa using h1
    refine ⟨(), _, trivial, .inr ⟨?_, rfl⟩, mo_shut (by rw [kvs_modify (v := v) h1 h2 h4 (by rw [e]; exact hn) (f := fun y => { y with key := k, val := v }) (fun y => ⟨rfl, rfl⟩), e]) (hbn.modify (f := fun y => { y with key := k, val := v }) fun _ => rfl) (own_setMap (o := .map (es.modify i fun y => { y with key := k, val := v }) clock) ho'), ext_setMap _ _ _⟩
    have hs : (Instr.keyThatStays (((es[i]?).map (·.key)).getD k) k).run P w = .ok k w := by
      rw [hxi]
      simp [h2, Instr.keyThatStays, T.key.same k hk]
    simp only [Instr.mapUpdate, Sem.run_bind, run_underlying T.und, Result.andThen_ok, run_getMap hb, T.key.check _ _ _ hk, hf, hs, run_setMap hb, Sem.run_pure]
theorem xdelete {P : Program} {t kt vt : TypeId} {Ok : Value → Prop} {z : Value} (T : TM P t kt vt Ok z) (ty kt' : TypeId) {r : Nat} {m : KV} (hm : KeysOk Ok m) {k : Value} (hk : Ok k) :
    OpT P (do pure (.value (← Builtin.delete_ #[t, kt'] ty #[.map (some r), k]))) [mo r m] Unit (fun _ => undef) (fun _ => [mo r (mdel m k)]) (fun _ => True) := by
  intro R w ho
  obtain ⟨es, clock, ⟨e, hbn⟩, ho'⟩ := mo_open ho
  have hb := ho'.block (i := 0) rfl
  obtain ⟨o, hf, hspec⟩ := T.key.find k es.toList w hk (kvs_keys e hm)
  cases o with
  | none =>
    have hg : mget (kvs es) k = none := hspec
    have hd : mdel m k = m := by
      unfold mdel
      refine List.eraseP_of_forall_not fun x hx => ?_
      rw [e] at hg
      simpa using mget_none.1 hg x hx
    refine ⟨(), _, trivial, .inl ?_, mo_shut (by rw [hd, e]) hbn (own_setMap (o := .map es clock) ho'), ext_setMap _ _ _⟩
    simp [Builtin.delete_, Sem.run_bind, run_underlying T.und, run_getMap hb, T.key.check _ _ _ hk, hf, run_setMap hb, undef]
  | some iv =>
    obtain ⟨i, u⟩ := iv
    obtain ⟨x, h1, h2, h3, h4⟩ := hspec
    refine ⟨(), _, trivial, .inl ?_, mo_shut (by rw [kvs_erase h1 h2 h4, e]) hbn.erase (own_setMap (o := .map (es.eraseIdxIfInBounds i) clock) ho'), ext_setMap _ _ _⟩
    simp [Builtin.delete_, Sem.run_bind, run_underlying T.und, run_getMap hb, T.key.check _ _ _ hk, hf, run_setMap hb, undef]
theorem xmlen {P : Program} {t kt vt : TypeId} (hu : P.underlying t = some (.map kt vt)) (ty : TypeId) {r : Nat} {m : KV} :
    OpT P (do pure (.value (← Builtin.len_ #[t] ty #[.map (some r)]))) [mo r m] Unit (fun _ => .int .i64 ((m.length : Nat) : Int)) (fun _ => [mo r m]) (fun _ => True) := by
  intro R w ho
  obtain ⟨es, clock, ⟨e, hbn⟩, ho'⟩ := mo_open ho
  have hb := ho'.block (i := 0) rfl
  refine ⟨(), w, trivial, .inl ?_, ho, Ext.refl w⟩
  have hl : es.size = m.length := by rw [← e]; simp [kvs]
  simp [Builtin.len_, Sem.run_bind, run_underlying hu, run_getMap hb, goInt, hl]
end Go.Sx

namespace Go.Sx
open Go.RowKit
def pur (φ : Prop) : Slot := .par [] .none (fun h => h = Hl.emp ∧ φ)
theorem sep_pur {φ : Prop} {a : List Slot} {h : Hl} : SepL (a ++ [pur φ]) h ↔ SepL a h ∧ φ := by
  constructor
  · intro k
    obtain ⟨p, q, ha, ⟨p2, q2, ⟨rfl, hφ⟩, rfl, _, rfl⟩, _, rfl⟩ := (sep_append _ _).1 k
    exact ⟨by rw [emp_un, un_emp]; exact ha, hφ⟩
  · intro ⟨ha, hφ⟩
    exact (sep_append _ _).2 ⟨h, Hl.emp, ha, ⟨Hl.emp, Hl.emp, ⟨rfl, hφ⟩, rfl, disj_emp, rfl⟩, disj_emp, un_emp.symm⟩
theorem sep_free {a : List Slot} {h : Hl} : SepL (a ++ [.free]) h ↔ SepL a h := by
  constructor
  · intro k
    obtain ⟨p, q, ha, ⟨p2, q2, hf, rfl, _, rfl⟩, _, rfl⟩ := (sep_append _ _).1 k
    have : p2 = Hl.emp := funext hf
    rw [this, emp_un, un_emp]; exact ha
  · intro ha
    exact (sep_append _ _).2 ⟨h, Hl.emp, ha, ⟨Hl.emp, Hl.emp, fun _ => rfl, rfl, disj_emp, rfl⟩, disj_emp, un_emp.symm⟩
/-! ### A map of a journal -/
structure MK where
  te : TypeId
  less : Value
  OkK : Value → Prop
  OkV : Value → Prop
structure KOK (K : MK) (m : KV) : Prop where
  once : MOK m
  ok : ∀ e ∈ m, K.OkK e.1 ∧ K.OkV e.2
theorem KOK.keys {K : MK} {m : KV} (h : KOK K m) : KeysOk K.OkK m := fun e he => (h.ok e he).1
theorem KOK.nil {K : MK} : KOK K [] := ⟨MOK.nil, fun e h => by cases h⟩
theorem mem_set {m : KV} {k v : Value} {e : Value × Value} (h : e ∈ mset m k v) : e = (k, v) ∨ e ∈ m := by
  unfold mset at h
  split at h
  · obtain ⟨x, hx, rfl⟩ := List.mem_map.1 h
    split
    · exact .inl rfl
    · exact .inr hx
  · rcases List.mem_append.1 h with h | h
    · exact .inr h
    · simp at h; exact .inl h
theorem KOK.set {K : MK} {m : KV} (h : KOK K m) {k v : Value} (hk : K.OkK k) (hv : K.OkV v) : KOK K (mset m k v) :=
  ⟨h.once.set k v, fun e he => (mem_set he).elim (fun x => by subst x; exact ⟨hk, hv⟩) (h.ok e)⟩
theorem KOK.del {K : MK} {m : KV} (h : KOK K m) (k : Value) : KOK K (mdel m k) := ⟨h.once.del k, fun e he => h.ok e (List.mem_of_mem_eraseP he)⟩
theorem mget_mem {m : KV} {k v : Value} (h : mget m k = some v) : (k, v) ∈ m := by
  unfold mget at h
  obtain ⟨e, he, rfl⟩ := Option.map_eq_some_iff.1 h
  have h1 := List.find?_some he
  have h2 := List.mem_of_find?_eq_some he
  simp at h1
  subst h1; exact h2
theorem KOK.val {K : MK} {m : KV} (h : KOK K m) {k v : Value} (hg : mget m k = some v) : K.OkV v := (h.ok _ (mget_mem hg)).2
def mF (K : MK) (b bj : Nat) (m : KV) : Nat → List Slot := fun r =>
  [.blk b (.cells #[.map (some r), .pointer (some ⟨bj, 0, none⟩), K.less] K.te (0, 0)), mo r m] ++ [pur (KOK K m)]
/-- The map whose block is b, of the journal at bj, holds m. -/
def mS (K : MK) (b bj : Nat) (m : KV) : Slot := bun [b, bj] (.kv m) (mF K b bj m)
theorem mS_shut {K : MK} {b bj r : Nat} {m : KV} (h : KOK K m) (l : List Slot) : Imp (.blk b (.cells #[.map (some r), .pointer (some ⟨bj, 0, none⟩), K.less] K.te (0, 0)) :: mo r m :: l) (mS K b bj m :: l) := by
  refine Imp.trans (.same fun p hp => ?_) (bun_shut r l)
  have h2 : SepL ([.blk b (.cells #[.map (some r), .pointer (some ⟨bj, 0, none⟩), K.less] K.te (0, 0)), mo r m] ++ l) p := hp
  obtain ⟨p1, p2, ha, hb, d, rfl⟩ := (sep_append _ _).1 h2
  exact (sep_append _ _).2 ⟨p1, p2, sep_pur.2 ⟨ha, h⟩, hb, d, rfl⟩
theorem mS_open {K : MK} {b bj : Nat} {m : KV} {l : List Slot} {R : HP} {w : World} (h : Own (ofList (mS K b bj m :: l)) R w) :
    ∃ r, KOK K m ∧ Own (ofList (.blk b (.cells #[.map (some r), .pointer (some ⟨bj, 0, none⟩), K.less] K.te (0, 0)) :: mo r m :: l)) R w := by
  obtain ⟨r, hr⟩ := bun_open h
  obtain ⟨p, q, hp, hq, hw, hqw, d⟩ := own_sep.1 hr
  obtain ⟨p1, p2, ha, hb, d2, rfl⟩ := (sep_append _ _).1 hp
  obtain ⟨ha', hk⟩ := sep_pur.1 ha
  exact ⟨r, hk, own_sep.2 ⟨_, q, (sep_append [_, _] l).2 ⟨p1, p2, ha', hb, d2, rfl⟩, hq, hw, hqw, d⟩⟩
/-- A contract over an opened map is one over the map. -/
theorem mS_call {P : Program} {f : FuncId} {args : Array Value} {K : MK} {b bj : Nat} {m : KV} {l : List Slot} {X : Type} {val : X → Value} {us : X → List Slot} {Φ : X → Prop} {m' : X → KV} (he : EnterOK P f)
    (h : ∀ r, KOK K m → CallT P f args (.blk b (.cells #[.map (some r), .pointer (some ⟨bj, 0, none⟩), K.less] K.te (0, 0)) :: mo r m :: l) X val (fun x => .blk b (.cells #[.map (some r), .pointer (some ⟨bj, 0, none⟩), K.less] K.te (0, 0)) :: mo r (m' x) :: us x) Φ)
    (hk : ∀ x, Φ x → KOK K m → KOK K (m' x)) : CallT P f args (mS K b bj m :: l) X val (fun x => mS K b bj (m' x) :: us x) Φ :=
  ⟨he, fun R w ho => by
    obtain ⟨r, hm, ho'⟩ := mS_open ho
    exact ((h r hm).calls R w ho').mono fun _ _ ⟨x, hx, e, o, ext⟩ => ⟨x, hx, e, mS_shut (hk x hx hm) _ _ _ o, ext⟩⟩
/-! ### The journal -/
abbrev N4 := Nat × Nat × Nat × Nat
abbrev Rw := Row
abbrev ptr (b : Nat) : Value := .pointer (some ⟨b, 0, none⟩)
def Ent.fn (e : Ent) (a : N4) : Value := .func (.func e.g) #[] #[ptr a.1, ptr a.2.1, ptr a.2.2.1, ptr a.2.2.2]
def Ent.sl (e : Ent) (a : N4) : List Slot :=
  [.blk a.1 (.cells #[.bool e.was.isSome] e.t1 (0, 0)), .blk a.2.1 (.cells (e.was.getD e.z).cells e.t2 (0, 0)), .blk a.2.2.1 (.cells #[ptr e.b] e.t3 (0, 0)), .blk a.2.2.2 (.cells e.key.cells e.t4 (0, 0))]
def ents (L : List Ent) (A : List N4) : List Slot := (L.zip A).flatMap fun x => x.1.sl x.2
def fns (L : List Ent) (A : List N4) : List Value := (L.zip A).map fun x => x.1.fn x.2
structure JK where
  tj : TypeId
  ft : TypeId
def jF (K : JK) (bj : Nat) (L : List Ent) : Row × List N4 → List Slot := fun e =>
  (.blk bj (.cells #[sv e.1] K.tj (0, 0)) :: ss K.ft e.1 :: ents L e.2) ++ [pur (vals e.1 = fns L e.2 ∧ e.2.length = L.length)]
/-- The journal at bj holds the entries L. -/
def jS (K : JK) (bj : Nat) (L : List Ent) : Slot := bun [bj] (.ents L) (jF K bj L)
theorem jS_shut {K : JK} {bj : Nat} {L : List Ent} {row : Row} {A : List N4} (hv : vals row = fns L A) (hl : A.length = L.length) (l : List Slot) :
    Imp (.blk bj (.cells #[sv row] K.tj (0, 0)) :: ss K.ft row :: (ents L A ++ l)) (jS K bj L :: l) := by
  refine Imp.trans (.same fun p hp => ?_) (bun_shut (row, A) l)
  have h2 : SepL ((.blk bj (.cells #[sv row] K.tj (0, 0)) :: ss K.ft row :: ents L A) ++ l) p := hp
  obtain ⟨p1, p2, ha, hb, d, rfl⟩ := (sep_append _ _).1 h2
  exact (sep_append _ _).2 ⟨p1, p2, sep_pur.2 ⟨ha, hv, hl⟩, hb, d, rfl⟩
theorem jS_open {K : JK} {bj : Nat} {L : List Ent} {l : List Slot} {R : HP} {w : World} (h : Own (ofList (jS K bj L :: l)) R w) :
    ∃ row A, vals row = fns L A ∧ A.length = L.length ∧ Own (ofList (.blk bj (.cells #[sv row] K.tj (0, 0)) :: ss K.ft row :: (ents L A ++ l))) R w := by
  obtain ⟨⟨row, A⟩, hr⟩ := bun_open h
  obtain ⟨p, q, hp, hq, hw, hqw, d⟩ := own_sep.1 hr
  obtain ⟨p1, p2, ha, hb, d2, rfl⟩ := (sep_append _ _).1 hp
  obtain ⟨ha', hv, hl⟩ := sep_pur.1 ha
  exact ⟨row, A, hv, hl, own_sep.2 ⟨_, q, (sep_append (_ :: _ :: ents L A) l).2 ⟨p1, p2, ha', hb, d2, rfl⟩, hq, hw, hqw, d⟩⟩
theorem fns_len {L : List Ent} {A : List N4} (h : A.length = L.length) : (fns L A).length = L.length := by simp [fns, h]
theorem fns_snoc {L : List Ent} {A : List N4} (h : A.length = L.length) (e : Ent) (a : N4) : fns (L ++ [e]) (A ++ [a]) = fns L A ++ [e.fn a] := by
  unfold fns; rw [List.zip_append h.symm, List.map_append]; rfl
theorem ents_snoc {L : List Ent} {A : List N4} (h : A.length = L.length) (e : Ent) (a : N4) : ents (L ++ [e]) (A ++ [a]) = ents L A ++ e.sl a := by
  unfold ents; rw [List.zip_append h.symm, List.flatMap_append]; simp
/-- A contract over the opened journal that leaves its entries alone. -/
theorem jS_read {P : Program} {f : FuncId} {args : Array Value} {K : JK} {bj : Nat} {L : List Ent} {X : Type} {val : X → Value} {Φ : X → Prop} (he : EnterOK P f)
    (h : ∀ row, vals row = vals row → (vals row).length = L.length → CallT P f args [.blk bj (.cells #[sv row] K.tj (0, 0)), ss K.ft row] X val (fun _ => [.blk bj (.cells #[sv row] K.tj (0, 0)), ss K.ft row]) Φ) :
    CallT P f args [jS K bj L] X val (fun _ => [jS K bj L]) Φ :=
  ⟨he, fun R w ho => by
    obtain ⟨row, A, hv, hl, ho'⟩ := jS_open (l := []) ho
    rw [List.append_nil] at ho'
    have c := (h row rfl (by rw [hv, fns_len hl])).frame (ents L A)
    exact (c.calls R w ho').mono fun _ _ ⟨x, hx, e, o, ext⟩ => ⟨x, hx, e, jS_shut hv hl [] _ _ (by rw [List.append_nil]; exact o), ext⟩⟩
theorem ss_nil (e : TypeId) : ss e .nil = .free := rfl
/-- A journal without entries. -/
theorem jS_empty {K : JK} {bj : Nat} : Imp [.blk bj (.cells #[.slice none 0 0] K.tj (0, 0))] [jS K bj []] := by
  refine Imp.trans (.same fun p hp => ?_) (jS_shut (row := .nil) (A := []) rfl rfl [])
  exact (sep_free (a := [.blk bj (.cells #[.slice none 0 0] K.tj (0, 0))])).2 hp
theorem jS_keep {P : Program} {f : FuncId} {args : Array Value} {K : JK} {bj : Nat} {L : List Ent} (he : EnterOK P f)
    (h : ∀ row, CallT P f args [.blk bj (.cells #[sv row] K.tj (0, 0))] Unit (fun _ => undef) (fun _ => [.blk bj (.cells #[.slice none 0 0] K.tj (0, 0))]) (fun _ => True)) :
    CallT P f args [jS K bj L] Unit (fun _ => undef) (fun _ => [jS K bj []]) (fun _ => True) :=
  ⟨he, fun R w ho => by
    obtain ⟨row, A, hv, hl, ho'⟩ := jS_open (l := []) ho
    have c := (h row).frame (ss K.ft row :: (ents L A ++ []))
    exact (c.calls R w ho').mono fun _ _ ⟨x, hx, e, o, ext⟩ => ⟨x, hx, e, (Imp.drop [_] _).trans jS_empty _ _ o, ext⟩⟩
/-- What 'note' does, over the opened map. -/
theorem jS_note {P : Program} {f : FuncId} {args : Array Value} {K : JK} {bj : Nat} {L : List Ent} {S1 S2 : Slot} {V : Type} {vv : V → Value} {e : Ent} {mk : Option Value → Ent} (he : EnterOK P f) (hs : e.was.isSome = e.was.isSome)
    (h : ∀ row, (vals row).length = L.length → CallT P f args [S1, S2, .blk bj (.cells #[sv row] K.tj (0, 0)), ss K.ft row] (Row × N4 × V × Bool) (fun _ => undef)
      (fun x => [S1, S2, .blk bj (.cells #[sv x.1] K.tj (0, 0)), ss K.ft x.1, .blk x.2.1.1 (.cells #[.bool x.2.2.2] e.t1 (0, 0)), .blk x.2.1.2.1 (.cells (vv x.2.2.1).cells e.t2 (0, 0)), .blk x.2.1.2.2.1 (.cells #[ptr e.b] e.t3 (0, 0)), .blk x.2.1.2.2.2 (.cells e.key.cells e.t4 (0, 0))])
      (fun x => vals x.1 = vals row ++ [e.fn x.2.1] ∧ x.2.2.2 = e.was.isSome ∧ vv x.2.2.1 = e.was.getD e.z)) :
    CallT P f args [S1, S2, jS K bj L] Unit (fun _ => undef) (fun _ => [S1, S2, jS K bj (L ++ [e])]) (fun _ => True) :=
  ⟨he, fun R w ho => by
    have ho1 : Own (ofList (jS K bj L :: [S1, S2])) R w := Imp.swap [S1, S2] [jS K bj L] R w ho
    obtain ⟨row, A, hv, hl, ho2⟩ := jS_open (l := [S1, S2]) ho1
    have ho3 : Own (ofList ([S1, S2] ++ ([.blk bj (.cells #[sv row] K.tj (0, 0)), ss K.ft row] ++ ents L A))) R w :=
      Imp.swap ([.blk bj (.cells #[sv row] K.tj (0, 0)), ss K.ft row] ++ ents L A) [S1, S2] R w ho2
    have c := (h row (by rw [hv, fns_len hl])).frame (ents L A)
    refine (c.calls R w ho3).mono fun e' w' hh => ?_
    obtain ⟨x, ⟨h1, h2, h3⟩, e1, o, ext⟩ := hh
    refine ⟨(), trivial, e1, ?_, ext⟩
    obtain ⟨y, a, v, is⟩ := x
    simp only at h1 h2 h3 o
    rw [h2, h3] at o
    have o1 : Own (ofList ([S1, S2] ++ ([.blk bj (.cells #[sv y] K.tj (0, 0)), ss K.ft y] ++ (e.sl a ++ ents L A)))) R w' := o
    have o2 := Imp.swap [S1, S2] _ R w' o1
    have o3 : Own (ofList (.blk bj (.cells #[sv y] K.tj (0, 0)) :: ss K.ft y :: (ents (L ++ [e]) (A ++ [a]) ++ [S1, S2]))) R w' := by
      refine (Imp.same fun p hp => ?_) R w' o2
      rw [ents_snoc hl]
      have hp' : SepL ([.blk bj (.cells #[sv y] K.tj (0, 0)), ss K.ft y] ++ ((e.sl a ++ ents L A) ++ [S1, S2])) p := by rw [← List.append_assoc]; exact hp
      obtain ⟨p1, p2, ha, hb, d, rfl⟩ := (sep_append _ _).1 hp'
      obtain ⟨p3, p4, hc, hd, d2, rfl⟩ := (sep_append _ _).1 hb
      exact (sep_append [.blk bj (.cells #[sv y] K.tj (0, 0)), ss K.ft y] ((ents L A ++ e.sl a) ++ [S1, S2])).2 ⟨p1, _, ha, (sep_append _ _).2 ⟨p3, p4, sep_swap hc, hd, d2, rfl⟩, d, rfl⟩
    have o4 := jS_shut (by rw [fns_snoc hl, h1, hv]) (by simp [hl]) [S1, S2] R w' o3
    exact Imp.swap [jS K bj (L ++ [e])] [S1, S2] R w' o4⟩
end Go.Sx

namespace Go.Sx
open Go.RowKit
theorem KL.of_now {P : Program} {kt : TypeId} {d : TypeDesc} {Ok : Value → Prop} (hu : P.underlying kt = some d) (hc : ∀ b k w, Ok k → (Instr.checkKey b 10000 kt k).run P w = .ok () w)
    (hn : ∀ k k', Ok k → Ok k' → Instr.sameNow d k k' = some (decide (k = k'))) (hs : ∀ k, Ok k → Instr.sameBits 10000 k k = true) : KL P kt Ok := by
  refine ⟨hc, fun k es w hk hes => ?_, hs⟩
  have key : ∀ (es : List MapEntry) (n : Nat), (∀ e ∈ es, Ok e.key) → ∃ o, Instr.findNow d k es n = some o ∧
      (match o with | none => mget (es.map fun e => (e.key, e.val)) k = none | some (i, v) => n ≤ i ∧ ∃ e, es[i - n]? = some e ∧ e.key = k ∧ e.val = v ∧ ∀ j e', j < i - n → es[j]? = some e' → e'.key ≠ k) := by
    intro es
    induction es with
    | nil => intro n _; exact ⟨none, rfl, rfl⟩
    | cons e es ih =>
      intro n h
      have he := hn k e.key hk (h e (List.mem_cons_self ..))
      by_cases hke : k = e.key
      · refine ⟨some (n, e.val), ?_, Nat.le_refl _, e, by simp, hke.symm, rfl, fun j e' hj => by omega⟩
        unfold Instr.findNow; rw [he]; simp [hke]
      · obtain ⟨o, ho, hspec⟩ := ih (n + 1) fun x hx => h x (List.mem_cons_of_mem _ hx)
        refine ⟨o, ?_, ?_⟩
        · unfold Instr.findNow; rw [he]; simp [hke, ho]
        · cases o with
          | none =>
            show mget ((e :: es).map fun e => (e.key, e.val)) k = none
            rw [List.map_cons, mget_cons, if_neg (fun x => hke x.symm)]; exact hspec
          | some iv =>
            obtain ⟨h1, x, h2, h3, h4, h5⟩ := hspec
            refine ⟨by omega, x, ?_, h3, h4, fun j e' hj hje => ?_⟩
            · rw [show iv.1 - n = (iv.1 - (n + 1)) + 1 from by omega, List.getElem?_cons_succ]; exact h2
            · cases j with
              | zero => simp at hje; subst hje; exact fun x => hke x.symm
              | succ j => exact h5 j e' (by omega) (by simpa using hje)
  obtain ⟨o, ho, hspec⟩ := key es 0 hes
  refine ⟨o, ?_, ?_⟩
  · simp only [Instr.findKey, Sem.run_bind, run_underlying hu, Result.andThen_ok, ho, Sem.run_pure]
  · cases o with
    | none => exact hspec
    | some iv => exact hspec.2
theorem KL.of_asking {P : Program} {kt : TypeId} {d : TypeDesc} {Ok : Value → Prop} (hu : P.underlying kt = some d) (hc : ∀ b k w, Ok k → (Instr.checkKey b 10000 kt k).run P w = .ok () w)
    (hn : ∀ k k', Ok k → Ok k' → Instr.sameNow d k k' = none) (he : ∀ k k' w, Ok k → Ok k' → (Op.equal kt k k').run P w = .ok (decide (k = k')) w) (hs : ∀ k, Ok k → Instr.sameBits 10000 k k = true) : KL P kt Ok := by
  refine ⟨hc, fun k es w hk hes => ?_, hs⟩
  have key : ∀ (es : List MapEntry) (n : Nat), (∀ e ∈ es, Ok e.key) → ∃ o, (Instr.findAsking kt k es n).run P w = .ok o w ∧
      (match o with | none => mget (es.map fun e => (e.key, e.val)) k = none | some (i, v) => n ≤ i ∧ ∃ e, es[i - n]? = some e ∧ e.key = k ∧ e.val = v ∧ ∀ j e', j < i - n → es[j]? = some e' → e'.key ≠ k) := by
    intro es
    induction es with
    | nil => intro n _; exact ⟨none, rfl, rfl⟩
    | cons e es ih =>
      intro n h
      have hq := he k e.key w hk (h e (List.mem_cons_self ..))
      by_cases hke : k = e.key
      · refine ⟨some (n, e.val), ?_, Nat.le_refl _, e, by simp, hke.symm, rfl, fun j e' hj => by omega⟩
        rw [decide_eq_true hke] at hq
        unfold Instr.findAsking; simp [Sem.run_bind, hq]
      · obtain ⟨o, ho, hspec⟩ := ih (n + 1) fun x hx => h x (List.mem_cons_of_mem _ hx)
        refine ⟨o, ?_, ?_⟩
        · rw [decide_eq_false hke] at hq
          unfold Instr.findAsking; simp [Sem.run_bind, hq, ho]
        · cases o with
          | none =>
            show mget ((e :: es).map fun e => (e.key, e.val)) k = none
            rw [List.map_cons, mget_cons, if_neg (fun x => hke x.symm)]; exact hspec
          | some iv =>
            obtain ⟨h1, x, h2, h3, h4, h5⟩ := hspec
            refine ⟨by omega, x, ?_, h3, h4, fun j e' hj hje => ?_⟩
            · rw [show iv.1 - n = (iv.1 - (n + 1)) + 1 from by omega, List.getElem?_cons_succ]; exact h2
            · cases j with
              | zero => simp at hje; subst hje; exact fun x => hke x.symm
              | succ j => exact h5 j e' (by omega) (by simpa using hje)
  cases es with
  | nil =>
    refine ⟨none, ?_, rfl⟩
    simp only [Instr.findKey, Sem.run_bind, run_underlying hu, Result.andThen_ok, Instr.findNow, Sem.run_pure]
  | cons e es =>
    obtain ⟨o, ho, hspec⟩ := key (e :: es) 0 hes
    refine ⟨o, ?_, ?_⟩
    · have : Instr.findNow d k (e :: es) 0 = none := by unfold Instr.findNow; rw [hn k e.key hk (hes e (List.mem_cons_self ..))]
      simp only [Instr.findKey, Sem.run_bind, run_underlying hu, Result.andThen_ok, this]
      exact ho
    · cases o with
      | none => exact hspec
      | some iv => exact hspec.2
theorem kl_int {P : Program} {kt : TypeId} {k : IntKind} (hu : P.underlying kt = some (.int k)) : KL P kt (fun v => ∃ n : Int, v = .int k n) := by
  refine KL.of_now hu ?_ ?_ ?_
  · rintro b _ w ⟨n, rfl⟩
    show (Instr.checkKey b (9999 + 1) kt (.int k n)).run P w = .ok () w
    rw [Instr.checkKey]
    simp only [Sem.run_bind, run_underlying hu, Result.andThen_ok, Sem.run_pure]
  · rintro _ _ ⟨a, rfl⟩ ⟨b, rfl⟩
    simp only [Instr.sameNow, if_true, Option.some.injEq]
    by_cases h : a = b <;> simp [h]
  · rintro _ ⟨n, rfl⟩
    show Instr.sameBits (9999 + 1) (.int k n) (.int k n) = true
    rw [Instr.sameBits]; simp
/-- A kind of maps: keys of type kt, values that are vv v for some v with Ok v; z is nothing's value. -/
structure KindL (P : Program) (K : MK) (t kt vt : TypeId) (z : Value) {V : Type} (vv : V → Value) (Ok : V → Prop) : Prop where
  tm : TM P t kt vt K.OkK z
  val : ∀ x, K.OkV x ↔ ∃ v, Ok v ∧ x = vv v
  zero : ∃ v, Ok v ∧ z = vv v
def F_look {V : Type} (vv : V → Value) (Ok : V → Prop) (z : Value) : List Value → List Slot → Ctr := fun vs hs =>
  ⟨V × Bool, fun x => .tuple #[vv x.1, .bool x.2], fun _ => hs, fun x => Ok x.1 ∧ x.2 = (mget (skv (sarg hs 0)) (varg vs 1)).isSome ∧ vv x.1 = (mget (skv (sarg hs 0)) (varg vs 1)).getD z⟩
theorem wlook {P : Program} {K : MK} {t kt vt : TypeId} {z : Value} {V : Type} {vv : V → Value} {Ok : V → Prop} (L : KindL P K t kt vt z vv Ok) {m : KV} (h : KOK K m) (k : Value) :
    ∃ x : V × Bool, (fun x : V × Bool => Ok x.1 ∧ x.2 = (mget m k).isSome ∧ vv x.1 = (mget m k).getD z) x := by
  cases hg : mget m k with
  | none =>
    obtain ⟨v, hv, hz⟩ := L.zero
    exact ⟨(v, false), hv, rfl, hz.symm⟩
  | some y =>
    obtain ⟨v, hv, hy⟩ := (L.val y).1 (h.val hg)
    exact ⟨(v, true), hv, rfl, hy.symm⟩
theorem xlook {P : Program} {K : MK} {t kt vt : TypeId} {z : Value} {V : Type} {vv : V → Value} {Ok : V → Prop} (L : KindL P K t kt vt z vv Ok) {r : Nat} {m : KV} (h : KOK K m) {k : Value} (hk : K.OkK k) :
    OpT P (do pure (.value (← Instr.lookup t (.map (some r)) k true))) [mo r m] (V × Bool) (fun x => .tuple #[vv x.1, .bool x.2]) (fun _ => [mo r m]) (fun x => Ok x.1 ∧ x.2 = (mget m k).isSome ∧ vv x.1 = (mget m k).getD z) := by
  intro R w ho
  obtain ⟨_, w', _, hy, ho', he⟩ := xlookup L.tm h.keys hk R w ho
  obtain ⟨x, hx⟩ := wlook L h k
  refine ⟨x, w', hx, ?_, ho', he⟩
  simp only [hx.2.1, hx.2.2]; exact hy
def F_upd : List Value → List Slot → Ctr := fun vs hs => ⟨KV, fun _ => undef, fun x => [mo (vblk (varg vs 0)) x], fun x => x = mset (skv (sarg hs 0)) (varg vs 1) (varg vs 2)⟩
theorem xupd {P : Program} {K : MK} {t kt vt : TypeId} {z : Value} {V : Type} {vv : V → Value} {Ok : V → Prop} (L : KindL P K t kt vt z vv Ok) {r : Nat} {m : KV} (h : KOK K m) {k : Value} (hk : K.OkK k) (v : Value) :
    OpT P (do Instr.mapUpdate t (.map (some r)) k v; pure .skip) [mo r m] KV (fun _ => undef) (fun x => [mo r x]) (fun x => x = mset m k v) := by
  intro R w ho
  obtain ⟨_, w', _, hy, ho', he⟩ := xupdate L.tm h.keys h.once hk v R w ho
  exact ⟨_, w', rfl, hy, ho', he⟩
def F_del : List Value → List Slot → Ctr := fun vs hs => ⟨KV, fun _ => undef, fun x => [mo (vblk (varg vs 0)) x], fun x => x = mdel (skv (sarg hs 0)) (varg vs 1)⟩
theorem xdel {P : Program} {K : MK} {t kt vt : TypeId} {z : Value} {V : Type} {vv : V → Value} {Ok : V → Prop} (L : KindL P K t kt vt z vv Ok) (ty kt' : TypeId) {r : Nat} {m : KV} (h : KOK K m) {k : Value} (hk : K.OkK k) :
    OpT P (do pure (.value (← Builtin.delete_ #[t, kt'] ty #[.map (some r), k]))) [mo r m] KV (fun _ => undef) (fun x => [mo r x]) (fun x => x = mdel m k) := by
  intro R w ho
  obtain ⟨_, w', _, hy, ho', he⟩ := xdelete L.tm ty kt' h.keys hk R w ho
  exact ⟨_, w', rfl, hy, ho', he⟩
def F_mlen : List Value → List Slot → Ctr := fun _ hs => ⟨Int, fun x => .int .i64 x, fun _ => hs, fun x => x = (((skv (sarg hs 0)).length : Nat) : Int)⟩
theorem xmlen' {P : Program} {t kt vt : TypeId} (hu : P.underlying t = some (.map kt vt)) (ty : TypeId) {r : Nat} {m : KV} :
    OpT P (do pure (.value (← Builtin.len_ #[t] ty #[.map (some r)]))) [mo r m] Int (fun x => .int .i64 x) (fun _ => [mo r m]) (fun x => x = ((m.length : Nat) : Int)) := by
  intro R w ho
  obtain ⟨_, w', _, hy, ho', he⟩ := xmlen hu ty R w ho
  exact ⟨_, w', rfl, hy, ho', he⟩
/-- A new map. -/
theorem mo_new {r : Nat} {l : List Slot} : Imp (.blk r (.map #[] 0) :: l) (mo r [] :: l) := fun _ _ h => mo_shut rfl Born.empty h
end Go.Sx
