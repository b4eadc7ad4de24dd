/- Bytes, more: zeros appended; nil or not; slices with open bounds; package variables in the caller's memory; arrays as values. -/
import Derived.Test.YtohkmdnelbajiaaDoorSxH1
import Derived.Lib.SliceRun
set_option linter.unusedVariables false
set_option linter.unusedSimpArgs false
namespace Go.Sx
open Go.RowKit
theorem i64_small {n : Int} (h0 : 0 ≤ n) (h1 : n ≤ 1073741824) : IntKind.i64.wrap n = n := by
  have e : n % 18446744073709551616 = n := Int.emod_eq_of_lt h0 (by omega)
  simp [IntKind.wrap, IntKind.bits, IntKind.signed, e]
  omega
def F_appZ (e : TypeId) (z : Value) : List Value → List Slot → Ctr := fun vs hs => ⟨Row, fun y => sv y, fun y => [ss e y], fun y => vals y = rvals (varg vs 0) (sarg hs 0) ++ List.replicate (ci (varg vs 1)).toNat z⟩
theorem xappZ {P : Program} {t u e : TypeId} {z : Value} (h : SlT P t e z) {ku : IntKind} (hu : P.underlying u = some (.int ku)) (hz1 : z.oneCell' = true) (ty : TypeId) (r : Row) (hl : (vals r).length ≤ 1048576) (k : IntKind) (n : Int) (h0 : 0 ≤ n) (h1 : n ≤ 1048576) (hr0 : r ≠ .nil) :
    OpT P (do pure (.value (← Builtin.append_ #[t, u] ty #[sv r, .int k n]))) [ss e r] Row sv (fun y => [ss e y]) (fun y => vals y = vals r ++ List.replicate n.toNat z) := by
  intro R w ho
  obtain ⟨i, hi, hz, hs, hby⟩ := h.info
  have hw : IntKind.i64.wrap n = n := i64_small h0 (by omega)
  have hb1 : ¬ (281474976710656 < n * (i.bytes : Int)) := by
    have : n * (i.bytes : Int) ≤ 1048576 * 4096 := Int.mul_le_mul h1 (by omega) (by omega) (by decide)
    omega
  have hb2 : ¬ (n < 0) := by omega
  have upd1 : ∀ s t, upd (ofList [t]) 0 s = ofList [s] := by
    intro s t; funext i
    cases i <;> rfl
  cases r with
  | nil => exact absurd rfl hr0
  | mk b vs ex =>
    simp only [vals] at hl
    have hb := ho.block (i := 0) rfl
    have hzv := zeros_of h.zc n.toNat
    by_cases hroom : vs.length + n.toNat ≤ vs.length + ex.length
    · have hcell : ∀ j, j < (List.replicate n.toNat z).length → (w.cell? ⟨b, vs.length + j, none⟩).isSome = true := by
        intro j hj
        simp at hj
        have : vs.length + j < (vs ++ ex).length := by simp; omega
        simp [World.cell?, hb, List.getElem?_eq_getElem this]
      have hst := run_storeCells_cells (P := P) b vs.length (List.replicate n.toNat z) 0 w (by simpa using hcell) (fun j hj => by simpa using frozen_of_row w b _ _ e hb) (fun u hu => by rw [(List.mem_replicate.1 hu).2]; exact hz1)
      simp only [Nat.add_zero] at hst
      obtain ⟨olds, ex', hex, hol⟩ : ∃ olds ex', ex = olds ++ ex' ∧ olds.length = (List.replicate n.toNat z).length := ⟨ex.take n.toNat, ex.drop n.toNat, (List.take_append_drop _ ex).symm, by simp; omega⟩
      subst hex
      have hset := own_setCells (e := e) (b := b) (R := R) (List.replicate n.toNat z) vs olds ex' _ w 0 ho (by simp [ofList, ss]) hol
      refine ⟨.mk b (vs ++ List.replicate n.toNat z) ex', w.setCells b vs.length (List.replicate n.toNat z), rfl, .inl ?_, ?_, hset.2⟩
      · simp only [sv]
        have e1 : (vs ++ List.replicate n.toNat z).length = vs.length + n.toNat := by simp
        have e2 : (vs ++ List.replicate n.toNat z).length + ex'.length = vs.length + (olds ++ ex').length := by
          simp at hol ⊢; omega
        rw [e2, e1]
        have hroom' : n ≤ (olds.length : Int) + ex'.length := by simp at hroom; omega
        rcases Nat.eq_zero_or_pos n.toNat with hn | hn
        · have hn' : n = 0 := by omega
          subst hn'
          have he0 : ¬ ((olds.length : Int) + ex'.length < 0) := by omega
          simp [Builtin.append_, run_underlying h.und, run_underlying hu, sizeOf, typeInfo, hi, hs, asInt, asIntOf, storeCells, World.setCells, show IntKind.i64.wrap 0 = 0 from rfl, he0]
        · have hn' : ¬ n ≤ 0 := by omega
          simp [Builtin.append_, run_underlying h.und, run_underlying hu, sizeOf, typeInfo, zeroValue, hi, hz, hs, asInt, asIntOf, hw, hb1, hb2, hroom', hn', hzv, Addr.add_lit, hst]
      · have := hset.1
        rw [upd1] at this
        exact this
    · have hn0 : ¬ n ≤ 0 := by omega
      have hroom' : ¬ (n ≤ (ex.length : Int)) := by omega
      have h63' : ¬ (9223372036854775807 < (vs.length : Int) + max n 0) := by omega
      have holds : ∀ j u, vs[j]? = some u → w.drew.cell? ((⟨b, 0, none⟩ : Addr).add j) = some u := by
        intro j u hu
        have hj : j < vs.length := by
          rcases Nat.lt_or_ge j vs.length with h | h
          · exact h
          · simp [List.getElem?_eq_none h] at hu
        have : (⟨b, 0, none⟩ : Addr).add j = ⟨b, 0 + j, none⟩ := Addr.add_lit ..
        rw [this]
        have : w.cell? ⟨b, 0 + j, none⟩ = some u := by simp [World.cell?, hb, hu, List.getElem?_append_left hj]
        simpa using this
      have hfit : Builtin.nextslicecap (vs.length + n.toNat) (vs.length + ex.length) * i.bytes ≤ 281474976710656 := by
        refine growslice_fits (by omega) ?_
        have : (vs.length + n.toNat) * i.bytes ≤ 2147483648 * 4096 := Nat.mul_le_mul (by omega) hby
        omega
      have h48' : ¬ (281474976710656 < Builtin.nextslicecap (vs.length + n.toNat) (vs.length + ex.length) * i.bytes) := by omega
      have hfo := run_firstCells_some (P := P) w.drew i.size vs.length ⟨b, 0, none⟩ vs.length (vs.length + ex.length) vs (by simp [hs]) holds
      have hge := grownCap_ge w (vs.length + n.toNat) (vs.length + ex.length) e
      obtain ⟨ex', he, hx⟩ := zl_of h.zc (grownCap w (vs.length + n.toNat) (vs.length + ex.length) e - (vs.length + n.toNat))
      have hr : (Builtin.append_ #[t, u] ty #[.slice (some ⟨b, 0, none⟩) vs.length (vs.length + ex.length), .int k n]).run P w = .ok (.slice (some ⟨w.heap.size, 0, none⟩) (vs.length + n.toNat) (grownCap w (vs.length + n.toNat) (vs.length + ex.length) e))
          (w.drew.alloc (.cells (vs.toArray ++ (List.replicate n.toNat z).toArray ++ Builtin.zeroCells z.cells (grownCap w (vs.length + n.toNat) (vs.length + ex.length) e - (vs.length + n.toNat))) e)) := by
        rw [hs] at hfo
        simp [Builtin.append_, run_underlying h.und, run_underlying hu, sizeOf, typeInfo, zeroValue, hi, hz, hs, asInt, asIntOf, hw, hb1, hb2, hroom', hn0, hzv, h63', h48', Question.forced, hfo, newRow, grownCap]
      rw [he] at hr
      refine ⟨.mk w.heap.size (vs ++ List.replicate n.toNat z) ex', w.drew.alloc (.cells (vs.toArray ++ (List.replicate n.toNat z).toArray ++ ex'.toArray) e), rfl, .inl ?_, ?_, ⟨rfl, rfl, rfl, by simp⟩⟩
      · simp only [sv]
        rw [Sem.run_bind, hr]
        have e1 : (vs ++ List.replicate n.toNat z).length = vs.length + n.toNat := by simp
        have e2 : (vs ++ List.replicate n.toNat z).length + ex'.length = grownCap w (vs.length + n.toNat) (vs.length + ex.length) e := by rw [e1]; omega
        rw [e2, e1]; rfl
      · have := ho.new (w' := w.drew.alloc (.cells (vs.toArray ++ (List.replicate n.toNat z).toArray ++ ex'.toArray) e)) (i := 0) (heap_alloc_new w.drew _) (fun c hc => heap_alloc_old w.drew _ c hc)
        rw [upd1] at this
        have e3 : vs.toArray ++ (List.replicate n.toNat z).toArray ++ ex'.toArray = (vs ++ List.replicate n.toNat z ++ ex').toArray := by simp
        rw [e3] at this ⊢
        exact this
/-! ### nil or not -/
def vnil : Value → Bool
  | .slice none _ _ => true
  | _ => false
def f_nil : List Value → Value := fun vs => .bool (vnil (varg vs 0))
theorem xnilq {P : Program} {t e : TypeId} {z : Value} (h : SlT P t e z) (r : Row) : PureRun P (xBin .eql t (sv r) (.slice none 0 0)) (.bool (vnil (sv r))) := by
  intro w
  have key : ∀ (a : Option Addr) (n c : Nat), (xBin .eql t (.slice a n c) (.slice none 0 0)).run P w = .ok (.value (.bool a.isNone)) w := by
    intro a n c
    have h1 := Go.Lib.run_eql_slice_nil (P := P) w t e a n c 0 0 h.und
    have h3 : (eqGuard .eql t (.const (.slice a n c)) (.const (.slice none 0 0)) (.slice a n c) (.slice none 0 0)).run P w = .ok () w := by
      unfold eqGuard; rfl
    rw [xBin, Sem.run_bind, Sem.run_bind, h3]
    simp only [Result.andThen]
    rw [h1]; rfl
  cases r with
  | nil => exact key none 0 0
  | mk b vs ex => exact key _ _ _
theorem vnil_row {r : Row} (h : vnil (sv r) = true) : r = .nil := by
  cases r with
  | nil => rfl
  | mk b vs ex => cases h
theorem vnil_not {r : Row} (h : vnil (sv r) = false) : ∃ b vs ex, r = .mk b vs ex := by
  cases r with
  | nil => cases h
  | mk b vs ex => exact ⟨b, vs, ex, rfl⟩
/-! ### A part of a slice -/
theorem xpart {P : Program} {t e : TypeId} {z : Value} (h : SlT P t e z) (b off len cap : Nat) (k k' : IntKind) (lo hi : Int) (l m : Nat) (hl : lo = (l : Int)) (hh : hi = ((l + m : Nat) : Int)) (h1 : l + m ≤ cap) (h2 : 0 < m) :
    PureRun P (do pure (.value (← Instr.sliceAt t (.slice (some ⟨b, off, none⟩) len cap) (some (.int k lo)) (some (.int k' hi)) none))) (.slice (some ⟨b, off + l, none⟩) m (cap - l)) := by
  intro w
  have hu : P.underlying t = some (.slice (P.elem t)) := by rw [h.elem]; exact h.und
  have hs := h.size w
  rw [← h.elem] at hs
  subst hl; subst hh
  rw [Sem.run_bind, run_sliceAt_slice w t _ _ _ _ hu, run_slice_lh w t _ _ _ hu k k' _ _ (by omega) (by omega) (by omega), hs]
  have e1 : ((l : Nat) : Int).toNat = l := by omega
  have e2 : (((l + m : Nat) : Int)).toNat = l + m := by omega
  have e3 : cap ≠ l := by omega
  have e4 : (⟨b, off, none⟩ : Addr).add l = ⟨b, off + l, none⟩ := Addr.add_lit ..
  have e5 : ((l : Int) + (m : Int)).toNat - l = m := by omega
  simp [Result.andThen, sliced, e1, e2, e3, e4, e5]
theorem xpart_h {P : Program} {t e : TypeId} {z : Value} (h : SlT P t e z) (a : Addr) (len cap : Nat) (k : IntKind) (hi : Int) (m : Nat) (hh : hi = (m : Int)) (h1 : m ≤ cap) :
    PureRun P (do pure (.value (← Instr.sliceAt t (.slice (some a) len cap) none (some (.int k hi)) none))) (.slice (some a) m cap) := by
  intro w
  have hu : P.underlying t = some (.slice (P.elem t)) := by rw [h.elem]; exact h.und
  have hs := h.size w
  rw [← h.elem] at hs
  subst hh
  rw [Sem.run_bind, run_sliceAt_slice w t _ _ _ _ hu, run_slice_h w t _ _ _ hu k _ (by omega) (by omega), hs]
  have e1 : ((m : Nat) : Int).toNat = m := by omega
  have e4 : a.add 0 = a := by simp [Addr.add]
  by_cases e3 : cap = 0
  · have : m = 0 := by omega
    subst this; simp [Result.andThen, sliced, e3]
  · simp [Result.andThen, sliced, e1, e3, e4]
theorem xpart_l {P : Program} {t e : TypeId} {z : Value} (h : SlT P t e z) (b off len cap : Nat) (k : IntKind) (lo : Int) (l : Nat) (hl : lo = (l : Int)) (h1 : l ≤ len) :
    PureRun P (do pure (.value (← Instr.sliceAt t (.slice (some ⟨b, off, none⟩) len cap) (some (.int k lo)) none none))) (.slice (some ⟨b, if cap = l then off else off + l, none⟩) (len - l) (cap - l)) := by
  intro w
  have hu : P.underlying t = some (.slice (P.elem t)) := by rw [h.elem]; exact h.und
  have hs := h.size w
  rw [← h.elem] at hs
  subst hl
  rw [Sem.run_bind, run_sliceAt_slice w t _ _ _ _ hu, run_slice_l w t _ _ _ hu k _ (by omega) (by omega), hs]
  have e1 : ((l : Nat) : Int).toNat = l := by omega
  have e4 : (⟨b, off, none⟩ : Addr).add l = ⟨b, off + l, none⟩ := Addr.add_lit ..
  by_cases e3 : cap = l
  · simp [Result.andThen, sliced, e1, e3]
  · simp [Result.andThen, sliced, e1, e3, e4]
/-! ### An element's address in a slice -/
theorem xpidx {P : Program} {t e : TypeId} {z : Value} (h : SlT P t e z) (b off len cap : Nat) (k : IntKind) (i : Int) (n : Nat) (hi : i = (n : Int)) (h1 : n < len) :
    PureRun P (do pure (.value (← Instr.indexAt t (.slice (some ⟨b, off, none⟩) len cap) (.int k i)))) (.pointer (some ⟨b, off + n, none⟩)) := by
  intro w
  subst hi
  have hc : 0 ≤ (n : Int) ∧ (n : Int) < (len : Int) := ⟨by omega, by omega⟩
  have e4 : (⟨b, off, none⟩ : Addr).add n = ⟨b, off + n, none⟩ := Addr.add_lit ..
  simp [Instr.indexAt, run_underlying h.und, asIntOf, hc, h.size w, e4, Nat.not_le.2 h1]
/-! ### A package variable that is a table -/
def Tab (w : World) (g : Nat) (k : IntKind) (ns : List Int) : Prop := ∀ i, i < ns.length → w.cell? ⟨g, i, none⟩ = some (.int k (ns.getD i 0))
theorem xtab {P : Program} {te : TypeId} (ha : ∀ w, (isAgg te).run P w = .ok false w) {w0 : World} {g : Nat} {k : IntKind} {ns : List Int} (h : Tab w0 g k ns) (i : Nat) (hi : i < ns.length) :
    OpT P (do pure (.value (← Instr.loadAt te (.pointer (some ⟨g, i, none⟩))))) [old w0] Unit (fun _ => .int k (ns.getD i 0)) (fun _ => [old w0]) (fun _ => True) := by
  intro R w ho
  have hc := own_cell ho (h i hi)
  refine ⟨(), w, trivial, .inl ?_, ho, Ext.refl w⟩
  simp [Instr.loadAt, Instr.sureAddr, loadVar, Sem.run_bind, ha, hc]
theorem xtabA {P : Program} {te : TypeId} {n : Nat} (ha : ∀ w, (isAgg te).run P w = .ok true w) (hs : ∀ w, (sizeOf te).run P w = .ok n w) {w0 : World} {g : Nat} {k : IntKind} {ns : List Int} (h : Tab w0 g k ns) (hn : ns.length = n) :
    OpT P (do pure (.value (← Instr.loadAt te (.pointer (some ⟨g, 0, none⟩))))) [old w0] Unit (fun _ => .agg (arrV k ns)) (fun _ => [old w0]) (fun _ => True) := by
  intro R w ho
  have hr := run_loadCells_list (P := P) w ⟨g, 0, none⟩ (ns.map (Value.int k)) (by
    intro j c hj
    have hj' : j < ns.length := by
      rcases Nat.lt_or_ge j ns.length with q | q
      · exact q
      · rw [List.getElem?_eq_none (by simpa using q)] at hj; cases hj
    have := own_cell ho (h j hj')
    have e : (⟨g, 0, none⟩ : Addr).add j = ⟨g, j, none⟩ := by rw [Addr.add_lit, Nat.zero_add]
    rw [e, this]
    rw [List.getElem?_map, List.getElem?_eq_getElem hj'] at hj
    simp at hj
    rw [← hj]
    simp [hj'])
  refine ⟨(), w, trivial, .inl ?_, ho, Ext.refl w⟩
  rw [List.length_map, hn] at hr
  simp [Instr.loadAt, Instr.sureAddr, loadVar, Sem.run_bind, ha, hs, hr, arrV]
/-! ### An element of an array's value -/
def f_aidx (k : IntKind) : List Value → Value := fun vs => .int k (ci ((scells (.blk 0 (.cells (varg vs 0).cells 0 (0, 0)))).getD (ci (varg vs 1)).toNat undef))
theorem xaval {P : Program} {t e : TypeId} {n : Nat} (hu : P.underlying t = some (.array n e)) (hs : ∀ w, (sizeOf e).run P w = .ok 1 w) (ha : ∀ w, (isAgg e).run P w = .ok false w) {k : IntKind} {ns : List Int} (hn : ns.length = n) (ki : IntKind) (i : Int) (j : Nat) (hi : i = (j : Int)) (hj : j < n) :
    PureRun P (do pure (.value (← Instr.index t (.agg (arrV k ns)) (.int ki i)))) (.int k (ns.getD j 0)) := by
  intro w
  subst hi
  have hc : 0 ≤ (j : Int) ∧ (j : Int) < (n : Int) := ⟨by omega, by omega⟩
  have hg : (arrV k ns)[j]? = some (.int k (ns.getD j 0)) := by
    simp [arrV, show j < ns.length by omega]
  simp [Instr.index, run_underlying hu, asIntOf, hc, hs w, part, ha w, hg, Nat.not_le.2 hj]
end Go.Sx
