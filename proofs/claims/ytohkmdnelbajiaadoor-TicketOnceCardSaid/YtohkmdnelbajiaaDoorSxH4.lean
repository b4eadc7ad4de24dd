/- Rows of bytes. -/
import Derived.Test.YtohkmdnelbajiaaDoorSxH3
set_option linter.unusedVariables false
set_option linter.unusedSimpArgs false
namespace Go.Sx
open Go.RowKit
def bv (l : List Int) : List Value := l.map (Value.int .u8)
structure BOK (r : Row) : Prop where
  eq : vals r = bv (dg r)
theorem vals_len (r : Row) : (vals r).length = (dg r).length := by simp [dg]
theorem bv_ci (l : List Int) : (bv l).map ci = l := by
  induction l with
  | nil => rfl
  | cons a l ih =>
    simp only [bv, List.map_cons] at ih ⊢
    rw [ih]; rfl
theorem bok_of {r : Row} {l : List Int} (h : vals r = bv l) : BOK r ∧ dg r = l := by
  have e : dg r = l := by rw [dg, h, bv_ci]
  exact ⟨⟨by rw [e, h]⟩, e⟩
theorem rdv_nil : rdv (sv Row.nil) .free = dg Row.nil := rfl
theorem bok_nil : BOK Row.nil := ⟨rfl⟩
theorem bok_mk0 (b : Nat) (ex : List Value) : BOK (Row.mk b [] ex) := ⟨rfl⟩
theorem bok_lit (b : Nat) (l : List Int) (ex : List Value) : BOK (Row.mk b (bv l) ex) := ⟨by show bv l = bv ((bv l).map ci); rw [bv_ci]⟩
theorem bok_app {r y : Row} {l : List Int} (hr : BOK r) (h : vals y = vals r ++ bv l) : BOK y ∧ (dg y).length = (dg r).length + l.length ∧ dg y = dg r ++ l := by
  have e : vals y = bv (dg r ++ l) := by rw [h, hr.eq, bv, bv, bv, List.map_append]
  obtain ⟨h1, h2⟩ := bok_of e
  exact ⟨h1, by rw [h2, List.length_append], h2⟩
theorem srcv_row (r : Row) (e : TypeId) : srcv (sv r) (ss e r) = vals r := by
  cases r with
  | nil => rfl
  | mk b vs ex => simp [srcv, sv, ss, vals, vlen, voff, scells]
theorem oneAll {l : List Value} (h : l.all (·.oneCell') = true) : ∀ u ∈ l, u.oneCell' = true := List.all_eq_true.1 h
theorem bv_one (l : List Int) : ∀ u ∈ bv l, u.oneCell' = true := by
  intro u hu
  obtain ⟨n, _, rfl⟩ := List.mem_map.1 hu
  rfl
theorem xappNR {P : Program} {t e : TypeId} {z : Value} (h : SlT P t e z) (ty : TypeId) (r : Row) (hl : (vals r).length ≤ 1073741824) {c o m cap : Nat} {cs : Array Value} {te : TypeId} (hm : o + m ≤ cs.size) (hm1 : m ≤ 1073741824)
    (h2 : (srcv (.slice (some ⟨c, o, none⟩) m cap) (.blk c (.cells cs te (0, 0)))).all (·.oneCell') = true) :
    OpT P (do pure (.value (← Builtin.append_ #[t, t] ty #[sv r, .slice (some ⟨c, o, none⟩) m cap]))) [ss e r, .blk c (.cells cs te (0, 0))] Row sv (fun y => [ss e y, .blk c (.cells cs te (0, 0))])
      (fun y => vals y = rvals (sv r) (ss e r) ++ srcv (.slice (some ⟨c, o, none⟩) m cap) (.blk c (.cells cs te (0, 0)))) := by
  rw [rvals_eq]
  refine xappN h ty r hl ?_ hm1 ?_ (oneAll h2)
  · simp [srcv, vlen, voff, scells]; omega
  · intro j u hu
    simp only [srcv, vlen, voff, scells] at hu
    rw [List.getElem?_take] at hu
    split at hu
    · rw [List.getElem?_drop] at hu; simpa using hu
    · cases hu
theorem xappRow {P : Program} {t e : TypeId} {z : Value} (h : SlT P t e z) (ty : TypeId) (r : Row) (hl : (vals r).length ≤ 1073741824) (q : Row) (hq : (vals q).length ≤ 1073741824) (h2 : ∀ u ∈ vals q, u.oneCell' = true) :
    OpT P (do pure (.value (← Builtin.append_ #[t, t] ty #[sv r, sv q]))) [ss e r, ss e q] Row sv (fun y => [ss e y, ss e q])
      (fun y => vals y = rvals (sv r) (ss e r) ++ srcv (sv q) (ss e q)) := by
  rw [rvals_eq, srcv_row]
  cases q with
  | nil =>
    intro R w ho
    obtain ⟨i, hi, hz, hs, hby⟩ := h.info
    refine ⟨r, w, by simp [vals], .inl ?_, ho, Ext.refl w⟩
    cases r with
    | nil => simp [sv, Builtin.append_, run_underlying h.und, sizeOf, typeInfo, hi, Builtin.lenOf, Builtin.firstCells]
    | mk b vs ex => simp [sv, Builtin.append_, run_underlying h.und, sizeOf, typeInfo, hi, Builtin.lenOf, Builtin.firstCells, storeCells]
  | mk b vs ex =>
    simp only [vals] at hq h2 ⊢
    refine xappN h ty r hl (news := vs) rfl hq ?_ h2
    intro j u hu
    have hj : j < vs.length := by
      rcases Nat.lt_or_ge j vs.length with h | h
      · exact h
      · simp [List.getElem?_eq_none h] at hu
    simp [List.getElem?_append_left hj, hu]
theorem xappZR {P : Program} {t u e : TypeId} {z : Value} (h : SlT P t e z) {ku : IntKind} (hu : P.underlying u = some (.int ku)) (hz1 : z.oneCell' = true) (ty : TypeId) (r : Row) (hl : (vals r).length ≤ 1048576) (k : IntKind) (n : Int) (h0 : 0 ≤ n) (h1 : n ≤ 1048576) (hr0 : r ≠ .nil) :
    OpT P (do pure (.value (← Builtin.append_ #[t, u] ty #[sv r, .int k n]))) [ss e r] Row sv (fun y => [ss e y]) (fun y => vals y = rvals (sv r) (ss e r) ++ List.replicate n.toNat z) := by
  rw [rvals_eq]
  exact xappZ h hu hz1 ty r hl k n h0 h1 hr0
theorem wit_appN (l : List Value) : ∃ y : Row, (fun zx => vals zx = l) y := ⟨.mk 0 l [], rfl⟩
/-! ### 32 bytes, as a value -/
def hV (f : Nat → Int) : Value := .agg #[.int .u8 (f 0), .int .u8 (f 1), .int .u8 (f 2), .int .u8 (f 3), .int .u8 (f 4), .int .u8 (f 5), .int .u8 (f 6), .int .u8 (f 7), .int .u8 (f 8), .int .u8 (f 9), .int .u8 (f 10), .int .u8 (f 11), .int .u8 (f 12), .int .u8 (f 13), .int .u8 (f 14), .int .u8 (f 15), .int .u8 (f 16), .int .u8 (f 17), .int .u8 (f 18), .int .u8 (f 19), .int .u8 (f 20), .int .u8 (f 21), .int .u8 (f 22), .int .u8 (f 23), .int .u8 (f 24), .int .u8 (f 25), .int .u8 (f 26), .int .u8 (f 27), .int .u8 (f 28), .int .u8 (f 29), .int .u8 (f 30), .int .u8 (f 31)]
def ib4 (m0 m1 m2 m3 : Int) (i : Nat) : Int := IntKind.u8.wrap (Int.fdiv (match (31 - i) / 8 with | 0 => m0 | 1 => m1 | 2 => m2 | _ => m3) (2 ^ (8 * ((31 - i) % 8))))
def nb1 (x : Int) : List Int := [IntKind.u8.wrap (Int.fdiv x (2 ^ 0))]
def nb4 (x : Int) : List Int := [IntKind.u8.wrap (Int.fdiv x (2 ^ 24)), IntKind.u8.wrap (Int.fdiv x (2 ^ 16)), IntKind.u8.wrap (Int.fdiv x (2 ^ 8)), IntKind.u8.wrap (Int.fdiv x (2 ^ 0))]
def l32 (f : Nat → Int) : List Int := [f 0, f 1, f 2, f 3, f 4, f 5, f 6, f 7, f 8, f 9, f 10, f 11, f 12, f 13, f 14, f 15, f 16, f 17, f 18, f 19, f 20, f 21, f 22, f 23, f 24, f 25, f 26, f 27, f 28, f 29, f 30, f 31]
theorem wit_bok {r L : List Int} {n : Nat} (h : L.length = n) : ∃ x : Row, (fun zx => BOK zx ∧ (dg zx).length = r.length + n ∧ dg zx = r ++ L) x :=
  ⟨.mk 0 (bv (r ++ L)) [], bok_lit _ _ _, by show ((bv (r ++ L)).map ci).length = _; rw [bv_ci, List.length_append, h], by show (bv (r ++ L)).map ci = _; rw [bv_ci]⟩
theorem wit_bok0 {r : List Int} : ∃ x : Row, (fun zx => BOK zx ∧ (dg zx).length = r.length ∧ dg zx = r) x :=
  ⟨.mk 0 (bv r) [], bok_lit _ _ _, by show ((bv r).map ci).length = _; rw [bv_ci], by show (bv r).map ci = _; rw [bv_ci]⟩
theorem wit_bok1 {r : List Int} {n : Nat} (h : r.length = n) : ∃ x : Row, (fun zx => BOK zx ∧ (dg zx).length = n ∧ dg zx = r) x :=
  ⟨.mk 0 (bv r) [], bok_lit _ _ _, by show ((bv r).map ci).length = _; rw [bv_ci, h], by show (bv r).map ci = _; rw [bv_ci]⟩
theorem l32_length (f : Nat → Int) : (l32 f).length = 32 := rfl
end Go.Sx
namespace Go.Sx
def F_bs1 (e : TypeId) : List Value → List Slot → Ctr := fun vs _ => ⟨Nat, fun b => .slice (some ⟨b, 0, none⟩) 1 1, fun b => [.blk b (.cells #[varg vs 0] e (0, 0))], fun _ => True⟩
theorem xbs1 {P : Program} {t e : TypeId} {z : Value} (ht : P.underlying t = some (.slice e)) (h3 : (P.info? e).bind (·.zero) = some z) (h4 : (P.info? e).map (·.size) = some 1) (hzc : z.cells = #[z]) (v : Value) (hv : v.cells = #[v]) :
    OpT P (do pure (.value (← Instr.buildSlice t 1 #[(0, v)]))) [] Nat (fun b => .slice (some ⟨b, 0, none⟩) 1 1) (fun b => [.blk b (.cells #[v] e (0, 0))]) (fun _ => True) := by
  intro R w ho
  obtain ⟨i, hi, hz, hs⟩ : ∃ i, P.info? e = some i ∧ i.zero = some z ∧ i.size = 1 := by
    cases hi : P.info? e with
    | none => rw [hi] at h3; cases h3
    | some i =>
      rw [hi] at h3 h4
      simp at h3 h4
      exact ⟨i, rfl, h3, h4⟩
  refine ⟨w.heap.size, w.alloc (.cells #[v] e), trivial, .inl ?_, ?_, ⟨rfl, rfl, rfl, by simp⟩⟩
  · simp [Instr.buildSlice, run_underlying ht, sizeOf, typeInfo, zeroValue, hi, hz, hs, hzc, Instr.fill, hv, newRow]
    refine congrArg (fun a => w.alloc (Obj.cells a e)) (Array.ext (by simp) fun j h1 h2 => ?_)
    have hj : j = 0 := by simp at h2; exact h2
    subst hj
    simp
  · have := ho.new (w' := w.alloc (.cells #[v] e)) (i := 0) (heap_alloc_new w _) (fun c hc => heap_alloc_old w _ c hc)
    refine (congrArg (fun H => Own H R (w.alloc (.cells #[v] e))) ?_).mp this
    funext j
    cases j with
    | zero => simp [upd, ofList]
    | succ j => rfl
end Go.Sx
