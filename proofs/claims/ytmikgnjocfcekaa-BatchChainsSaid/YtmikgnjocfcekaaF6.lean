/- A part of the prover's own frame for walking code (see the claim's other texts). -/
import Derived.Test.YtmikgnjocfcekaaF3
import Derived.Test.YtmikgnjocfcekaaF4
import Derived.Test.YtmikgnjocfcekaaF5
import Derived.Shelf.SlMaps.Clone
import Derived.Shelf.SlSortCmp.Whole1
import Derived.Shelf.SlSortCmp.NoneTotal
set_option linter.unusedVariables false
set_option linter.unusedSimpArgs false
namespace Go.Sx
open Go.RowKit
def fl (l : List Value) : List Value := l.flatMap fun v => v.cells.toList
theorem fl_append (a b : List Value) : fl (a ++ b) = fl a ++ fl b := by simp [fl]
/-- A struct of k cells. -/
def Ag (k : Nat) (v : Value) : Prop := ∃ cs, v = .agg cs ∧ cs.size = k
theorem fl_cons (v : Value) (l : List Value) : fl (v :: l) = v.cells.toList ++ fl l := by simp [fl]
theorem Ag.len {k : Nat} {v : Value} (h : Ag k v) : v.cells.toList.length = k := by obtain ⟨cs, rfl, h⟩ := h; simpa [Value.cells] using h
theorem Ag.eq {k : Nat} {v : Value} (h : Ag k v) : v = .agg v.cells := by obtain ⟨cs, rfl, h⟩ := h; rfl
theorem fl_length {k : Nat} : ∀ {l : List Value}, (∀ v ∈ l, Ag k v) → (fl l).length = l.length * k
  | [], _ => by simp [fl]
  | v :: l, h => by
    rw [fl_cons, List.length_append, (h v (List.mem_cons_self ..)).len, fl_length fun v hv => h v (List.mem_cons_of_mem _ hv), List.length_cons, Nat.succ_mul, Nat.add_comm]
theorem fl_get {k : Nat} : ∀ {l : List Value} (_ : ∀ v ∈ l, Ag k v) {n : Nat} {x : Value} (_ : l[n]? = some x) {j : Nat} {c : Value} (_ : x.cells.toList[j]? = some c), (fl l)[n * k + j]? = some c
  | [], _, n, x, hn, _, _, _ => by simp at hn
  | v :: l, h, n, x, hn, j, c, hj => by
    have hv := (h v (List.mem_cons_self ..)).len
    rw [fl_cons]
    cases n with
    | zero =>
      simp at hn; subst hn
      have : j < v.cells.toList.length := by
        rcases Nat.lt_or_ge j v.cells.toList.length with q | q
        · exact q
        · rw [List.getElem?_eq_none q] at hj; cases hj
      rw [Nat.zero_mul, Nat.zero_add, List.getElem?_append_left this, hj]
    | succ n =>
      rw [List.getElem?_append_right (by rw [hv, Nat.succ_mul]; omega), hv, show (n + 1) * k + j - k = n * k + j by rw [Nat.succ_mul]; omega]
      exact fl_get (fun v hv => h v (List.mem_cons_of_mem _ hv)) (by simpa using hn) hj
theorem fl_chunk {k : Nat} : ∀ (n : Nat) (l : List Value), l.length = n * k → ∃ ex : List Value, ex.length = n ∧ fl ex = l ∧ ∀ v ∈ ex, Ag k v
  | 0, l, h => ⟨[], rfl, by cases l with
    | nil => rfl
    | cons a l => simp at h, fun v hv => by cases hv⟩
  | n + 1, l, h => by
    rw [Nat.succ_mul] at h
    obtain ⟨ex, h1, h2, h3⟩ := fl_chunk (k := k) n (l.drop k) (by rw [List.length_drop]; omega)
    refine ⟨.agg (l.take k).toArray :: ex, by simp [h1], ?_, fun v hv => ?_⟩
    · rw [fl_cons, h2]; simp [Value.cells]
    · rcases List.mem_cons.1 hv with rfl | hv
      · exact ⟨_, rfl, by simp; omega⟩
      · exact h3 v hv
/-- A row of structs of k cells. -/
def Row.Ag (k : Nat) : Row → Prop | .nil => True | .mk _ vs ex => ∀ v ∈ vs ++ ex, Sx.Ag k v
def RK (k : Nat) := { r : Row // r.Ag k }
def RK.nil (k : Nat) : RK k := ⟨.nil, trivial⟩
def sk (e : TypeId) : Row → Slot
  | .nil => .free
  | .mk b vs ex => .blk b (.cells (fl (vs ++ ex)).toArray e (0, 0))
structure SkT (P : Program) (t e : TypeId) (k : Nat) (z : Value) : Prop where
  und : P.underlying t = some (.slice e)
  info : ∃ i, P.info? e = some i ∧ i.zero = some z ∧ i.size = k ∧ i.bytes ≤ 4096
  zc : z.cells.size = k
  agg : ∀ w, (isAgg e).run P w = .ok true w
theorem SkT.of {P : Program} {t e : TypeId} {k : Nat} {z : Value} (h1 : P.underlying t = some (.slice e)) (h3 : (P.info? e).bind (·.zero) = some z) (h4 : (P.info? e).map (fun i => (i.size, Nat.ble i.bytes 4096)) = some (k, true)) (h5 : z.cells.size = k) (h6 : ∀ w, (isAgg e).run P w = .ok true w) : SkT P t e k z := by
  refine ⟨h1, ?_, h5, h6⟩
  cases hi : P.info? e with
  | none => rw [hi] at h3; cases h3
  | some i =>
    rw [hi] at h3 h4
    simp at h3 h4
    exact ⟨i, rfl, h3, h4.1, h4.2⟩
theorem SkT.size {P : Program} {t e : TypeId} {k : Nat} {z : Value} (h : SkT P t e k z) (w : World) : (sizeOf e).run P w = .ok k w := by
  obtain ⟨i, hi, hz, hs, hb⟩ := h.info
  simp [sizeOf, typeInfo, hi, hs]
theorem xlenK {P : Program} {t e : TypeId} {k : Nat} {z : Value} (h : SkT P t e k z) (ty : TypeId) (r : Row) : PureRun P (do pure (.value (← Builtin.len_ #[t] ty #[sv r]))) (.int .i64 ((vlen (sv r) : Nat) : Int)) := by
  intro w
  cases r <;> simp [Builtin.len_, run_underlying h.und, sv, vlen, goInt]
def f_idxK (k : Nat) : List Value → Value := fun vs => .pointer (some ⟨vblk (varg vs 0), (ci (varg vs 1)).toNat * k, none⟩)
theorem xidxK {P : Program} {t e : TypeId} {n : Nat} {z : Value} (h : SkT P t e n z) (r : Row) (k : IntKind) (i : Int) (h0 : 0 ≤ i) (h1 : i < ((vals r).length : Nat)) :
    PureRun P (do pure (.value (← Instr.indexAt t (sv r) (.int k i)))) (.pointer (some ⟨vblk (sv r), i.toNat * n, none⟩)) := by
  intro w
  cases r with
  | nil => simp [vals] at h1; omega
  | mk b vs ex =>
    have hc : 0 ≤ i ∧ i < (vs.length : Int) := ⟨h0, h1⟩
    simp [Instr.indexAt, run_underlying h.und, sv, asIntOf, hc, h.size w, vblk, Addr.add]
    omega
theorem xgetK {P : Program} {t e : TypeId} {k : Nat} {z : Value} (h : SkT P t e k z) (r : RK k) (n : Nat) (x : Value) (hx : (vals r.1)[n]? = some x) :
    OpT P (do pure (.value (← Instr.loadAt e (.pointer (some ⟨vblk (sv r.1), n * k, none⟩))))) [sk e r.1] Unit (fun _ => x) (fun _ => [sk e r.1]) (fun _ => True) := by
  obtain ⟨r, hr⟩ := r
  intro R w ho
  cases r with
  | nil => simp [vals] at hx
  | mk b vs ex =>
    have hb := ho.block (i := 0) rfl
    simp only [vals] at hx
    have hn : n < vs.length := by
      rcases Nat.lt_or_ge n vs.length with q | q
      · exact q
      · rw [List.getElem?_eq_none q] at hx; cases hx
    have hx' : (vs ++ ex)[n]? = some x := by rw [List.getElem?_append_left hn, hx]
    have hA := hr x (List.mem_of_getElem? hx')
    have hcell : ∀ j c, x.cells.toList[j]? = some c → w.cell? ((⟨b, n * k, none⟩ : Addr).add j) = some c := fun j c hj => by
      have e1 : (⟨b, n * k, none⟩ : Addr).add j = ⟨b, n * k + j, none⟩ := Addr.add_lit ..
      rw [e1]
      have := fl_get hr hx' hj
      simp [World.cell?, hb, this]
    have hrun := run_loadCells_list (P := P) w ⟨b, n * k, none⟩ x.cells.toList hcell
    rw [hA.len] at hrun
    refine ⟨(), w, trivial, .inl ?_, ho, Ext.refl w⟩
    obtain ⟨cs, rfl, hcs⟩ := hA
    simp [Instr.loadAt, Instr.sureAddr, vblk, sv, loadVar, Sem.run_bind, h.agg, h.size w, hrun, Value.cells]
def putAll (cs : Array Value) (o : Nat) : List Value → Array Value
  | [] => cs
  | v :: vs => putAll (cs.setIfInBounds o v) (o + 1) vs
theorem heap_setCells_same (b : Nat) (t : TypeId) : ∀ (vs : List Value) (o : Nat) (w : World) (cs : Array Value), w.heap[b]? = some (.cells cs t (0, 0)) → (w.setCells b o vs).heap[b]? = some (.cells (putAll cs o vs) t (0, 0))
  | [], _, _, _, h => h
  | v :: vs, o, w, cs, h => heap_setCells_same b t vs (o + 1) _ _ (heap_setCell_same w b o cs t v h)
theorem putAll_eq : ∀ (vs a m c : List Value), m.length = vs.length → putAll (a ++ m ++ c).toArray a.length vs = (a ++ vs ++ c).toArray
  | [], a, m, c, h => by
    have : m = [] := List.eq_nil_of_length_eq_zero h
    subst this; rfl
  | v :: vs, a, m, c, h => by
    cases m with
    | nil => simp at h
    | cons x m =>
      simp only [putAll]
      have e : ((a ++ x :: m ++ c).toArray.setIfInBounds a.length v) = ((a ++ [v]) ++ m ++ c).toArray := by simp
      rw [e]
      have := putAll_eq vs (a ++ [v]) m c (by simpa using h)
      simp only [List.length_append, List.length_singleton] at this
      rw [this]; simp
theorem heap_setCells_other' (b : Nat) : ∀ (vs : List Value) (o : Nat) (w : World) (c : Nat), c ≠ b → (w.setCells b o vs).heap[c]? = w.heap[c]?
  | [], _, _, _, _ => rfl
  | v :: vs, o, w, c, h => (heap_setCells_other' b vs (o + 1) _ c h).trans (heap_setCell_other w _ c v h)
theorem ext_setCells (b : Nat) : ∀ (vs : List Value) (o : Nat) (w : World), Ext w (w.setCells b o vs)
  | [], _, w => Ext.refl w
  | v :: vs, o, w => Ext.trans (b := w.setCell ⟨b, o, none⟩ v) ⟨rfl, rfl, rfl, by simp, by first | exact Nat.le_refl _ | exact Nat.le_succ _ | simp⟩ (ext_setCells b vs (o + 1) _)
theorem xappK {P : Program} {t e : TypeId} {k : Nat} {z : Value} (h : SkT P t e k z) (ty : TypeId) (r : RK k) (hl : (vals r.1).length ≤ 1073741824) (c m : Nat) (x : Value) (hx : Ag k x) (h2 : ∀ u ∈ x.cells.toList, u.oneCell' = true) :
    OpT P (do pure (.value (← Builtin.append_ #[t, t] ty #[sv r.1, .slice (some ⟨c, 0, none⟩) 1 m]))) [sk e r.1, .blk c (.cells x.cells e (0, 0))] (RK k) (fun y => sv y.1) (fun y => [sk e y.1, .blk c (.cells x.cells e (0, 0))]) (fun y => vals y.1 = vals r.1 ++ [x]) := by
  obtain ⟨r, hr⟩ := r
  intro R w h0
  obtain ⟨i, hi, hz, hs, hby⟩ := h.info
  have hc := h0.block (i := 1) rfl
  have hxl := hx.len
  have hnews : ∀ j u, x.cells.toList[j]? = some u → w.cell? ((⟨c, 0, none⟩ : Addr).add j) = some u := by
    intro j u hu
    have e1 : (⟨c, 0, none⟩ : Addr).add j = ⟨c, 0 + j, none⟩ := Addr.add_lit ..
    rw [e1, Nat.zero_add]
    simpa [World.cell?, hc] using hu
  have upd1 : ∀ (s : Slot), upd (ofList [sk e r, .blk c (.cells x.cells e (0, 0))]) 0 s = ofList [s, .blk c (.cells x.cells e (0, 0))] := by
    intro s; funext i
    cases i with
    | zero => rfl
    | succ i => cases i <;> rfl
  have fresh : ∀ (o : Obj), Own (ofList [.blk w.heap.size o, .blk c (.cells x.cells e (0, 0))]) R (w.drew.alloc o) := by
    intro o
    have := h0.new (w' := w.drew.alloc o) (i := 0) (o := o) (heap_alloc_new w.drew o) (fun c hc => heap_alloc_old w.drew o c hc)
    rw [upd1] at this
    exact this
  have ext : ∀ (o : Obj), Ext w (w.drew.alloc o) := fun o => ⟨rfl, rfl, rfl, by simp, by first | exact Nat.le_refl _ | exact Nat.le_succ _ | simp⟩
  have zl : ∀ n, ∃ ex : List Value, ex.length = n ∧ fl ex = (Builtin.zeroCells z.cells n).toList ∧ ∀ v ∈ ex, Ag k v := by
    intro n
    exact fl_chunk n _ (by rw [Array.length_toList, size_zeroCells, h.zc])
  cases r with
  | nil =>
    have hrn := run_append_nil (P := P) w t ty e i z h.und hi hz ⟨c, 0, none⟩ 1 m x.cells.toList (by rw [hs, hxl, Nat.one_mul]) hnews (by decide) (by decide) (by omega)
    obtain ⟨ex, he, hf, hA⟩ := zl (grownCap w 1 0 e - 1)
    have hge := grownCap_ge w 1 0 e
    have ef : fl ([x] ++ ex) = x.cells.toList ++ (Builtin.zeroCells z.cells (grownCap w 1 0 e - 1)).toList := by rw [fl_append, hf, fl_cons]; simp [fl]
    refine ⟨⟨.mk w.heap.size [x] ex, fun v hv => by
      rcases List.mem_append.1 hv with hv | hv
      · simp at hv; subst hv; exact hx
      · exact hA v hv⟩, _, rfl, .inl ?_, ?_, ext (.cells (fl ([x] ++ ex)).toArray e)⟩
    · simp only [sv]
      show (Sem.run P (Builtin.append_ _ _ _ >>= _) w) = _
      rw [Sem.run_bind, hrn]
      have : 1 + ex.length = grownCap w 1 0 e := by omega
      have e2 : (x.cells.toList.toArray ++ Builtin.zeroCells z.cells (grownCap w 1 0 e - 1)) = (fl ([x] ++ ex)).toArray := by rw [ef]; apply Array.ext'; simp
      rw [e2]
      simp [this, Result.andThen]
    · exact fresh (.cells (fl ([x] ++ ex)).toArray e)
  | mk b vs ex =>
    simp only [vals] at hl
    have hb := h0.block (i := 0) rfl
    have hA : ∀ v ∈ vs ++ ex, Ag k v := hr
    have hv1 : ∀ v ∈ vs, Ag k v := fun v hv => hA v (List.mem_append_left _ hv)
    have hv2 : ∀ v ∈ ex, Ag k v := fun v hv => hA v (List.mem_append_right _ hv)
    have hbb : w.heap[b]? = some (.cells (fl (vs ++ ex)).toArray e (0, 0)) := hb
    by_cases hroom : vs.length + 1 ≤ vs.length + ex.length
    · cases ex with
      | nil => exact absurd hroom (by simp)
      | cons e0 ex =>
        have he0 := (hv2 e0 (List.mem_cons_self ..)).len
        have hcell : ∀ j, j < x.cells.toList.length → (w.cell? ⟨b, 0 + vs.length * i.size + j, none⟩).isSome = true := by
          intro j hj
          rw [hs, Nat.zero_add]
          have hlen : vs.length * k + j < (fl (vs ++ e0 :: ex)).length := by
            rw [fl_length hA, List.length_append, List.length_cons, Nat.add_mul, Nat.succ_mul]; omega
          simp [World.cell?, hbb, List.getElem?_eq_getElem hlen]
        have hrn := run_append_room_cells (P := P) w t ty e i h.und hi b 0 vs.length (vs.length + (e0 :: ex).length) ⟨c, 0, none⟩ 1 m x.cells.toList (by rw [hs, hxl, Nat.one_mul]) hnews h2 hroom hcell (fun j hj => frozen_of_row w b _ _ e hbb)
        rw [hs, Nat.zero_add] at hrn
        have hh := heap_setCells_same b e x.cells.toList (vs.length * k) w _ hbb
        have hset : putAll (fl (vs ++ e0 :: ex)).toArray (vs.length * k) x.cells.toList = (fl (vs ++ [x] ++ ex)).toArray := by
          have := putAll_eq x.cells.toList (fl vs) e0.cells.toList (fl ex) (by rw [he0, hxl])
          rw [fl_length hv1] at this
          rw [show fl (vs ++ e0 :: ex) = fl vs ++ e0.cells.toList ++ fl ex by rw [fl_append, fl_cons, List.append_assoc], this, fl_append, fl_append]
          simp [fl]
        rw [hset] at hh
        refine ⟨⟨.mk b (vs ++ [x]) ex, fun v hv => by
          rcases List.mem_append.1 hv with hv | hv
          · rcases List.mem_append.1 hv with hv | hv
            · exact hv1 v hv
            · simp at hv; subst hv; exact hx
          · exact hv2 v (List.mem_cons_of_mem _ hv)⟩, w.setCells b (vs.length * k) x.cells.toList, rfl, .inl ?_, ?_, ext_setCells b _ _ w⟩
        · simp only [sv]
          rw [Sem.run_bind, hrn]
          simp [Nat.add_comm, Nat.add_left_comm, Result.andThen]
        · have := h0.set (i := 0) (b := b) rfl hh (fun c hc => heap_setCells_other' b _ _ w c hc)
          rw [upd1] at this
          exact this
    · have hex : ex = [] := by cases ex with
        | nil => rfl
        | cons a l => simp at hroom
      subst hex
      have holds : ∀ j u, (fl vs)[j]? = some u → w.cell? ((⟨b, 0, none⟩ : Addr).add j) = some u := by
        intro j u hu
        have : (⟨b, 0, none⟩ : Addr).add j = ⟨b, 0 + j, none⟩ := Addr.add_lit ..
        rw [this]
        simp only [List.append_nil] at hbb
        simp [World.cell?, hbb, hu]
      have hfit : Builtin.nextslicecap (vs.length + 1) (vs.length + ([] : List Value).length) * i.bytes ≤ 281474976710656 := by
        refine growslice_fits (by simp) ?_
        have : (vs.length + 1) * i.bytes ≤ 1073741825 * 4096 := Nat.mul_le_mul (by omega) hby
        omega
      have hrn := run_append_grow (P := P) w t ty e i z h.und hi hz ⟨b, 0, none⟩ vs.length (vs.length + ([] : List Value).length) (fl vs) (by rw [hs, fl_length hv1]) holds ⟨c, 0, none⟩ 1 m x.cells.toList (by rw [hs, hxl, Nat.one_mul]) hnews (by simp) (by omega) hfit
      obtain ⟨ex, he, hf, hA2⟩ := zl (grownCap w (vs.length + 1) (vs.length + ([] : List Value).length) e - (vs.length + 1))
      have hge := grownCap_ge w (vs.length + 1) (vs.length + ([] : List Value).length) e
      have ef : (fl vs).toArray ++ x.cells.toList.toArray ++ Builtin.zeroCells z.cells (grownCap w (vs.length + 1) (vs.length + ([] : List Value).length) e - (vs.length + 1)) = (fl (vs ++ [x] ++ ex)).toArray := by
        rw [fl_append, fl_append, hf]; apply Array.ext'; simp [fl]
      rw [ef] at hrn
      refine ⟨⟨.mk w.heap.size (vs ++ [x]) ex, fun v hv => by
          rcases List.mem_append.1 hv with hv | hv
          · rcases List.mem_append.1 hv with hv | hv
            · exact hv1 v hv
            · simp at hv; subst hv; exact hx
          · exact hA2 v hv⟩, w.drew.alloc (.cells (fl (vs ++ [x] ++ ex)).toArray e), rfl, .inl ?_, fresh _, ext _⟩
      simp only [sv]
      rw [Sem.run_bind, hrn]
      have e1 : (vs ++ [x]).length = vs.length + 1 := by simp
      have e2 : (vs ++ [x]).length + ex.length = grownCap w (vs.length + 1) (vs.length + ([] : List Value).length) e := by rw [e1]; omega
      rw [e2, e1]; rfl
end Go.Sx

namespace Go.Sx
open Go.RowKit Go.Proofs Go.Shelf
theorem clone_map {P : Program} {ρ : Ren} (L : SlLaysW.n5 P ρ) {f : FuncId} (hf : ρ.f 5 = f) (he : EnterOK P f) {r : Nat} {m : KV} :
    CallT P f #[.map (some r)] [mo r m] Nat (fun n => .map (some n)) (fun n => [mo r m, mo n m]) (fun _ => True) := by
  refine ⟨he, fun R w ho => ?_⟩
  obtain ⟨es, clock, ⟨e, hb⟩, ho'⟩ := mo_open (l := []) ho
  have hc := AnyW.maps_Clone L r es clock w (ho'.block (i := 0) rfl)
  rw [hf] at hc
  refine hc.mono ?_
  rintro e' w' ⟨rfl, rfl⟩
  refine ⟨w.heap.size, trivial, rfl, ?_, ⟨rfl, rfl, rfl, by simp, Nat.le_refl _⟩⟩
  have o1 := ho'.new (w' := w.alloc (.map es clock)) (i := 1) (o := .map es clock) (heap_alloc_new w _) (fun c hc => by show (w.heap.push _)[c]? = _; rw [Array.getElem?_push_lt hc, Array.getElem?_eq_getElem hc])
  have o2 : Own (ofList [.blk r (.map es clock), .blk w.heap.size (.map es clock)]) R (w.alloc (.map es clock)) := by
    refine (congrArg (fun H => Own H R (w.alloc (.map es clock))) ?_).mp o1
    funext j
    cases j with
    | zero => rfl
    | succ j => cases j <;> rfl
  have o3 := mo_shut e hb o2
  have o4 : Own (ofList ([.blk w.heap.size (.map es clock)] ++ [mo r m])) R (w.alloc (.map es clock)) := Imp.swap [mo r m] [.blk w.heap.size (.map es clock)] R _ o3
  exact Imp.swap [mo w.heap.size m] [mo r m] R _ (mo_shut e hb o4)
end Go.Sx

namespace Go.Sx
open Go.RowKit
/-! ### The rest of a row -/
def vdrop (v : Value) (m : Nat) : Value := match v with | .slice a l c => sliced a m l c 1 | v => v
theorem vlen_drop (r : Row) (m : Nat) : vlen (vdrop (sv r) m) = (vals r).length - m := by cases r <;> simp [vdrop, sv, sliced, vlen, vals]
theorem xdrop {P : Program} {t e : TypeId} {z : Value} (h : SlT P t e z) (r : Row) (k : IntKind) (n : Int) (h0 : 0 ≤ n) (h1 : n ≤ ((vals r).length : Nat)) :
    PureRun P (do pure (.value (← Instr.sliceAt t (sv r) (some (.int k n)) none none))) (vdrop (sv r) n.toNat) := by
  intro w
  have hu : P.underlying t = some (.slice (P.elem t)) := by rw [h.elem]; exact h.und
  have hs := h.size w
  rw [← h.elem] at hs
  have key : ∀ (a : Option Addr) (l c : Nat), sv r = .slice a l c → n ≤ (l : Int) → (Instr.sliceAt t (sv r) (some (.int k n)) none none).run P w = .ok (vdrop (sv r) n.toNat) w := by
    intro a l c hv hc
    rw [hv, run_sliceAt_slice w t _ _ _ _ hu, run_slice_l w t a l c hu k n h0 hc, hs]
    rfl
  have hk : (Instr.sliceAt t (sv r) (some (.int k n)) none none).run P w = .ok (vdrop (sv r) n.toNat) w := by
    cases r with
    | nil => exact key none 0 0 rfl h1
    | mk b vs ex => exact key _ _ _ rfl h1
  rw [Sem.run_bind, hk]; rfl
theorem xdlen {P : Program} {t e : TypeId} {z : Value} (h : SlT P t e z) (ty : TypeId) (r : Row) (m : Nat) : PureRun P (do pure (.value (← Builtin.len_ #[t] ty #[vdrop (sv r) m]))) (.int .i64 ((vlen (vdrop (sv r) m) : Nat) : Int)) := by
  intro w
  cases r <;> simp [Builtin.len_, run_underlying h.und, sv, vdrop, sliced, vlen, goInt]
theorem xdidx {P : Program} {t e : TypeId} {z : Value} (h : SlT P t e z) (r : Row) (m : Nat) (k : IntKind) (i : Int) (h0 : 0 ≤ i) (h1 : i < ((vlen (vdrop (sv r) m) : Nat) : Int)) :
    PureRun P (do pure (.value (← Instr.indexAt t (vdrop (sv r) m) (.int k i)))) (.pointer (some ⟨vblk (sv r), m + i.toNat, none⟩)) := by
  intro w
  rw [vlen_drop] at h1
  cases r with
  | nil => simp [vals] at h1; omega
  | mk b vs ex =>
    simp only [vals] at h1
    have hm : vs.length + ex.length ≠ m := by omega
    have hc : 0 ≤ i ∧ i < ((vs.length - m : Nat) : Int) := ⟨h0, h1⟩
    simp [Instr.indexAt, run_underlying h.und, sv, vdrop, sliced, hm, asIntOf, hc, h.size w, vblk, Addr.add]
    by_cases hm0 : m = 0 <;> by_cases hi : i ≤ 0 <;> simp [hm0, hi] <;> omega
theorem cells_vdrop (r : Row) (m : Nat) : (vdrop (sv r) m).cells = #[vdrop (sv r) m] := by cases r <;> rfl
theorem cells_vtake (r : Row) (m : Nat) : (vtake (sv r) m).cells = #[vtake (sv r) m] := by cases r <;> rfl
theorem one_vtake (r : Row) (m : Nat) : (vtake (sv r) m).oneCell' = true := by cases r <;> rfl
theorem getD_some {l : List Value} {n : Nat} (h : n < l.length) : l[n]? = some (l.getD n undef) := by
  rw [List.getD_eq_getElem?_getD, List.getElem?_eq_getElem h]; rfl
def bunL (l : List Slot) : Slot := bun [] .none (fun _ : Unit => l)
theorem bunL_shut (l k : List Slot) : Imp (l ++ k) (bunL l :: k) := bun_shut (F := fun _ : Unit => l) () k
theorem bunL_open (l k : List Slot) : Imp (bunL l :: k) (l ++ k) := fun _ _ h => (bun_open h).choose_spec
theorem sep_perm {a b : List Slot} (h : a.Perm b) : ∀ p, SepL a p → SepL b p := by
  induction h with
  | nil => exact fun _ h => h
  | cons x _ ih => exact fun _ ⟨p, q, hs, hl, d, e⟩ => ⟨p, q, hs, ih q hl, d, e⟩
  | swap x y l =>
    intro h hs
    have h1 : SepL ([y] ++ ([x] ++ l)) h := hs
    have h2 := sep_mid (a := [x]) (b := [y]) (c := l) |>.2 h1
    exact h2
  | trans _ _ ih1 ih2 => exact fun p h => ih2 p (ih1 p h)
theorem Imp.perm {a b : List Slot} (h : a.Perm b) : Imp a b := .same (sep_perm h)
/-! ### What is taken back -/
abbrev MS3 := MK × Nat × KV
def mSs (bj : Nat) (Ms : List MS3) : List Slot := Ms.map fun x => mS x.1 x.2.1 bj x.2.2
noncomputable def Ent.undo (e : Ent) (m : KV) : KV := match e.was with | some v => mset m e.key v | none => mdel m e.key
noncomputable def undo1 (e : Ent) (Ms : List MS3) : List MS3 := Ms.map fun x => if x.2.1 = e.b then (x.1, x.2.1, e.undo x.2.2) else x
noncomputable def undoAll (E : List Ent) (Ms : List MS3) : List MS3 := E.foldr undo1 Ms
structure EOK (P : Program) (bj : Nat) (K : MK) (e : Ent) : Prop where
  call : ∀ (a : N4) (m : KV), CallT P e.g #[ptr a.1, ptr a.2.1, ptr a.2.2.1, ptr a.2.2.2] (mS K e.b bj m :: e.sl a) Unit (fun _ => undef) (fun _ => mS K e.b bj (e.undo m) :: e.sl a) (fun _ => True)
theorem undo1_ks (e : Ent) (Ms : List MS3) : (undo1 e Ms).map (fun x => (x.1, x.2.1)) = Ms.map (fun x => (x.1, x.2.1)) := by
  unfold undo1
  rw [List.map_map]
  refine List.map_congr_left fun x _ => ?_
  simp only [Function.comp]
  split <;> rfl
theorem undoAll_ks (E : List Ent) (Ms : List MS3) : (undoAll E Ms).map (fun x => (x.1, x.2.1)) = Ms.map (fun x => (x.1, x.2.1)) := by
  unfold undoAll
  induction E with
  | nil => rfl
  | cons e E ih => rw [List.foldr_cons, undo1_ks]; exact ih
theorem ks_blocks {Ms Ms' : List MS3} (h : Ms.map (fun x => (x.1, x.2.1)) = Ms'.map (fun x => (x.1, x.2.1))) : Ms.map (·.2.1) = Ms'.map (·.2.1) := by
  have := congrArg (List.map (·.2)) h
  rw [List.map_map, List.map_map] at this
  exact this
theorem undo1_split {e : Ent} {p q : List MS3} {y : MS3} (hy : y.2.1 = e.b) (hn : ((p ++ y :: q).map (·.2.1)).Nodup) : undo1 e (p ++ y :: q) = p ++ (y.1, e.b, e.undo y.2.2) :: q := by
  rw [List.map_append, List.map_cons, List.nodup_append] at hn
  obtain ⟨_, h2, h3⟩ := hn
  have h4 := (List.nodup_cons.1 h2).1
  unfold undo1
  rw [List.map_append, List.map_cons, if_pos hy, hy]
  congr 1
  · rw [List.map_congr_left (g := id), List.map_id]
    intro x hx
    rw [if_neg]; rfl
    intro he
    exact h3 x.2.1 (List.mem_map_of_mem hx) y.2.1 (List.mem_cons_self ..) (he.trans hy.symm)
  · congr 1
    rw [List.map_congr_left (g := id), List.map_id]
    intro x hx
    rw [if_neg]; rfl
    intro he
    exact h4 (by rw [hy, ← he]; exact List.mem_map_of_mem hx)
theorem zip_split : ∀ {E : List Ent} {A : List N4}, A.length = E.length → ∀ (x : Nat) (h : x < E.length) (h' : x < A.length), ∃ u v, ents E A = u ++ (E[x].sl A[x] ++ v)
  | e :: E, a :: A, hl, 0, _, _ => ⟨[], ents E A, by simp [ents]⟩
  | e :: E, a :: A, hl, x + 1, h, h' => by
    obtain ⟨u, v, huv⟩ := zip_split (E := E) (A := A) (by simpa using hl) x (by simpa using h) (by simpa using h')
    exact ⟨e.sl a ++ u, v, by
      have : ents (e :: E) (a :: A) = e.sl a ++ ents E A := by simp [ents]
      rw [this, huv]; simp⟩
noncomputable def stepT (bj : Nat) (Ms : List MS3) (E : List Ent) (A : List N4) (x : Nat) : List Slot := mSs bj (undoAll (E.drop x) Ms) ++ ents E A
theorem step_call {P : Program} {bj : Nat} {Ms : List MS3} {E : List Ent} {A : List N4} (hl : A.length = E.length) (hn : (Ms.map (·.2.1)).Nodup) (hE : ∀ e ∈ E, ∃ y ∈ Ms, y.2.1 = e.b ∧ EOK P bj y.1 e)
    {x : Nat} (h0 : 0 < x) (hx : x ≤ E.length) : ∃ e a, E[x - 1]? = some e ∧ A[x - 1]? = some a ∧
      CallT P e.g #[ptr a.1, ptr a.2.1, ptr a.2.2.1, ptr a.2.2.2] [bunL (stepT bj Ms E A x)] Unit (fun _ => undef) (fun _ => [bunL (stepT bj Ms E A (x - 1))]) (fun _ => True) := by
  have h1 : x - 1 < E.length := by omega
  have h2 : x - 1 < A.length := by omega
  refine ⟨E[x - 1], A[x - 1], List.getElem?_eq_getElem h1, List.getElem?_eq_getElem h2, ?_⟩
  obtain ⟨y0, hy0, hb, hok⟩ := hE E[x - 1] (List.getElem_mem h1)
  have hks := undoAll_ks (E.drop x) Ms
  have hmem : (y0.1, y0.2.1) ∈ (undoAll (E.drop x) Ms).map (fun x => (x.1, x.2.1)) := by rw [hks]; exact List.mem_map_of_mem hy0
  obtain ⟨y, hy, hyk⟩ := List.mem_map.1 hmem
  obtain ⟨hy1, hy2⟩ : y.1 = y0.1 ∧ y.2.1 = y0.2.1 := by simpa using hyk
  obtain ⟨p, q, hpq⟩ := List.append_of_mem hy
  have hnd : ((p ++ y :: q).map (·.2.1)).Nodup := by rw [← hpq, ks_blocks hks]; exact hn
  obtain ⟨u, v, huv⟩ := zip_split hl (x - 1) h1 h2
  have hyb : y.2.1 = E[x - 1].b := hy2.trans hb
  have hstep : undoAll (E.drop (x - 1)) Ms = p ++ (y.1, E[x - 1].b, E[x - 1].undo y.2.2) :: q := by
    have : E.drop (x - 1) = E[x - 1] :: E.drop x := by
      rw [List.drop_eq_getElem_cons h1]; congr 2; omega
    rw [this]
    show undo1 _ (undoAll (E.drop x) Ms) = _
    rw [hpq]; exact undo1_split hyb hnd
  have c := ((hok.call A[x - 1] y.2.2).frame (mSs bj p ++ mSs bj q ++ u ++ v))
  rw [← hy1] at c
  refine c.conv ?_ fun _ _ => ?_
  · refine (bunL_open _ []).trans (Imp.perm ?_)
    unfold stepT
    rw [hpq, huv]
    have : mSs bj (p ++ y :: q) = mSs bj p ++ (mS y.1 E[x - 1].b bj y.2.2 :: mSs bj q) := by simp [mSs, hyb]
    rw [this, List.append_nil]
    classical
    rw [List.perm_iff_count]
    intro s
    simp only [List.count_append, List.count_cons]
    omega
  · refine Imp.trans (Imp.perm ?_) (bunL_shut _ [])
    unfold stepT
    rw [hstep, huv]
    have : mSs bj (p ++ (y.1, E[x - 1].b, E[x - 1].undo y.2.2) :: q) = mSs bj p ++ (mS y.1 E[x - 1].b bj (E[x - 1].undo y.2.2) :: mSs bj q) := by simp [mSs]
    rw [this, List.append_nil]
    classical
    rw [List.perm_iff_count]
    intro s
    simp only [List.count_append, List.count_cons]
    omega
theorem mS_block {K : MK} {b bj : Nat} {m : KV} {h : Hl} (hs : (mS K b bj m).sat h) : h b ≠ none := by
  obtain ⟨r, hr⟩ := hs
  obtain ⟨p, q, ⟨hp, _⟩, _, _, rfl⟩ := hr
  rw [un_left hp]; simp
theorem mSs_nodup {bj : Nat} : ∀ {Ms : List MS3} {h : Hl}, SepL (mSs bj Ms) h → (Ms.map (·.2.1)).Nodup ∧ ∀ x ∈ Ms, h x.2.1 ≠ none
  | [], _, _ => ⟨List.nodup_nil, fun _ h => by cases h⟩
  | y :: Ms, h, ⟨p, q, hs, hl, d, e⟩ => by
    obtain ⟨h1, h2⟩ := mSs_nodup hl
    have hp := mS_block hs
    subst e
    refine ⟨?_, fun x hx => ?_⟩
    · rw [List.map_cons, List.nodup_cons]
      refine ⟨fun hm => ?_, h1⟩
      obtain ⟨x, hx, hb⟩ := List.mem_map.1 hm
      rcases d y.2.1 with k | k
      · exact hp k
      · exact h2 x hx (by rw [hb]; exact k)
    · intro hnone
      obtain ⟨k1, k2⟩ := un_none_iff.1 hnone
      rcases List.mem_cons.1 hx with rfl | hx
      · exact hp k1
      · exact h2 x hx k2
theorem own_nodup {bj : Nat} {Ms : List MS3} {R : HP} {w : World} (h : Own (ofList (mSs bj Ms)) R w) : (Ms.map (·.2.1)).Nodup := by
  obtain ⟨p, q, hp, _⟩ := own_sep.1 h
  exact (mSs_nodup hp).1
end Go.Sx

namespace Go.Sx
open Go.RowKit
def pk {Y : Type} (G : Y → List Slot) (ok : Y → Prop) : Slot := bun [] .none (fun y => G y ++ [pur (ok y)])
theorem pk_shut {Y : Type} {G : Y → List Slot} {ok : Y → Prop} {y : Y} (h : ok y) (l : List Slot) : Imp (G y ++ l) (pk G ok :: l) := by
  refine Imp.trans (.same fun p hp => ?_) (bun_shut (F := fun y => G y ++ [pur (ok y)]) y l)
  obtain ⟨p1, p2, ha, hb, d, rfl⟩ := (sep_append _ _).1 hp
  exact (sep_append _ _).2 ⟨p1, p2, sep_pur.2 ⟨ha, h⟩, hb, d, rfl⟩
theorem pk_open {Y : Type} {G : Y → List Slot} {ok : Y → Prop} {l : List Slot} {R : HP} {w : World} (h : Own (ofList (pk G ok :: l)) R w) : ∃ y, ok y ∧ Own (ofList (G y ++ l)) R w := by
  obtain ⟨y, hr⟩ := bun_open h
  obtain ⟨p, q, hp, hq, hw, hqw, d⟩ := own_sep.1 hr
  obtain ⟨p1, p2, ha, hb, d2, rfl⟩ := (sep_append _ _).1 hp
  obtain ⟨ha', hk⟩ := sep_pur.1 ha
  exact ⟨y, hk, own_sep.2 ⟨_, q, (sep_append _ _).2 ⟨p1, p2, ha', hb, d2, rfl⟩, hq, hw, hqw, d⟩⟩
theorem round_pk {P : Program} {l : Nat} {args : Array Value} {S : Slot} {Y : Type} {G : Y → List Slot} {ok ok' : Y → Prop}
    (h : ∀ y, ok y → RoundT P l args (S :: G y) Y (fun _ => .bool true) (fun z => S :: G z) ok') : RoundT P l args [S, pk G ok] Unit (fun _ => .bool true) (fun _ => [S, pk G ok']) (fun _ => True) := by
  intro R w ho
  obtain ⟨y, hy, ho2⟩ := pk_open (Imp.swap [S] [pk G ok] R w ho)
  obtain ⟨fn, tmps, asg, bd, hr, hk⟩ := h y hy R w (Imp.swap (G y) [S] R w ho2)
  refine ⟨fn, tmps, asg, bd, hr, hk.mono ?_⟩
  rintro e' w' ⟨z, hz, he, ho4, hx⟩
  exact ⟨(), trivial, he, Imp.swap [pk G ok'] [S] R w' (pk_shut hz [S] R w' (Imp.swap [S] (G z) R w' ho4)), hx⟩
theorem imp_tails : ∀ (Hs : List Slot) {a b : List Slot}, Imp a b → Imp (Hs ++ a) (Hs ++ b)
  | [], _, _, h => h
  | _ :: Hs, _, _, h => Imp.tail _ (imp_tails Hs h)
theorem range_all {P : Program} {n : Nat} {g : Operand} {ps : Array Tmp} {A B : Code} {fr : Nat → Value} {gf : FuncId} {cap : Array Value} (Hs : List Slot) {len : Nat} (kv : Nat → Array Value) (hg : evalF fr g = .func (.func gf) #[] cap)
    (hit : ∀ (l : Nat) (rec : Loop) (T : Nat → Slot), (∀ i, i < len → RoundT P l (kv i) [loopB l rec, T i] Unit (fun _ => .bool true) (fun _ => [loopB l rec, T (i + 1)]) (fun _ => True)) →
      CallT P gf (#[.func (.yield l) #[] #[]] ++ cap) (loopB l rec :: (Hs ++ [T 0])) Unit (fun _ => undef) (fun _ => loopB l rec :: (Hs ++ [T len])) (fun _ => True))
    {Y : Type} (G : Y → List Slot) (ok : Nat → Y → Prop)
    (hround : ∀ (l D : Nat) (fn : FuncId) (tmps : Array Value) (i : Nat) (y : Y), i < len → ok i y → tmps.size = n → (∀ j, tmps.getD j undef = fr j) →
      RoundT P l (kv i) (loopB l (recOf fn tmps ps A B D) :: G y) Y (fun _ => .bool true) (fun z => loopB l (recOf fn tmps ps A B D) :: G z) (ok (i + 1)))
    (y0 : Y) (h0 : ok 0 y0) {G0 : List Slot} (hi : Imp G0 (G y0)) :
    RangeT P n g ps A B fr (Hs ++ G0) Y (fun y => Hs ++ G y) (ok len) := by
  refine range_of (val := fun _ => undef) hg fun l D fn tmps hz hf => ?_
  refine (hit l (recOf fn tmps ps A B D) (fun i => pk G (ok i)) fun i hi => round_pk fun y hy => hround l D fn tmps i y hi hy hz hf).imp ?_ ?_
  · refine Imp.tail _ (imp_tails Hs ?_)
    have h1 := pk_shut (G := G) (ok := ok 0) h0 []
    rw [List.append_nil] at h1
    exact hi.trans h1
  · intro _ R w _ ho
    have h1 : Own (ofList ((loopB l (recOf fn tmps ps A B D) :: Hs) ++ [pk G (ok len)])) R w := ho
    obtain ⟨y, hy, h2⟩ := pk_open (Imp.swap _ [pk G (ok len)] R w h1)
    exact ⟨y, hy, rfl, Imp.swap (G y) (loopB l (recOf fn tmps ps A B D) :: Hs) R w h2⟩
theorem xlookup1 {P : Program} {t kt vt : TypeId} {Ok : Value → Prop} {z : Value} (T : TM P t kt vt Ok z) {r : Nat} {m : KV} (hm : KeysOk Ok m) {k : Value} (hk : Ok k) :
    OpT P (do pure (.value (← Instr.lookup t (.map (some r)) k false))) [mo r m] Unit (fun _ => (mget m k).getD z) (fun _ => [mo r m]) (fun _ => True) := by
  intro R w ho
  obtain ⟨es, clock, ⟨e, hbn⟩, ho'⟩ := mo_open ho
  have hb := ho'.block (i := 0) rfl
  obtain ⟨o, hf, hspec⟩ := T.key.find k es.toList w hk (kvs_keys e hm)
  refine ⟨(), w, trivial, .inl ?_, ho, Ext.refl w⟩
  have hg : mget m k = o.map (·.2) := by
    rw [← e]
    cases o with
    | none => exact hspec
    | some iv =>
      obtain ⟨x, h1, h2, h3, h4⟩ := hspec
      exact (mget_found h1 h2 h4).trans (by rw [h3]; rfl)
  rw [hg]
  simp only [Instr.lookup, Sem.run_bind, run_underlying T.und, Result.andThen_ok, run_getMap hb, Sem.run_pure, T.key.check _ _ _ hk, hf]
  cases o with
  | none => simp [T.zero w]
  | some iv => simp
theorem getD_mem {l : List Value} {i : Nat} {d : Value} (h : i < l.length) : l.getD i d ∈ l := by
  rw [List.getD_eq_getElem?_getD, List.getElem?_eq_getElem h]; exact List.getElem_mem h
theorem ilt_of {r : Row} (hl : vlen (sv r) = (vals r).length) {i : Nat} (h : decide (((i : Nat) : Int) < ((vlen (sv r) : Nat) : Int)) = true) : i < (vals r).length := by
  simp only [decide_eq_true_eq] at h; omega
theorem wrap_succ {n N : Nat} (h : n < N) (hN : N ≤ 1048576 ∨ n < 9223372036854775807) : IntKind.i64.wrap (((n : Nat) : Int) + 1) = (((n + 1 : Nat) : Nat) : Int) := by
  unfold IntKind.wrap
  have : (n : Int) < 9223372036854775807 := by omega
  simp [IntKind.bits, IntKind.signed]
  omega
end Go.Sx

namespace Go.Sx
open Go.RowKit
def rdK (k : Nat) (cs : Array Value) (o : Nat) : Value := .agg ((cs.toList.drop o).take k).toArray
theorem fl_drop {k : Nat} : ∀ {l : List Value} (_ : ∀ v ∈ l, Ag k v) (n : Nat), (fl l).drop (n * k) = fl (l.drop n)
  | [], _, n => by simp [fl]
  | v :: l, h, 0 => by simp
  | v :: l, h, n + 1 => by
    rw [fl_cons, List.drop_succ_cons, ← fl_drop (fun v hv => h v (List.mem_cons_of_mem _ hv)) n, List.drop_append, (h v (List.mem_cons_self ..)).len]
    have h1 : v.cells.toList.drop ((n + 1) * k) = [] := List.drop_eq_nil_of_le (by rw [(h v (List.mem_cons_self ..)).len, Nat.succ_mul]; omega)
    rw [h1, List.nil_append, Nat.succ_mul, Nat.add_sub_cancel]
theorem rdK_fl {k : Nat} {l : List Value} (h : ∀ v ∈ l, Ag k v) {n : Nat} {x : Value} (hx : l[n]? = some x) : rdK k (fl l).toArray (n * k) = x := by
  have hd : l.drop n = x :: l.drop (n + 1) := by
    have hlt : n < l.length := by
      rcases Nat.lt_or_ge n l.length with q | q
      · exact q
      · rw [List.getElem?_eq_none q] at hx; cases hx
    rw [List.getElem?_eq_getElem hlt] at hx
    injection hx with hx
    rw [← hx]; exact List.drop_eq_getElem_cons hlt
  have hA := h x (List.mem_of_getElem? hx)
  unfold rdK
  rw [List.toList_toArray, fl_drop h, hd, fl_cons, List.take_append_of_le_length (by rw [hA.len]; exact Nat.le_refl _)]
  obtain ⟨cs, rfl, hcs⟩ := hA
  have : (cs.toList).length ≤ k := by simp [hcs]
  simp only [Value.cells]
  rw [List.take_of_length_le this]
def kvals (k : Nat) (v : Value) (s : Slot) : List Value := (List.range (vlen v)).map fun i => rdK k (scells s) (i * k)
theorem kvals_eq {k : Nat} (r : RK k) (e : TypeId) : kvals k (sv r.1) (sk e r.1) = vals r.1 := by
  obtain ⟨r, hr⟩ := r
  cases r with
  | nil => rfl
  | mk b vs ex =>
    unfold kvals
    apply List.ext_getElem?
    intro i
    simp only [sv, vlen, sk, scells, vals]
    rcases Nat.lt_or_ge i vs.length with q | q
    · have hx : (vs ++ ex)[i]? = some vs[i] := by rw [List.getElem?_append_left q, List.getElem?_eq_getElem q]
      rw [List.getElem?_map, List.getElem?_range q, Option.map_some, rdK_fl hr hx, List.getElem?_eq_getElem q]
    · rw [List.getElem?_eq_none (by simpa using q), List.getElem?_eq_none q]
def F_appK (k : Nat) (e : TypeId) : List Value → List Slot → Ctr := fun vs hs => ⟨RK k, fun y => sv y.1, fun y => [sk e y.1, sarg hs 1], fun y => vals y.1 = kvals k (varg vs 0) (sarg hs 0) ++ [.agg (scells (sarg hs 1))]⟩
theorem xappendK {P : Program} {t e : TypeId} {k : Nat} {z : Value} (h : SkT P t e k z) (ty : TypeId) (r : RK k) (hl : (vals r.1).length ≤ 1073741824) (c m : Nat) (cs : Array Value) (hx : cs.size = k) (h2 : ∀ u ∈ cs.toList, u.oneCell' = true) :
    OpT P (do pure (.value (← Builtin.append_ #[t, t] ty #[sv r.1, .slice (some ⟨c, 0, none⟩) 1 m]))) [sk e r.1, .blk c (.cells cs e (0, 0))] (RK k) (fun y => sv y.1) (fun y => [sk e y.1, .blk c (.cells cs e (0, 0))]) (fun y => vals y.1 = kvals k (sv r.1) (sk e r.1) ++ [.agg cs]) := by
  rw [kvals_eq]
  exact xappK h ty r hl c m (.agg cs) ⟨cs, rfl, hx⟩ h2
theorem wit_appK {k : Nat} {l : List Value} {cs : Array Value} (hl : ∀ v ∈ l, Ag k v) (hx : cs.size = k) : ∃ y : RK k, (fun y : RK k => vals y.1 = l ++ [.agg cs]) y :=
  ⟨⟨.mk 0 (l ++ [.agg cs]) [], fun v hv => by
    simp only [List.append_nil] at hv
    rcases List.mem_append.1 hv with h | h
    · exact hl v h
    · simp at h; subst h; exact ⟨cs, rfl, hx⟩⟩, rfl⟩
theorem RK.all {k : Nat} (r : RK k) : ∀ v ∈ vals r.1, Ag k v := by
  obtain ⟨r, hr⟩ := r
  cases r with
  | nil => intro v hv; cases hv
  | mk b vs ex => exact fun v hv => hr v (List.mem_append_left _ hv)
theorem kvals_all {k : Nat} (r : RK k) (e : TypeId) : ∀ v ∈ kvals k (sv r.1) (sk e r.1), Ag k v := by rw [kvals_eq]; exact r.all
def F_getK (k : Nat) {X : Type} (val : X → Value) : List Value → List Slot → Ctr := fun vs hs => ⟨X, val, fun _ => hs, fun zx => rdK k (scells (sarg hs 0)) (voff (varg vs 0)) = val zx⟩
theorem rdK_row {k : Nat} (r : RK k) (e : TypeId) {n : Nat} {x : Value} (hx : (vals r.1)[n]? = some x) : rdK k (scells (sk e r.1)) (n * k) = x := by
  obtain ⟨r, hr⟩ := r
  cases r with
  | nil => simp [vals] at hx
  | mk b vs ex =>
    simp only [vals] at hx
    have hn : n < vs.length := by
      rcases Nat.lt_or_ge n vs.length with q | q
      · exact q
      · rw [List.getElem?_eq_none q] at hx; cases hx
    exact rdK_fl hr (by rw [List.getElem?_append_left hn, hx])
theorem xgetKV {P : Program} {t e : TypeId} {k : Nat} {z : Value} (h : SkT P t e k z) {X : Type} (val : X → Value) (r : RK k) (n : Nat) (hx : ∃ x0, (vals r.1)[n]? = some (val x0)) :
    OpT P (do pure (.value (← Instr.loadAt e (.pointer (some ⟨vblk (sv r.1), n * k, none⟩))))) [sk e r.1] X val (fun _ => [sk e r.1]) (fun x => rdK k (scells (sk e r.1)) (n * k) = val x) := by
  obtain ⟨x0, hx⟩ := hx
  intro R w ho
  obtain ⟨_, w', _, hr, ho', he⟩ := xgetK h r n (val x0) hx R w ho
  exact ⟨x0, w', rdK_row r e hx, hr, ho', he⟩
theorem wgetKV {e : TypeId} {k : Nat} {X : Type} {val : X → Value} {r : RK k} {n : Nat} (hx : ∃ x0, (vals r.1)[n]? = some (val x0)) : ∃ x, (fun x => rdK k (scells (sk e r.1)) (n * k) = val x) x :=
  let ⟨x0, h⟩ := hx; ⟨x0, rdK_row r e h⟩
theorem egetKV {e : TypeId} {k : Nat} {X : Type} {val : X → Value} {r : RK k} {n : Nat} (hx : ∃ x0, (vals r.1)[n]? = some (val x0)) {x : X} (h : rdK k (scells (sk e r.1)) (n * k) = val x) : (vals r.1)[n]? = some (val x) := by
  obtain ⟨x0, h0⟩ := hx
  rw [← h, rdK_row r e h0]; exact h0
/-! ### One cell -/
def F_getV {X : Type} (val : X → Value) : List Value → List Slot → Ctr := fun vs hs => ⟨X, val, fun _ => hs, fun zx => (scells (sarg hs 0))[voff (varg vs 0)]? = some (val zx)⟩
theorem row_cell (r : Row) (e : TypeId) {n : Nat} {x : Value} (hx : (vals r)[n]? = some x) : (scells (ss e r))[n]? = some x := by
  cases r with
  | nil => simp [vals] at hx
  | mk b vs ex =>
    simp only [vals] at hx
    have hn : n < vs.length := by
      rcases Nat.lt_or_ge n vs.length with q | q
      · exact q
      · rw [List.getElem?_eq_none q] at hx; cases hx
    simp [ss, scells, List.getElem?_append_left hn, hx]
theorem xgetV {P : Program} {e : TypeId} (te : TypeId) (ha : ∀ w, (isAgg te).run P w = .ok false w) {X : Type} (val : X → Value) (r : Row) (n : Nat) (hx : ∃ x0, (vals r)[n]? = some (val x0)) :
    OpT P (do pure (.value (← Instr.loadAt te (.pointer (some ⟨vblk (sv r), n, none⟩))))) [ss e r] X val (fun _ => [ss e r]) (fun x => (scells (ss e r))[n]? = some (val x)) := by
  obtain ⟨x0, hx⟩ := hx
  intro R w ho
  obtain ⟨_, w', _, hr, ho', he⟩ := xget r te ha n (val x0) hx R w ho
  exact ⟨x0, w', row_cell r e hx, hr, ho', he⟩
theorem wgetV {e : TypeId} {X : Type} {val : X → Value} {r : Row} {n : Nat} (hx : ∃ x0, (vals r)[n]? = some (val x0)) : ∃ x, (fun x => (scells (ss e r))[n]? = some (val x)) x :=
  let ⟨x0, h⟩ := hx; ⟨x0, row_cell r e h⟩
theorem egetV {e : TypeId} {X : Type} {val : X → Value} {r : Row} {n : Nat} (hx : ∃ x0, (vals r)[n]? = some (val x0)) {x : X} (h : (scells (ss e r))[n]? = some (val x)) : (vals r)[n]? = some (val x) := by
  obtain ⟨x0, h0⟩ := hx
  rw [← h, row_cell r e h0]; exact h0
/-- A row of which nothing is asked. -/
def AOK (_ : Row) : Prop := True
theorem int_at {kk : IntKind} {l : List Value} (h : ∀ v ∈ l, ∃ n : Int, v = .int kk n) {n : Nat} (hn : n < l.length) : ∃ x : Int, l[n]? = some (.int kk x) := by
  obtain ⟨x, hx⟩ := h _ (List.getElem_mem hn)
  exact ⟨x, by rw [List.getElem?_eq_getElem hn, hx]⟩
def rrow (v : Value) (s : Slot) : Row := .mk (vblk v) (rvals v s) []
theorem rrow_vals (r : Row) (e : TypeId) : vals (rrow (sv r) (ss e r)) = vals r := by unfold rrow; rw [rvals_eq]; rfl
/-- A pair of whole numbers. -/
abbrev p2V (x : Int × Int) : Value := .agg #[.int .i64 x.1, .int .i64 x.2]
/-- What an iterator of a map tells of these keys. -/
noncomputable def pairsOf (z : Value) (m : KV) (l : List Value) : List Value := l.map fun k => .agg #[k, (mget m k).getD z]
theorem pairsOf_take {z : Value} {m : KV} {l : List Value} {i : Nat} (h : i < l.length) : pairsOf z m (l.take (i + 1)) = pairsOf z m (l.take i) ++ [.agg #[l.getD i undef, (mget m (l.getD i undef)).getD z]] := by
  unfold pairsOf
  rw [List.take_add_one, List.getElem?_eq_getElem h, List.map_append, List.getD_eq_getElem?_getD, List.getElem?_eq_getElem h]; rfl
theorem round_conv {P : Program} {l : Nat} {a b : Array Value} {Hs : List Slot} {X : Type} {val : X → Value} {us : X → List Slot} {Φ Ψ : X → Prop} (h : RoundT P l b Hs X val us Φ) (e : a = b) (hp : ∀ x, Φ x → Ψ x) : RoundT P l a Hs X val us Ψ := by
  subst e
  intro R w ho
  obtain ⟨fn, tmps, asg, bd, hr, hk⟩ := h R w ho
  exact ⟨fn, tmps, asg, bd, hr, hk.mono fun _ _ ⟨x, hx, he, ho', hext⟩ => ⟨x, hp x hx, he, ho', hext⟩⟩
theorem kok_val {K : MK} {m : KV} (hk : KOK K m) {z : Value} (hz : K.OkV z) (k : Value) : K.OkV ((mget m k).getD z) := by
  cases hg : mget m k with
  | none => exact hz
  | some v => exact (hk.ok _ (mget_mem hg)).2
theorem wit_pairs (z : Value) (m : KV) (l : List Value) : ∃ y : RK 2, (fun y : RK 2 => vals y.1 = pairsOf z m l) y :=
  ⟨⟨.mk 0 (pairsOf z m l) [], fun v hv => by
    simp only [List.append_nil, pairsOf] at hv
    obtain ⟨k, _, rfl⟩ := List.mem_map.1 hv
    exact ⟨_, rfl, rfl⟩⟩, rfl⟩
theorem imp_free2 {a b : Slot} : Imp [a, b] [a, b, .free] := .same fun p hp => (sep_free (a := [a, b])).2 hp
end Go.Sx

namespace Go.Sx
open Go.RowKit Go.Sort Go.Proofs Go.Shelf
theorem own_more {H : Hp} {R : HP} {w w' : World} (h : Own H R w) (hx : ∀ (i : Nat) (o : Obj), w.heap[i]? = some o → w'.heap[i]? = some o) : Own H R w' := by
  obtain ⟨p, q, hs, hq, hp, hqw, hd, hdq⟩ := h
  exact ⟨p, q, hs, hq, fun i b o hb => hx b o (hp i b o hb), fun b o hb => hx b o (hqw b o hb), hd, hdq⟩
/-- What leaves the caller's memory alone lays new blocks, and draws, and does nothing else. -/
theorem calls_grow {P : Program} {f : FuncId} {args : Array Value} {w : World} {v : Value} (h : CallT P f args [old w] Unit (fun _ => v) (fun _ => [old w]) (fun _ => True)) :
    Calls P f args w fun e w' => e = .returned v ∧ ∃ q os', w' = grow (w.drewN q) os' := by
  refine (h.calls _ w (own_old w)).mono ?_
  rintro e w' ⟨_, _, he, ⟨p, q, hs, _, hp, _⟩, hext⟩
  have h0 := hs 0
  simp only [ofList, old, List.getD_cons_zero, Slot.sat] at h0
  refine ⟨he, w'.drawn - w.drawn, w'.heap.extract w.heap.size w'.heap.size, ?_⟩
  have hh : w'.heap = w.heap ++ w'.heap.extract w.heap.size w'.heap.size := by
    have hsz := hext.size
    apply Array.ext_getElem?
    intro i
    rw [Array.getElem?_append]
    by_cases hi : i < w.heap.size
    · rw [if_pos hi]
      have := hp 0 i w.heap[i] (by rw [h0 i]; simp [hi])
      rw [this]; simp [hi]
    · rw [if_neg hi, Array.getElem?_extract]
      split
      · rw [show w.heap.size + (i - w.heap.size) = i by omega]
      · rw [Array.getElem?_eq_none (by omega)]
  have e1 := hext.os
  have e2 := hext.tape
  have e3 := hext.output
  have e4 := hext.drawn
  obtain ⟨hp', tp, dr, os, ou⟩ := w'
  obtain ⟨hp0, tp0, dr0, os0, ou0⟩ := w
  simp only at e1 e2 e3 e4 hh ⊢
  subst e1 e2 e3
  unfold grow World.drewN
  simp only
  rw [← hh, show dr0 + (dr - dr0) = dr by omega]
theorem sortWorld_other {α : Type} [Inhabited α] (enc : α → Value) (w : World) (blk off m : Nat) (dk : Array α) (os : Array Obj) {i : Nat} {o : Obj} (hi : i ≠ blk) (h : w.heap[i]? = some o) : (sortWorld enc w blk off m dk os).heap[i]? = some o := by
  unfold sortWorld grow putRow mapBlock Go.Sort.ahead
  simp only
  have hlt : i < w.heap.size := (Array.getElem?_eq_some_iff.1 h).1
  rw [Array.getElem?_append_left (by simpa using hlt), Array.getElem?_modify, if_neg (Ne.symm hi)]
  exact h
theorem sortWorld_row {α : Type} [Inhabited α] (enc : α → Value) (w : World) (blk m : Nat) (d' : Array α) (os : Array Obj) {vs ex : List Value} {e : TypeId} (hd : d'.size = vs.length) (h : w.heap[blk]? = some (.cells (vs ++ ex).toArray e (0, 0))) :
    (sortWorld enc w blk 0 m d' os).heap[blk]? = some (.cells ((d'.toList.map enc) ++ ex).toArray e (0, 0)) := by
  unfold sortWorld grow putRow mapBlock Go.Sort.ahead
  simp only
  have hlt : blk < w.heap.size := (Array.getElem?_eq_some_iff.1 h).1
  rw [Array.getElem?_append_left (by simpa using hlt), Array.getElem?_modify, if_pos rfl, h]
  simp only [Option.map_some, onCells, Option.some.injEq, Obj.cells.injEq, and_true]
  apply Array.ext_getElem?
  intro k
  simp only [putCells, Array.getElem?_mapIdx, List.getElem?_toArray, Nat.zero_le, true_and, Nat.zero_add, Nat.sub_zero]
  by_cases hk : k < d'.size
  · rw [List.getElem?_append_left (by omega), List.getElem?_append_left (by simpa using hk)]
    rw [List.getElem?_eq_getElem (by omega), Option.map_some, if_pos hk, List.getElem?_map]
    simp [hk]
  · rw [List.getElem?_append_right (by omega), List.getElem?_append_right (by simpa using Nat.le_of_not_lt hk)]
    simp only [List.length_map, Array.length_toList, hd]
    cases ex[k - vs.length]? with
    | none => rfl
    | some y => simp only [Option.map_some, Option.some.injEq]; rw [if_neg (by omega)]
theorem own_ne2 {a b : Nat} {o o' : Obj} {s : List Slot} {R : HP} {w : World} {i j : Nat} {H : Hp} (h : Own H R w) (hij : i ≠ j) (ha : H i = .blk a o) (hb : H j = .blk b o') : a ≠ b := by
  obtain ⟨p, q, hs, _, _, _, hd, _⟩ := h
  intro e
  subst e
  have h1 := hs i
  have h2 := hs j
  rw [ha] at h1
  rw [hb] at h2
  rcases hd i j hij a with h | h
  · rw [h1.1] at h; cases h
  · rw [h2.1] at h; cases h
/-- Sorted by a comparison of whole numbers. -/
def SortedBy (cf : Int → Int → Int) (l : List Value) : Prop := l.Pairwise fun a b => ltOf cf (ci b) (ci a) = false
theorem sort_call {P : Program} {ρ : Ren} (L : SlLaysF.n6 P ρ) {f : FuncId} (hf : ρ.f 6 = f) (he : EnterOK P f) {g : FuncId} (heg : EnterOK P g) {c b r bj : Nat} {lv : Value} {kk : IntKind} {e tc te : TypeId} {cf : Int → Int → Int} (hO : SWO (ltOf cf))
    (hcmp : ∀ w : World, w.cell? ⟨c, 0, none⟩ = some (.pointer (some ⟨b, 0, none⟩)) → w.cell? ⟨b, 2, none⟩ = some lv → ∀ x y : Int, CallT P g #[.int kk x, .int kk y, .pointer (some ⟨c, 0, none⟩)] [old w] Unit (fun _ => .int .i64 (cf x y)) (fun _ => [old w]) (fun _ => True))
    {blk : Nat} {vs ex : List Value} (hint : ∀ v ∈ vs, ∃ n : Int, v = .int kk n) (hlen : vs.length ≤ 1048576) :
    CallT P f #[sv (.mk blk vs ex), .func (.func g) #[] #[.pointer (some ⟨c, 0, none⟩)]]
      [ss e (.mk blk vs ex), .blk c (.cells #[.pointer (some ⟨b, 0, none⟩)] tc (0, 0)), .blk b (.cells #[.map (some r), .pointer (some ⟨bj, 0, none⟩), lv] te (0, 0))] (List Value) (fun _ => undef)
      (fun y => [ss e (.mk blk y ex), .blk c (.cells #[.pointer (some ⟨b, 0, none⟩)] tc (0, 0)), .blk b (.cells #[.map (some r), .pointer (some ⟨bj, 0, none⟩), lv] te (0, 0))])
      (fun y => y.Perm vs ∧ SortedBy cf y) := by
  refine ⟨he, fun R w ho => ?_⟩
  have hb0 : w.heap[blk]? = some (.cells (vs ++ ex).toArray e (0, 0)) := ho.block (i := 0) rfl
  have hb1 := ho.block (i := 1) rfl
  have hb2 := ho.block (i := 2) rfl
  have n1 : c ≠ blk := own_ne2 (s := []) ho (i := 1) (j := 0) (by decide) rfl rfl
  have n2 : b ≠ blk := own_ne2 (s := []) ho (i := 2) (j := 0) (by decide) rfl rfl
  obtain ⟨d, hd⟩ : ∃ d : Array Int, d = (vs.map ci).toArray := ⟨_, rfl⟩
  have hds : d.size = vs.length := by rw [hd]; simp
  have hdv : ∀ j, j < d.size → vs[j]? = some (.int kk d[j]!) := by
    intro j hj
    have hj' : j < vs.length := by omega
    obtain ⟨n, hn⟩ := hint vs[j] (List.getElem_mem hj')
    have e1 : d[j]! = n := by
      rw [getElem!_pos d j hj]
      subst hd
      simp [hn, ci]
    rw [e1, List.getElem?_eq_getElem hj', hn]
  have hH : Holds (Value.int kk) w blk 0 d := by
    intro j hj
    have hj' : j < vs.length := by omega
    refine ⟨?_, ?_⟩
    · have := hdv j hj
      simp only [Nat.zero_add]
      rw [World.cell?, hb0]
      simp [List.getElem?_append_left hj', this]
    · rw [frozen_of_block hb0]; simp [frozenAt, frz]
  have hcm : CmpLays1 P g #[.pointer (some ⟨c, 0, none⟩)] (Value.int kk) cf blk 0 d.size w := by
    intro m os dk hs x y
    have h1 : (sortWorld (Value.int kk) w blk 0 m dk os).cell? ⟨c, 0, none⟩ = some (.pointer (some ⟨b, 0, none⟩)) := by rw [World.cell?, sortWorld_other _ _ _ _ _ _ _ n1 hb1]; rfl
    have h2 : (sortWorld (Value.int kk) w blk 0 m dk os).cell? ⟨b, 2, none⟩ = some lv := by rw [World.cell?, sortWorld_other _ _ _ _ _ _ _ n2 hb2]; rfl
    exact calls_grow (hcmp _ h1 h2 x y)
  have hc := Any.slices_SortFunc L (Value.int kk) (fun _ => rfl) cf hO g #[.pointer (some ⟨c, 0, none⟩)] blk 0 (vs.length + ex.length) d w heg hcm hH (Array.getElem?_eq_some_iff.1 hb0).1 (by omega)
  rw [hf, hds] at hc
  refine hc.mono ?_
  rintro e' w' ⟨rfl, d', n, os, hp, hs, rfl⟩
  have hd's : d'.size = vs.length := by rw [hp.1, hds]
  refine ⟨d'.toList.map (Value.int kk), ⟨?_, ?_⟩, rfl, ?_, ?_⟩
  · have h2 := hp.2.2
    have h3 : d'.extract 0 vs.length = d' := by rw [← hd's]; simp
    have h4 : d.extract 0 vs.length = d := by rw [← hds]; simp
    rw [h3, h4] at h2
    refine (h2.map (Value.int kk)).trans ?_
    rw [hd]
    simp only [List.map_map]
    refine List.Perm.of_eq ?_
    have : ∀ l : List Value, (∀ v ∈ l, ∃ n : Int, v = .int kk n) → l.map (Value.int kk ∘ ci) = l := by
      intro l
      induction l with
      | nil => intro _; rfl
      | cons a l ih =>
        intro h
        obtain ⟨n, rfl⟩ := h _ (List.mem_cons_self ..)
        rw [List.map_cons, ih fun v hv => h v (List.mem_cons_of_mem _ hv)]; rfl
    exact this vs hint
  · unfold SortedBy
    rw [List.pairwise_map, List.pairwise_iff_getElem]
    intro i j hi hj hij
    have := hs i j (Nat.zero_le _) hij (by rw [← hd's]; simpa using hj)
    rw [getElem!_pos d' j (by simpa using hj), getElem!_pos d' i (by simpa using hi)] at this
    simpa [ci] using this
  · have o1 := ho.set (i := 0) (b := blk) (w' := { w with heap := w.heap.modify blk (onCells (putCells (Value.int kk) 0 d')) }) (o' := .cells ((d'.toList.map (Value.int kk)) ++ ex).toArray e (0, 0)) rfl
      (by
        have := sortWorld_row (Value.int kk) w blk 0 d' #[] (ex := ex) hd's hb0
        unfold sortWorld at this
        rw [grow_empty] at this
        exact this)
      (fun x hx => by simp [Array.getElem?_modify, Ne.symm hx])
    have o2 := own_more (w' := sortWorld (Value.int kk) w blk 0 n d' os) o1 (fun i o hi => by
      have hi' : (w.heap.modify blk (onCells (putCells (Value.int kk) 0 d')))[i]? = some o := hi
      have hlt := (Array.getElem?_eq_some_iff.1 hi').1
      show ((w.heap.modify blk (onCells (putCells (Value.int kk) 0 d'))) ++ os)[i]? = some o
      rw [Array.getElem?_append_left hlt]; exact hi')
    refine (congrArg (fun H => Own H R _) ?_).mp o2
    funext j
    cases j <;> rfl
  · exact ⟨rfl, rfl, rfl, by unfold sortWorld grow putRow mapBlock Go.Sort.ahead; simp, by show w.drawn ≤ w.drawn + n; omega⟩
end Go.Sx

namespace Go.Sx
open Go.RowKit Go.Sort Go.Proofs Go.Shelf
theorem xold1 {P : Program} {t : TypeId} (ha : ∀ w, (isAgg t).run P w = .ok false w) {w0 : World} {a : Addr} {v : Value} (h : w0.cell? a = some v) :
    OpT P (do pure (.value (← Instr.loadAt t (.pointer (some a))))) [old w0] Unit (fun _ => v) (fun _ => [old w0]) (fun _ => True) := by
  intro R w ho
  have hc := own_cell ho h
  exact ⟨(), w, trivial, .inl (by simp [Instr.loadAt, Instr.sureAddr, loadVar, Sem.run_bind, ha, hc]), ho, Ext.refl w⟩
def cmpI (x y : Int) : Int := if x < y then -1 else if y < x then 1 else 0
theorem ltI (x y : Int) : ltOf cmpI x y = decide (x < y) := by
  unfold ltOf cmpI
  by_cases h1 : x < y
  · simp [h1]
  · by_cases h2 : y < x <;> simp [h1, h2]
theorem swoI : SWO (ltOf cmpI) where
  irrefl x := by rw [ltI]; simp
  trans x y z h1 h2 := by rw [ltI] at *; simp at *; omega
  ntrans x y z h1 h2 := by rw [ltI] at *; simp at *; omega
theorem sort_row {P : Program} {ρ : Ren} (L : SlLaysF.n6 P ρ) {f : FuncId} (hf : ρ.f 6 = f) (he : EnterOK P f) {g : FuncId} (heg : EnterOK P g) {c b r bj : Nat} {lv : Value} {kk : IntKind} {e tc te : TypeId} {cf : Int → Int → Int} (hO : SWO (ltOf cf))
    (hcmp : ∀ w : World, w.cell? ⟨c, 0, none⟩ = some (.pointer (some ⟨b, 0, none⟩)) → w.cell? ⟨b, 2, none⟩ = some lv → ∀ x y : Int, CallT P g #[.int kk x, .int kk y, .pointer (some ⟨c, 0, none⟩)] [old w] Unit (fun _ => .int .i64 (cf x y)) (fun _ => [old w]) (fun _ => True))
    {y : Row} (hint : ∀ v ∈ vals y, ∃ n : Int, v = .int kk n) (hlen : (vals y).length ≤ 1048576) :
    CallT P f #[sv y, .func (.func g) #[] #[.pointer (some ⟨c, 0, none⟩)]]
      [ss e y, .blk c (.cells #[.pointer (some ⟨b, 0, none⟩)] tc (0, 0)), .blk b (.cells #[.map (some r), .pointer (some ⟨bj, 0, none⟩), lv] te (0, 0))] Row (fun _ => undef)
      (fun z => [ss e z, .blk c (.cells #[.pointer (some ⟨b, 0, none⟩)] tc (0, 0)), .blk b (.cells #[.map (some r), .pointer (some ⟨bj, 0, none⟩), lv] te (0, 0))])
      (fun z => sv z = sv y ∧ (vals z).Perm (rvals (sv y) (ss e y)) ∧ SortedBy cf (vals z)) := by
  rw [rvals_eq]
  cases y with
  | mk blk vs ex =>
    exact (sort_call L hf he heg hO hcmp (blk := blk) (ex := ex) hint hlen).exists fun x hx => ⟨.mk blk x ex, ⟨by simp [sv, hx.1.length_eq, vals], hx.1, hx.2⟩, rfl, Imp.refl _⟩
  | nil =>
    refine ⟨he, fun R w ho => ?_⟩
    have := AnyF.slices_SortFunc_none { L with } none 0 (.func (.func g) #[] #[.pointer (some ⟨c, 0, none⟩)]) w
    rw [hf] at this
    refine this.mono ?_
    rintro e' w' ⟨rfl, rfl⟩
    exact ⟨.nil, ⟨rfl, List.Perm.refl _, List.Pairwise.nil⟩, rfl, ho, Ext.refl _⟩
theorem sort_wit {e : TypeId} (y : Row) : ∃ z : Row, (fun z => sv z = sv y ∧ (vals z).Perm (rvals (sv y) (ss e y)) ∧ SortedBy cmpI (vals z)) z := by
  rw [rvals_eq]
  have hp := List.mergeSort_perm (vals y) (fun a b => !(ltOf cmpI (ci b) (ci a)))
  have hs : SortedBy cmpI ((vals y).mergeSort fun a b => !(ltOf cmpI (ci b) (ci a))) := by
    have := List.pairwise_mergeSort (le := fun a b : Value => !(ltOf cmpI (ci b) (ci a))) (fun a b c h1 h2 => by simp only [ltI, Bool.not_eq_true', decide_eq_false_iff_not] at *; omega) (fun a b => by simp only [ltI, Bool.or_eq_true, Bool.not_eq_true', decide_eq_false_iff_not]; omega) (vals y)
    exact this.imp fun h => by simpa using h
  cases y with
  | nil => exact ⟨.nil, rfl, List.Perm.refl _, List.Pairwise.nil⟩
  | mk b vs ex => exact ⟨.mk b (vs.mergeSort fun a b => !(ltOf cmpI (ci b) (ci a))) ex, by simp [sv], hp, hs⟩
/-- Keys that rise. -/
def Rise (l : List Value) : Prop := l.Pairwise fun a b => ci a < ci b
theorem rise_of {kk : IntKind} {l : List Value} (h : SortedBy cmpI l) (hn : l.Nodup) (hi : ∀ v ∈ l, ∃ n : Int, v = .int kk n) : Rise l := by
  induction l with
  | nil => exact List.Pairwise.nil
  | cons a l ih =>
    unfold SortedBy at h
    rw [List.pairwise_cons] at h
    rw [List.nodup_cons] at hn
    refine List.pairwise_cons.2 ⟨fun b hb => ?_, ih h.2 hn.2 fun v hv => hi v (List.mem_cons_of_mem _ hv)⟩
    have h1 := h.1 b hb
    rw [ltI] at h1
    simp at h1
    obtain ⟨n, rfl⟩ := hi a (List.mem_cons_self ..)
    obtain ⟨k, rfl⟩ := hi b (List.mem_cons_of_mem _ hb)
    simp only [ci] at h1 ⊢
    have : n ≠ k := fun e => hn.1 (by rw [e]; exact hb)
    omega
/-- The keys of a map, in order, are told by the map. -/
def KeysOf (kk : IntKind) (m : KV) (l : List Value) : Prop := l.Perm (m.map (·.1)) ∧ Rise l ∧ ∀ v ∈ l, ∃ n : Int, v = .int kk n
theorem rise_unique {kk : IntKind} : ∀ {l l' : List Value}, Rise l → Rise l' → (∀ v ∈ l, ∃ n : Int, v = .int kk n) → (∀ v ∈ l', ∃ n : Int, v = .int kk n) → (∀ v, v ∈ l ↔ v ∈ l') → l = l'
  | [], [], _, _, _, _, _ => rfl
  | [], b :: l', _, _, _, _, h => absurd ((h b).2 (List.mem_cons_self ..)) (by simp)
  | a :: l, [], _, _, _, _, h => absurd ((h a).1 (List.mem_cons_self ..)) (by simp)
  | a :: l, b :: l', h1, h2, i1, i2, h => by
    unfold Rise at h1 h2
    rw [List.pairwise_cons] at h1 h2
    obtain ⟨n, rfl⟩ := i1 a (List.mem_cons_self ..)
    obtain ⟨k, rfl⟩ := i2 b (List.mem_cons_self ..)
    have e : n = k := by
      rcases List.mem_cons.1 ((h (.int kk n)).1 (List.mem_cons_self ..)) with e | hm
      · injection e
      · rcases List.mem_cons.1 ((h (.int kk k)).2 (List.mem_cons_self ..)) with e | hm'
        · injection e with _ e; exact e.symm
        · have := h2.1 _ hm
          have := h1.1 _ hm'
          simp only [ci] at *
          omega
    subst e
    have hm : ∀ v, v ∈ l ↔ v ∈ l' := fun v => by
      constructor
      · intro hv
        rcases List.mem_cons.1 ((h v).1 (List.mem_cons_of_mem _ hv)) with e | hm
        · subst e; have := h1.1 _ hv; exact absurd this (by simp)
        · exact hm
      · intro hv
        rcases List.mem_cons.1 ((h v).2 (List.mem_cons_of_mem _ hv)) with e | hm
        · subst e; have := h2.1 _ hv; exact absurd this (by simp)
        · exact hm
    rw [rise_unique h1.2 h2.2 (fun v hv => i1 v (List.mem_cons_of_mem _ hv)) (fun v hv => i2 v (List.mem_cons_of_mem _ hv)) hm]
theorem keysOf_of {kk : IntKind} {m : KV} (hm : MOK m) (hi : ∀ v ∈ m.map (·.1), ∃ n : Int, v = .int kk n) {l : List Value} (hp : l.Perm (m.map (·.1))) (hs : SortedBy cmpI l) : KeysOf kk m l :=
  ⟨hp, rise_of hs (hp.nodup_iff.2 hm) (fun v hv => hi v (hp.mem_iff.1 hv)), fun v hv => hi v (hp.mem_iff.1 hv)⟩
/-- A map whose keys are whole numbers, each once. -/
def IntKeys (kk : IntKind) (m : KV) : Prop := (∀ v ∈ m.map (·.1), ∃ n : Int, v = .int kk n) ∧ MOK m
theorem keysOf_wit {kk : IntKind} {m : KV} (hi : ∀ v ∈ m.map (·.1), ∃ n : Int, v = .int kk n) (hm : MOK m) : ∃ z : Row, (fun z => KeysOf kk m (vals z)) z := by
  obtain ⟨z, _, hp, hs⟩ := sort_wit (e := 0) (.mk 0 (m.map (·.1)) [])
  rw [rvals_eq] at hp
  exact ⟨z, keysOf_of hm hi hp hs⟩
theorem keysOf_wit4 {kk : IntKind} {m : KV} (hi : ∀ v ∈ m.map (·.1), ∃ n : Int, v = .int kk n) (hm : MOK m) : ∃ z : Nat × Nat × Nat × Row, (fun z => KeysOf kk m (vals z.2.2.2)) z :=
  let ⟨z, hz⟩ := keysOf_wit hi hm; ⟨(0, 0, 0, z), hz⟩
end Go.Sx

namespace Go.Sx
open Go.RowKit
theorem ents_cut {L : List Ent} {A : List N4} (h : A.length = L.length) (m : Nat) : ents L A = ents (L.take m) (A.take m) ++ ents (L.drop m) (A.drop m) := by
  unfold ents
  rw [← List.flatMap_append, ← List.zip_append (by simp [h]), List.take_append_drop, List.take_append_drop]
theorem fns_take {L : List Ent} {A : List N4} (m : Nat) : (fns L A).take m = fns (L.take m) (A.take m) := by
  unfold fns; rw [← List.map_take]; congr 1; simp [List.zip, List.take_zipWith]
theorem fns_get {L : List Ent} {A : List N4} {i : Nat} {e : Ent} {a : N4} (he : L[i]? = some e) (ha : A[i]? = some a) : (fns L A)[i]? = some (e.fn a) := by
  unfold fns; rw [List.getElem?_map, (List.getElem?_zip_eq_some (z := (e, a))).2 ⟨he, ha⟩]; rfl
theorem back_of {P : Program} {f : FuncId} {K : JK} {bj : Nat} {L : List Ent} {mark : Int} {Ms : List MS3} (he : EnterOK P f) {A B : Code} {ps : Array Tmp} {n : Nat}
    (hraw : ∀ (row : Row) (T : Nat → List Slot), mark ≤ ((vals row).length : Nat) → (vals row).length ≤ 1073741824 →
      (∀ (l D : Nat) (fn : FuncId) (tmps : Array Value), tmps.size = n → ∀ x, 0 < x → x ≤ vlen (vdrop (sv row) (Int.toNat mark)) →
        RoundT P l #[.int .i64 (((x : Nat) : Int) - 1), (vals row).getD (Int.toNat mark + Int.toNat (((x : Nat) : Int) - 1)) undef] [loopB l (recOf fn tmps ps A B D), bunL (T x)] Unit (fun _ => .bool true) (fun _ => [loopB l (recOf fn tmps ps A B D), bunL (T (x - 1))]) (fun _ => True)) →
      CallT P f #[ptr bj, .int .i64 mark] [.blk bj (.cells #[sv row] K.tj (0, 0)), ss K.ft row, bunL (T (vlen (vdrop (sv row) (Int.toNat mark))))] Unit (fun _ => .bool true) (fun _ => [.blk bj (.cells #[vtake (sv row) (Int.toNat mark)] K.tj (0, 0)), ss K.ft row, bunL (T 0)]) (fun _ => True))
    (hround : ∀ (l D : Nat) (fn : FuncId) (tmps : Array Value) (i : Int) (e : Ent) (a : N4) (S1 S0 : List Slot), tmps.size = n →
      CallT P e.g #[ptr a.1, ptr a.2.1, ptr a.2.2.1, ptr a.2.2.2] [bunL S1] Unit (fun _ => undef) (fun _ => [bunL S0]) (fun _ => True) →
      RoundT P l #[.int .i64 i, Ent.fn e a] [loopB l (recOf fn tmps ps A B D), bunL S1] Unit (fun _ => .bool true) (fun _ => [loopB l (recOf fn tmps ps A B D), bunL S0]) (fun _ => True))
    (h0 : 0 ≤ mark) (h1 : mark ≤ ((L.length : Nat) : Int)) (hl : L.length ≤ 1000000) (hE : ∀ e ∈ L.drop (Int.toNat mark), ∃ y ∈ Ms, y.2.1 = e.b ∧ EOK P bj y.1 e) :
    CallT P f #[ptr bj, .int .i64 mark] (jS K bj L :: mSs bj Ms) Unit (fun _ => .bool true) (fun _ => jS K bj (L.take (Int.toNat mark)) :: mSs bj (undoAll (L.drop (Int.toNat mark)) Ms)) (fun _ => (Ms.map (·.2.1)).Nodup) :=
  ⟨he, fun R w ho => by
    obtain ⟨row, As, hv, hlen, ho'⟩ := jS_open ho
    have hvl : (vals row).length = L.length := by rw [hv, fns_len hlen]
    have hnd : (Ms.map (·.2.1)).Nodup := by
      obtain ⟨p, q, hp, _⟩ := own_sep.1 ho
      obtain ⟨p1, p2, _, hm, _⟩ := hp
      exact (mSs_nodup hm).1
    have hm0 : Int.toNat mark ≤ L.length := by omega
    have hcut := ents_cut hlen (Int.toNat mark)
    have hvd : vlen (vdrop (sv row) (Int.toNat mark)) = (L.drop (Int.toNat mark)).length := by rw [vlen_drop, hvl, List.length_drop]
    have hAl : (As.drop (Int.toNat mark)).length = (L.drop (Int.toNat mark)).length := by simp [hlen]
    have c := hraw row (stepT bj Ms (L.drop (Int.toNat mark)) (As.drop (Int.toNat mark))) (by rw [hvl]; exact h1) (by omega) (fun l D fn tmps hz x hx0 hx => by
      rw [hvd] at hx
      obtain ⟨e, a, h1, h2, hc⟩ := step_call hAl hnd hE hx0 hx
      have h3 : (vals row).getD (Int.toNat mark + Int.toNat (((x : Nat) : Int) - 1)) undef = e.fn a := by
        rw [List.getElem?_drop] at h1 h2
        have : Int.toNat mark + Int.toNat (((x : Nat) : Int) - 1) = Int.toNat mark + (x - 1) := by omega
        rw [this, List.getD_eq_getElem?_getD, hv, fns_get h1 h2]; rfl
      rw [h3]
      exact hround l D fn tmps _ e a _ _ hz hc)
    have c2 := c.frame (ents (L.take (Int.toNat mark)) (As.take (Int.toNat mark)))
    have o2 : Own (ofList ([.blk bj (.cells #[sv row] K.tj (0, 0)), ss K.ft row, bunL (stepT bj Ms (L.drop (Int.toNat mark)) (As.drop (Int.toNat mark)) (vlen (vdrop (sv row) (Int.toNat mark))))] ++ ents (L.take (Int.toNat mark)) (As.take (Int.toNat mark)))) R w := by
      have hT : stepT bj Ms (L.drop (Int.toNat mark)) (As.drop (Int.toNat mark)) (vlen (vdrop (sv row) (Int.toNat mark))) = mSs bj Ms ++ ents (L.drop (Int.toNat mark)) (As.drop (Int.toNat mark)) := by
        unfold stepT; rw [hvd, List.drop_length]; rfl
      rw [hT]
      have o3 : Own (ofList ((mSs bj Ms ++ ents (L.drop (Int.toNat mark)) (As.drop (Int.toNat mark))) ++ (.blk bj (.cells #[sv row] K.tj (0, 0)) :: ss K.ft row :: ents (L.take (Int.toNat mark)) (As.take (Int.toNat mark))))) R w := by
        refine Imp.perm ?_ R w ho'
        rw [hcut]
        classical
        rw [List.perm_iff_count]
        intro s
        simp only [List.count_append, List.count_cons]
        omega
      refine Imp.perm ?_ R w (bunL_shut _ _ R w o3)
      classical
      rw [List.perm_iff_count]
      intro s
      simp only [List.count_append, List.count_cons, List.count_nil]
      omega
    refine (c2.calls R w o2).mono fun e w' hh => ?_
    obtain ⟨_, _, e1, o4, ext⟩ := hh
    refine ⟨(), hnd, e1, ?_, ext⟩
    have o5 : Own (ofList ((mSs bj (undoAll (L.drop (Int.toNat mark)) Ms) ++ ents (L.drop (Int.toNat mark)) (As.drop (Int.toNat mark))) ++ (.blk bj (.cells #[vtake (sv row) (Int.toNat mark)] K.tj (0, 0)) :: ss K.ft row :: ents (L.take (Int.toNat mark)) (As.take (Int.toNat mark))))) R w' := by
      refine bunL_open _ _ R w' (Imp.perm ?_ R w' o4)
      classical
      rw [List.perm_iff_count]
      intro s
      simp only [List.count_append, List.count_cons, List.count_nil]
      show _ = _ + _
      unfold stepT
      simp only [List.drop_zero]
      omega
    have hss : ss K.ft row = ss K.ft (row.take (Int.toNat mark)) := (ss_take row K.ft _).symm
    rw [vtake_sv row _ (by rw [hvl]; exact hm0), hss] at o5
    have hvt : vals (row.take (Int.toNat mark)) = (vals row).take (Int.toNat mark) := vals_take row _
    have o6 : Own (ofList ((.blk bj (.cells #[sv (row.take (Int.toNat mark))] K.tj (0, 0)) :: ss K.ft (row.take (Int.toNat mark)) :: (ents (L.take (Int.toNat mark)) (As.take (Int.toNat mark)) ++ mSs bj (undoAll (L.drop (Int.toNat mark)) Ms))) ++ ents (L.drop (Int.toNat mark)) (As.drop (Int.toNat mark)))) R w' := by
      refine Imp.perm ?_ R w' o5
      classical
      rw [List.perm_iff_count]
      intro s
      simp only [List.count_append, List.count_cons]
      omega
    exact jS_shut (by rw [hvt, hv, fns_take]) (by simp [hlen]) _ R w' (Imp.drop _ _ R w' o6)⟩
end Go.Sx

namespace Go.Sx
abbrev M256 : Int := 115792089237316195423570985008687907853269984665640564039457584007913129639936
def kk (t p : Int) : Value := .agg #[.int .u8 t, .int .u8 p]
theorem kk_inj {t p t' p' : Int} : kk t p = kk t' p' ↔ t = t' ∧ p = p' := by
  unfold kk; constructor
  · intro h; simp at h; exact h
  · rintro ⟨rfl, rfl⟩; rfl
noncomputable def bal (m : KV) (t p : Int) : Int := num ((mget m (kk t p)).getD (vI 0))
noncomputable def sup (m : KV) (t : Int) : Int := num ((mget m (.int .u8 t)).getD (vI 0))
noncomputable def mput (m : KV) (k : Value) (n : Int) : KV := if n = 0 then mdel m k else mset m k (vI n)
/-- A book's state: balances, supplies, the journal's entries. -/
abbrev BS := KV × KV × List Ent
noncomputable def putL (e : Ent) (m : KV) (k : Value) (n : Int) (L : List Ent) : List Ent := if n = 0 then (if (mget m k).isSome then L ++ [e] else L) else L ++ [e]
noncomputable def bPut (eb : KV → Value → Ent) (s : BS) (k : Value) (n : Int) : BS := (mput s.1 k n, s.2.1, putL (eb s.1 k) s.1 k n s.2.2)
noncomputable def bSup (es : KV → Value → Ent) (s : BS) (t n : Int) : BS := (s.1, mset s.2.1 (.int .u8 t) (vI n), s.2.2 ++ [es s.2.1 (.int .u8 t)])
def bw1 (t p n : Int) : Int := if 4 ≤ t ∨ 18 ≤ p then 1 else if n = 0 then 3 else 0
def bw2 (t p q n : Int) : Int := if 4 ≤ t ∨ 18 ≤ p ∨ 18 ≤ q then 1 else if n = 0 then 3 else 0
noncomputable def bMint (eb es : KV → Value → Ent) (s : BS) (t p n : Int) : Int × BS :=
  if bw1 t p n ≠ 0 then (bw1 t p n, s) else if M256 ≤ sup s.2.1 t + n then (2, s) else
  (0, bPut eb (bSup es s t (sup s.2.1 t + n)) (kk t p) (hAdd (bal s.1 t p) n).1)
noncomputable def bBurn (eb es : KV → Value → Ent) (s : BS) (t p n : Int) : Int × BS :=
  if bw1 t p n ≠ 0 then (bw1 t p n, s) else if bal s.1 t p < n then (8, s) else
  (0, bPut eb (bSup es s t (hSub (sup s.2.1 t) n).1) (kk t p) (bal s.1 t p - n))
noncomputable def bMove (eb : KV → Value → Ent) (s : BS) (t p q n : Int) : Int × BS :=
  if bw2 t p q n ≠ 0 then (bw2 t p q n, s) else if bal s.1 t p < n then (8, s) else
  (0, bPut eb (bPut eb s (kk t p) (bal s.1 t p - n)) (kk t q) (hAdd (bal (bPut eb s (kk t p) (bal s.1 t p - n)).1 t q) n).1)
theorem putL_len (e : Ent) (m : KV) (k : Value) (n : Int) (L : List Ent) : L.length ≤ (putL e m k n L).length ∧ (putL e m k n L).length ≤ L.length + 1 := by
  unfold putL; split
  · split <;> simp
  · simp
theorem bPut_len (eb : KV → Value → Ent) (s : BS) (k : Value) (n : Int) : s.2.2.length ≤ (bPut eb s k n).2.2.length ∧ (bPut eb s k n).2.2.length ≤ s.2.2.length + 1 := putL_len _ _ _ _ _
theorem bSup_len (es : KV → Value → Ent) (s : BS) (t n : Int) : (bSup es s t n).2.2.length = s.2.2.length + 1 := by simp [bSup]
theorem mget_put {m : KV} (h : MOK m) (k : Value) (n : Int) (k' : Value) : mget (mput m k n) k' = if k' = k then (if n = 0 then none else some (vI n)) else mget m k' := by
  unfold mput
  by_cases hn : n = 0
  · rw [if_pos hn, mget_del h]; simp [hn]
  · rw [if_neg hn, mget_set]; simp [hn]
theorem bal_put {m : KV} (h : MOK m) {t p n : Int} (hn : R4 n) (t' p' : Int) : bal (mput m (kk t p) n) t' p' = if t' = t ∧ p' = p then n else bal m t' p' := by
  unfold bal
  rw [mget_put h]
  by_cases e : t' = t ∧ p' = p
  · rw [if_pos (kk_inj.2 e), if_pos e]
    by_cases hz : n = 0
    · subst hz; simp [num_vI R4_zero]
    · simp [hz, num_vI hn]
  · rw [if_neg (fun x => e (kk_inj.1 x)), if_neg e]
theorem sup_set (m : KV) {t n : Int} (hn : R4 n) (t' : Int) : sup (mset m (.int .u8 t) (vI n)) t' = if t' = t then n else sup m t' := by
  unfold sup
  rw [mget_set]
  by_cases e : t' = t
  · rw [if_pos (by rw [e]), if_pos e]; exact num_vI hn
  · rw [if_neg (by intro x; injection x with _ x; exact e x), if_neg e]
/-- Kinds whose values are numbers. -/
def NumK (K : MK) : Prop := ∀ x, K.OkV x ↔ ∃ v, R4 v ∧ x = vI v
theorem KOK.R4v {K : MK} (hK : NumK K) {m : KV} (h : KOK K m) (k : Value) : R4 (num ((mget m k).getD (vI 0))) := by
  cases hg : mget m k with
  | none => rw [Option.getD_none, num_vI R4_zero]; exact R4_zero
  | some x =>
    obtain ⟨v, hv, rfl⟩ := (hK x).1 (h.val hg)
    rw [Option.getD_some, num_vI hv]; exact hv
theorem KOK.put {K : MK} (hK : NumK K) {m : KV} (h : KOK K m) {k : Value} (hk : K.OkK k) {n : Int} (hn : R4 n) : KOK K (mput m k n) := by
  unfold mput; split
  · exact h.del k
  · exact h.set hk ((hK _).2 ⟨n, hn, rfl⟩)
end Go.Sx

namespace Go.Sx
/-- An account's next nonce. -/
noncomputable def nz (m : KV) (k : Int) : Int := ci ((mget m (.int .u8 k)).getD (.int .u64 0))
theorem nz_nil (k : Int) : nz [] k = 0 := rfl
theorem nz_set (m : KV) (k v k' : Int) : nz (mset m (.int .u8 k) (.int .u64 v)) k' = if k' = k then v else nz m k' := by
  unfold nz
  rw [mget_set]
  by_cases h : k' = k
  · rw [if_pos (by rw [h]), if_pos h]; rfl
  · rw [if_neg (by intro e; injection e with _ e; exact h e), if_neg h]
theorem nz_eq {m : KV} {k x : Int} (h : Value.int .u64 x = (mget m (.int .u8 k)).getD (.int .u64 0)) : nz m k = x := by unfold nz; rw [← h]; rfl
/-- What a try does whose deed is let. -/
noncomputable def tryOk (m : KV) (k n : Int) : Int × KV := if 16 ≤ k then (1, m) else if n ≠ nz m k then (9, m) else (0, mset m (.int .u8 k) (.int .u64 (IntKind.u64.wrap (n + 1))))
theorem tryOk_arg {m : KV} {k n : Int} (h : 16 ≤ k) : tryOk m k n = (1, m) := if_pos h
theorem tryOk_nonce {m : KV} {k n : Int} (h : ¬ 16 ≤ k) (h2 : n ≠ nz m k) : tryOk m k n = (9, m) := by unfold tryOk; rw [if_neg h, if_pos h2]
theorem tryOk_ok {m : KV} {k n : Int} (h : ¬ 16 ≤ k) (h2 : n = nz m k) : tryOk m k n = (0, mset m (.int .u8 k) (.int .u64 (IntKind.u64.wrap (n + 1)))) := by unfold tryOk; rw [if_neg h, if_neg (by simp [h2])]
theorem wf_wrapu (n : Int) : (Lit.int .u64 (IntKind.u64.wrap n)).wf = true := by
  have := W_wrap n
  unfold W at this
  simp [Lit.wf, IntKind.min, IntKind.max, IntKind.signed, IntKind.bits]; omega
theorem wf8 {n : Int} (h : (Lit.int .u8 n).wf = true) : 0 ≤ n ∧ n ≤ 255 := by
  simp [Lit.wf, IntKind.min, IntKind.max, IntKind.signed, IntKind.bits] at h; omega
theorem wf64 {n : Int} (h : (Lit.int .u64 n).wf = true) : 0 ≤ n ∧ n ≤ 18446744073709551615 := by
  simp [Lit.wf, IntKind.min, IntKind.max, IntKind.signed, IntKind.bits] at h; omega
theorem wrap_u8 (n : Int) (h0 : 0 ≤ n) (h1 : n ≤ 255) : IntKind.u8.wrap n = n := by
  have : IntKind.u8.wrap n = n % 256 := by simp [IntKind.wrap, IntKind.bits, IntKind.signed]
  rw [this]; omega
/-- The nonces, as the law keeps them. -/
structure NxI (i : Nat) (ns : List Int) (m : KV) : Prop where
  len : ns.length = 16
  eq : ∀ k : Nat, k < 16 → nz m k = ns.getD k 0
  lo : ∀ k : Nat, k < 16 → 0 ≤ ns.getD k 0
  hi : ∀ k : Nat, k < 16 → ns.getD k 0 ≤ i
theorem nx_start : NxI 0 (List.replicate 16 0) [] := ⟨rfl, fun k hk => by rw [nz_nil, List.getD_eq_getElem?_getD, List.getElem?_replicate]; simp [hk], fun k hk => by rw [List.getD_eq_getElem?_getD, List.getElem?_replicate]; simp [hk], fun k hk => by rw [List.getD_eq_getElem?_getD, List.getElem?_replicate]; simp [hk]⟩
theorem NxI.no {i : Nat} {ns : List Int} {m : KV} (h : NxI i ns m) : NxI (i + 1) ns m := ⟨h.len, h.eq, h.lo, fun k hk => by have := h.hi k hk; omega⟩
theorem getD_set (ns : List Int) (a : Nat) (v : Int) (k : Nat) (ha : a < ns.length) : (ns.set a v).getD k 0 = if k = a then v else ns.getD k 0 := by
  rw [List.getD_eq_getElem?_getD, List.getD_eq_getElem?_getD, List.getElem?_set]
  by_cases h : a = k
  · subst h; simp [ha]
  · rw [if_neg h, if_neg (fun e => h e.symm)]
theorem NxI.yes {i : Nat} {ns : List Int} {m : KV} (h : NxI i ns m) {a : Nat} (ha : a < 16) {v : Int} (hv : v = ns.getD a 0 + 1) : NxI (i + 1) (ns.set a v) (mset m (.int .u8 a) (.int .u64 v)) := by
  have hl : a < ns.length := by rw [h.len]; exact ha
  refine ⟨by simp [h.len], fun k hk => ?_, fun k hk => ?_, fun k hk => ?_⟩
  · rw [nz_set, getD_set _ _ _ _ hl]
    by_cases e : k = a
    · rw [if_pos (by omega), if_pos e]
    · rw [if_neg (by omega), if_neg e, h.eq k hk]
  · rw [getD_set _ _ _ _ hl]; split
    · have := h.lo a ha; omega
    · exact h.lo k hk
  · rw [getD_set _ _ _ _ hl]; split
    · have := h.hi a ha; omega
    · have := h.hi k hk; omega
/-- A kind whose values are words has some word for whatever a map may hold: no map need be sound. -/
theorem wget0 {P : Program} {K : MK} {t kt vt : TypeId} {z : Value} {V : Type} {vv : V → Value} {Ok : V → Prop} (L : KindL P K t kt vt z vv Ok) {m : KV} (h : KOK K m) (k : Value) :
    ∃ x : V × Bool, (fun x : V × Bool => Ok x.1 ∧ x.2 = (mget m k).isSome ∧ vv x.1 = (mget m k).getD z) x := wlook L h k
end Go.Sx

namespace Go.Sx
theorem wf8' {n : Int} (h : (Lit.int .u8 n).wf = true) : 0 ≤ n ∧ n ≤ 255 := wf8 h
theorem hAdd_cases' {a b : Int} {x : Int × Int} (h : x = hAdd a b) : (x.2 = 0 ∧ x.1 = a + b ∧ a + b < 115792089237316195423570985008687907853269984665640564039457584007913129639936) ∨ (x.2 = 2 ∧ x.1 = 0 ∧ 115792089237316195423570985008687907853269984665640564039457584007913129639936 ≤ a + b) := by
  subst h; unfold hAdd; split
  · exact .inl ⟨rfl, rfl, by assumption⟩
  · exact .inr ⟨rfl, rfl, by omega⟩
theorem hSub_cases' {a b : Int} {x : Int × Int} (h : x = hSub a b) : (x.2 = 0 ∧ x.1 = a - b ∧ b ≤ a) ∨ (x.2 = 2 ∧ x.1 = 0 ∧ a < b) := by
  subst h; unfold hSub; split
  · exact .inl ⟨rfl, rfl, by assumption⟩
  · exact .inr ⟨rfl, rfl, by omega⟩
/-! ### The chapter's example -/
theorem bal_nil (t p : Int) : bal [] t p = 0 := num_vI R4_zero
theorem sup_nil (t : Int) : sup [] t = 0 := num_vI R4_zero
theorem live_mint (eb es : KV → Value → Ent) : bMint eb es ([], [], []) 0 3 5 = (0, (mput [] (kk 0 3) 5, mset [] (.int .u8 0) (vI 5), [es [] (.int .u8 0), eb [] (kk 0 3)])) := by
  have h1 : (hAdd (bal [] 0 3) 5).1 = 5 := by rw [bal_nil]; decide
  unfold bMint
  rw [if_neg (by decide)]
  simp only [sup_nil]
  rw [if_neg (by decide), h1]
  rfl
theorem live_bal0 : bal (mput [] (kk 0 3) 5) 0 3 = 5 := by rw [bal_put MOK.nil (by unfold R4; decide)]; rfl
theorem live_move {eb es : KV → Value → Ent} {x : Int × BS} (h : x = (0, (mput [] (kk 0 3) 5, mset [] (.int .u8 0) (vI 5), [es [] (.int .u8 0), eb [] (kk 0 3)]))) {eb' : KV → Value → Ent} : bMove eb' (x.2.1, x.2.2.1, x.2.2.2) 0 3 16 6 = (8, (x.2.1, x.2.2.1, x.2.2.2)) := by
  unfold bMove
  rw [if_neg (by decide), if_pos]
  rw [h]; simp only [live_bal0]; decide
theorem live_bal {eb es : KV → Value → Ent} {x : Int × BS} (h : x = (0, (mput [] (kk 0 3) 5, mset [] (.int .u8 0) (vI 5), [es [] (.int .u8 0), eb [] (kk 0 3)]))) : bal x.2.1 0 3 = 5 := by rw [h]; exact live_bal0
section
variable {eb es : KV → Value → Ent} {s : BS} {t p q n e : Int}
theorem bMint_w (hw : e = bw1 t p n) (h : e ≠ 0) : bMint eb es s t p n = (e, s) := by unfold bMint; rw [← hw, if_pos h]
theorem bMint_ov (hw : 0 = bw1 t p n) (h : M256 ≤ sup s.2.1 t + n) : bMint eb es s t p n = (2, s) := by unfold bMint; rw [← hw, if_neg (by decide), if_pos h]
theorem bMint_ok (hw : 0 = bw1 t p n) (h : ¬ M256 ≤ sup s.2.1 t + n) {a : Int} (ha : a = sup s.2.1 t + n) {m1 : KV} {L1 : List Ent} (h1 : m1 = mset s.2.1 (.int .u8 t) (vI a)) (h2 : L1 = s.2.2 ++ [es s.2.1 (.int .u8 t)]) {y : Int} (hy : y = (hAdd (bal s.1 t p) n).1)
    {x : BS} (hx : x = bPut eb (s.1, m1, L1) (kk t p) y) : bMint eb es s t p n = (0, x) := by
  unfold bMint; rw [← hw, if_neg (by decide), if_neg h, hx, h1, h2, hy, ha]; rfl
theorem bBurn_w (hw : e = bw1 t p n) (h : e ≠ 0) : bBurn eb es s t p n = (e, s) := by unfold bBurn; rw [← hw, if_pos h]
theorem bBurn_no (hw : 0 = bw1 t p n) (h : bal s.1 t p < n) : bBurn eb es s t p n = (8, s) := by unfold bBurn; rw [← hw, if_neg (by decide), if_pos h]
theorem bBurn_ok (hw : 0 = bw1 t p n) (h : ¬ bal s.1 t p < n) {a : Int} (ha : a = (hSub (sup s.2.1 t) n).1) {m1 : KV} {L1 : List Ent} (h1 : m1 = mset s.2.1 (.int .u8 t) (vI a)) (h2 : L1 = s.2.2 ++ [es s.2.1 (.int .u8 t)]) {y : Int} (hy : y = bal s.1 t p - n)
    {x : BS} (hx : x = bPut eb (s.1, m1, L1) (kk t p) y) : bBurn eb es s t p n = (0, x) := by
  unfold bBurn; rw [← hw, if_neg (by decide), if_neg h, hx, h1, h2, hy, ha]; rfl
theorem bMove_w (hw : e = bw2 t p q n) (h : e ≠ 0) : bMove eb s t p q n = (e, s) := by unfold bMove; rw [← hw, if_pos h]
theorem bMove_no (hw : 0 = bw2 t p q n) (h : bal s.1 t p < n) : bMove eb s t p q n = (8, s) := by unfold bMove; rw [← hw, if_neg (by decide), if_pos h]
theorem bMove_ok (hw : 0 = bw2 t p q n) (h : ¬ bal s.1 t p < n) {a : Int} (ha : a = bal s.1 t p - n) {x1 : BS} (h1 : x1 = bPut eb s (kk t p) a) {y : Int} (hy : y = (hAdd (bal x1.1 t q) n).1)
    {x : BS} (hx : x = bPut eb x1 (kk t q) y) : bMove eb s t p q n = (0, x) := by
  unfold bMove; rw [← hw, if_neg (by decide), if_neg h, ← ha, ← h1, ← hy, ← hx]
theorem add_ok {a b : Int} {x : Int × Int} (h : x = hAdd a b) (h0 : (x.2 != 0) = false) : x.1 = a + b ∧ a + b < M256 := by
  have := bne_eq_false_iff_eq.1 h0; rcases hAdd_cases' h with ⟨h1, h2, h3⟩ | ⟨h1, h2, h3⟩
  · exact ⟨h2, h3⟩
  · omega
theorem add_ov {a b : Int} {x : Int × Int} (h : x = hAdd a b) (h0 : (x.2 != 0) = true) : x.2 = 2 ∧ M256 ≤ a + b := by
  have := bne_iff_ne.1 h0; rcases hAdd_cases' h with ⟨h1, h2, h3⟩ | ⟨h1, h2, h3⟩
  · omega
  · exact ⟨h1, h3⟩
theorem sub_ok {a b : Int} {x : Int × Int} (h : x = hSub a b) (h0 : (x.2 != 0) = false) : x.1 = a - b ∧ b ≤ a := by
  have := bne_eq_false_iff_eq.1 h0; rcases hSub_cases' h with ⟨h1, h2, h3⟩ | ⟨h1, h2, h3⟩
  · exact ⟨h2, h3⟩
  · omega
theorem sub_no {a b : Int} {x : Int × Int} (h : x = hSub a b) (h0 : (x.2 != 0) = true) : x.2 = 2 ∧ a < b := by
  have := bne_iff_ne.1 h0; rcases hSub_cases' h with ⟨h1, h2, h3⟩ | ⟨h1, h2, h3⟩
  · omega
  · exact ⟨h1, h3⟩
end
end Go.Sx

namespace Go.Sx
def sumTo (f : Nat → Int) : Nat → Int
  | 0 => 0
  | n + 1 => sumTo f n + f n
theorem sumTo_congr {f g : Nat → Int} : ∀ {n : Nat}, (∀ p, p < n → f p = g p) → sumTo f n = sumTo g n
  | 0, _ => rfl
  | n + 1, h => by rw [sumTo, sumTo, sumTo_congr (fun p hp => h p (by omega)), h n (by omega)]
theorem sumTo_upd {f g : Nat → Int} {q : Nat} {v : Int} : ∀ {n : Nat}, q < n → (∀ p, p < n → g p = if p = q then v else f p) → sumTo g n = sumTo f n + v - f q
  | n + 1, hq, h => by
    rw [sumTo, sumTo]
    by_cases e : q = n
    · subst e
      rw [sumTo_congr (g := f) (fun p hp => by rw [h p (by omega), if_neg (by omega)]), h q (by omega), if_pos rfl]; omega
    · rw [sumTo_upd (n := n) (by omega) (fun p hp => h p (by omega)), h n (by omega), if_neg (by omega)]; omega
theorem sumTo_nonneg {f : Nat → Int} : ∀ {n : Nat}, (∀ p, p < n → 0 ≤ f p) → 0 ≤ sumTo f n
  | 0, _ => Int.le_refl _
  | n + 1, h => by rw [sumTo]; have := sumTo_nonneg (n := n) (fun p hp => h p (by omega)); have := h n (by omega); omega
theorem sumTo_one {f : Nat → Int} {q : Nat} : ∀ {n : Nat}, q < n → (∀ p, p < n → 0 ≤ f p) → f q ≤ sumTo f n
  | n + 1, hq, h => by
    rw [sumTo]
    have h0 := sumTo_nonneg (n := n) (fun p hp => h p (by omega))
    have h1 := h n (by omega)
    by_cases e : q = n
    · subst e; omega
    · have := sumTo_one (n := n) (by omega : q < n) (fun p hp => h p (by omega)); omega
theorem sumTo_two {f : Nat → Int} {q r : Nat} (hne : q ≠ r) : ∀ {n : Nat}, q < n → r < n → (∀ p, p < n → 0 ≤ f p) → f q + f r ≤ sumTo f n
  | n + 1, hq, hr, h => by
    rw [sumTo]
    have h1 := h n (by omega)
    by_cases e : q = n
    · subst e; have := sumTo_one (n := q) (q := r) (by omega) (fun p hp => h p (by omega)); omega
    · by_cases e2 : r = n
      · subst e2; have := sumTo_one (n := r) (q := q) (by omega) (fun p hp => h p (by omega)); omega
      · have := sumTo_two hne (n := n) (by omega) (by omega) (fun p hp => h p (by omega)); omega
theorem sumTo_le {f g : Nat → Int} : ∀ {n : Nat}, (∀ p, p < n → f p ≤ g p) → sumTo f n ≤ sumTo g n
  | 0, _ => Int.le_refl _
  | n + 1, h => by rw [sumTo, sumTo]; have := sumTo_le (n := n) (fun p hp => h p (by omega)); have := h n (by omega); omega
/-- All balances of a token. -/
noncomputable def tot (m : KV) (t : Int) : Int := sumTo (fun p => bal m t p) 18
structure CI (Kb Ks : MK) (s : BS) (more less : Int → Int) (i : Nat) : Prop where
  kb : KOK Kb s.1
  ks : KOK Ks s.2.1
  eq : ∀ t, 0 ≤ t → t < 4 → tot s.1 t = sup s.2.1 t
  nk : NumK Ks
  bk : ∀ t, 0 ≤ t → t < 4 → sup s.2.1 t + less t = more t
  l0 : ∀ t, 0 ≤ t → t < 4 → 0 ≤ less t
  mi : ∀ t, 0 ≤ t → t < 4 → more t ≤ i * M256
theorem ci_start {Kb Ks : MK} (nk : NumK Ks) : CI Kb Ks ([], [], []) (fun _ => 0) (fun _ => 0) 0 := by
  refine ⟨KOK.nil, KOK.nil, fun t _ _ => ?_, nk, fun t _ _ => by rw [sup_nil]; rfl, fun t _ _ => Int.le_refl _, fun t _ _ => by simp⟩
  unfold tot
  rw [sup_nil, sumTo_congr (g := fun _ => 0) (fun p _ => bal_nil t p)]; rfl
theorem CI.later {Kb Ks : MK} {s : BS} {more less : Int → Int} {i : Nat} (h : CI Kb Ks s more less i) : CI Kb Ks s more less (i + 1) :=
  ⟨h.kb, h.ks, h.eq, h.nk, h.bk, h.l0, fun t h0 h4 => by
    have h1 := h.mi t h0 h4
    rw [Int.natCast_succ, Int.add_mul]
    unfold M256 at *
    omega⟩
theorem CI.congr {Kb Ks : MK} {s : BS} {more less more' less' : Int → Int} {i : Nat} (h : CI Kb Ks s more less i) (hm : ∀ t, 0 ≤ t → t < 4 → more' t = more t) (hl : ∀ t, 0 ≤ t → t < 4 → less' t = less t) : CI Kb Ks s more' less' i :=
  ⟨h.kb, h.ks, h.eq, h.nk, fun t h0 h4 => by rw [hm t h0 h4, hl t h0 h4]; exact h.bk t h0 h4, fun t h0 h4 => by rw [hl t h0 h4]; exact h.l0 t h0 h4, fun t h0 h4 => by rw [hm t h0 h4]; exact h.mi t h0 h4⟩
section
variable {Kb Ks : MK} (nb : NumK Kb) (ns : NumK Ks) (ob : ∀ t p, Kb.OkK (kk t p)) (os : ∀ t : Int, Ks.OkK (.int .u8 t))
theorem bal_R {m : KV} (nb : NumK Kb) (h : KOK Kb m) (t p : Int) : R4 (bal m t p) := KOK.R4v nb h _
theorem tot_put {m : KV} (h : MOK m) {t p n : Int} (hn : R4 n) (hp0 : 0 ≤ p) (hp : p < 18) (t' : Int) : tot (mput m (kk t p) n) t' = if t' = t then tot m t + n - bal m t p else tot m t' := by
  unfold tot
  by_cases e : t' = t
  · subst e
    rw [if_pos rfl]
    have := sumTo_upd (f := fun q => bal m t' q) (g := fun q => bal (mput m (kk t' p) n) t' q) (q := p.toNat) (v := n) (n := 18) (by omega) (fun q _ => by
      show bal (mput m (kk t' p) n) t' q = _
      rw [bal_put h hn]
      by_cases e2 : (q : Int) = p
      · rw [if_pos ⟨rfl, e2⟩, if_pos (by omega)]
      · rw [if_neg (by simp [e2]), if_neg (by omega)])
    rw [this]
    simp only [Int.toNat_of_nonneg hp0]
  · rw [if_neg e]
    exact sumTo_congr fun q _ => by rw [bal_put h hn, if_neg (by simp [e])]
theorem tot_bal {m : KV} (nb : NumK Kb) (h : KOK Kb m) {t p : Int} (hp0 : 0 ≤ p) (hp : p < 18) : 0 ≤ bal m t p ∧ bal m t p ≤ tot m t := by
  refine ⟨(bal_R nb h t p).1, ?_⟩
  have := sumTo_one (f := fun q => bal m t q) (q := p.toNat) (n := 18) (by omega) (fun q _ => (bal_R nb h t q).1)
  simp only [Int.toNat_of_nonneg hp0] at this
  exact this
theorem CI.mint (nb : NumK Kb) (ns : NumK Ks) (ob : ∀ t p, Kb.OkK (kk t p)) (os : ∀ t : Int, Ks.OkK (.int .u8 t)) {s : BS} {more less : Int → Int} {i : Nat} (h : CI Kb Ks s more less i) {eb es : KV → Value → Ent} {t p n : Int} (hn : R4 n) (ht : 0 ≤ t) (hp : 0 ≤ p) {x : Int × BS} (hx : x = bMint eb es s t p n) :
    (x.1 = 0 ∧ t < 4 ∧ CI Kb Ks x.2 (fun u => if u = t then more t + n else more u) less (i + 1)) ∨ (x.1 ≠ 0 ∧ x.2 = s) := by
  subst hx
  unfold bMint
  split
  · rename_i hw; exact .inr ⟨hw, rfl⟩
  · rename_i hw
    split
    · exact .inr ⟨by first | (show (2 : Int) ≠ 0; decide) | (show (8 : Int) ≠ 0; decide), rfl⟩
    · rename_i hs
      left
      have hw' : t < 4 ∧ p < 18 ∧ n ≠ 0 := by
        unfold bw1 at hw
        split at hw
        · exact absurd (by decide : (1 : Int) ≠ 0) hw
        · split at hw
          · exact absurd (by decide : (3 : Int) ≠ 0) hw
          · rename_i h1 h2; exact ⟨by omega, by omega, h2⟩
      obtain ⟨ht4, hp18, hn0⟩ := hw'
      obtain ⟨b0, b1⟩ := tot_bal nb h.kb (t := t) hp hp18
      have e := h.eq t ht ht4
      have hR := KOK.R4v ns h.ks (.int .u8 t)
      have hs0 : 0 ≤ sup s.2.1 t := hR.1
      have hlt : bal s.1 t p + n < M256 := by omega
      have ha : (hAdd (bal s.1 t p) n).1 = bal s.1 t p + n := by unfold hAdd; rw [if_pos hlt]
      have rS : R4 (sup s.2.1 t + n) := ⟨by have := hn.1; omega, by have : sup s.2.1 t + n < M256 := by omega
                                                                    exact this⟩
      have rB : R4 (bal s.1 t p + n) := ⟨by have := hn.1; omega, hlt⟩
      refine ⟨rfl, ht4, ?_⟩
      rw [ha]
      refine ⟨h.kb.put nb (ob t p) rB, h.ks.set (os t) ((ns _).2 ⟨_, rS, rfl⟩), fun u hu hu4 => ?_, h.nk, fun u hu hu4 => ?_, h.l0, fun u hu hu4 => ?_⟩
      · show tot (mput s.1 (kk t p) _) u = sup (mset s.2.1 _ _) u
        rw [tot_put h.kb.once rB hp hp18, sup_set _ rS]
        by_cases eu : u = t
        · subst eu; simp only [if_true]; omega
        · rw [if_neg eu, if_neg eu]; exact h.eq u hu hu4
      · show sup (mset s.2.1 _ _) u + less u = _
        rw [sup_set _ rS]
        have := h.bk u hu hu4
        by_cases eu : u = t
        · subst eu; simp only [if_true]; omega
        · rw [if_neg eu, if_neg eu]; exact this
      · show (if u = t then more t + n else more u) ≤ _
        have hm := h.mi u hu hu4
        have := hn.2
        rw [Int.natCast_succ, Int.add_mul]
        by_cases eu : u = t
        · subst eu; simp only [if_true]; unfold M256 at *; omega
        · rw [if_neg eu]; unfold M256 at *; omega
theorem CI.burn (nb : NumK Kb) (ns : NumK Ks) (ob : ∀ t p, Kb.OkK (kk t p)) (os : ∀ t : Int, Ks.OkK (.int .u8 t)) {s : BS} {more less : Int → Int} {i : Nat} (h : CI Kb Ks s more less i) {eb es : KV → Value → Ent} {t p n : Int} (hn : R4 n) (ht : 0 ≤ t) (hp : 0 ≤ p) {x : Int × BS} (hx : x = bBurn eb es s t p n) :
    (x.1 = 0 ∧ t < 4 ∧ CI Kb Ks x.2 more (fun u => if u = t then less t + n else less u) (i + 1)) ∨ (x.1 ≠ 0 ∧ x.2 = s) := by
  subst hx
  unfold bBurn
  split
  · rename_i hw; exact .inr ⟨hw, rfl⟩
  · rename_i hw
    split
    · exact .inr ⟨by first | (show (2 : Int) ≠ 0; decide) | (show (8 : Int) ≠ 0; decide), rfl⟩
    · rename_i hs
      left
      have hw' : t < 4 ∧ p < 18 ∧ n ≠ 0 := by
        unfold bw1 at hw
        split at hw
        · exact absurd (by decide : (1 : Int) ≠ 0) hw
        · split at hw
          · exact absurd (by decide : (3 : Int) ≠ 0) hw
          · rename_i h1 h2; exact ⟨by omega, by omega, h2⟩
      obtain ⟨ht4, hp18, hn0⟩ := hw'
      obtain ⟨b0, b1⟩ := tot_bal nb h.kb (t := t) hp hp18
      have e := h.eq t ht ht4
      have hR := KOK.R4v ns h.ks (.int .u8 t)
      have hs0 : 0 ≤ sup s.2.1 t ∧ sup s.2.1 t < M256 := hR
      have hB := bal_R nb h.kb t p
      have ha : (hSub (sup s.2.1 t) n).1 = sup s.2.1 t - n := by unfold hSub; rw [if_pos (by omega)]
      have rS : R4 (sup s.2.1 t - n) := ⟨by omega, by have := hn.1; have h2 : sup s.2.1 t - n < M256 := by omega
                                                      exact h2⟩
      have rB : R4 (bal s.1 t p - n) := ⟨by omega, by have := hn.1; have := hB.2; omega⟩
      refine ⟨rfl, ht4, ?_⟩
      rw [ha]
      have hn1 := hn.1
      refine ⟨h.kb.put nb (ob t p) rB, h.ks.set (os t) ((ns _).2 ⟨_, rS, rfl⟩), fun u hu hu4 => ?_, h.nk, fun u hu hu4 => ?_, fun u hu hu4 => ?_, fun u hu hu4 => ?_⟩
      · show tot (mput s.1 (kk t p) _) u = sup (mset s.2.1 _ _) u
        rw [tot_put h.kb.once rB hp hp18, sup_set _ rS]
        by_cases eu : u = t
        · subst eu; simp only [if_true]; omega
        · rw [if_neg eu, if_neg eu]; exact h.eq u hu hu4
      · show sup (mset s.2.1 _ _) u + (if u = t then less t + n else less u) = _
        rw [sup_set _ rS]
        have := h.bk u hu hu4
        by_cases eu : u = t
        · subst eu; simp only [if_true]; omega
        · rw [if_neg eu, if_neg eu]; exact this
      · have := h.l0 u hu hu4
        by_cases eu : u = t
        · subst eu; simp only [if_true]; omega
        · simp only [if_neg eu]; exact this
      · have hm := h.mi u hu hu4
        rw [Int.natCast_succ, Int.add_mul]; unfold M256 at *; omega
theorem CI.move (nb : NumK Kb) (ob : ∀ t p, Kb.OkK (kk t p)) {s : BS} {more less : Int → Int} {i : Nat} (h : CI Kb Ks s more less i) {eb : KV → Value → Ent} {t p q n : Int} (hn : R4 n) (ht : 0 ≤ t) (hp : 0 ≤ p) (hq : 0 ≤ q) {x : Int × BS} (hx : x = bMove eb s t p q n) :
    CI Kb Ks x.2 more less (i + 1) := by
  subst hx
  unfold bMove
  split
  · exact h.later
  · rename_i hw
    split
    · exact h.later
    · rename_i hs
      have hw' : t < 4 ∧ p < 18 ∧ q < 18 ∧ n ≠ 0 := by
        unfold bw2 at hw
        split at hw
        · exact absurd (by decide : (1 : Int) ≠ 0) hw
        · split at hw
          · exact absurd (by decide : (3 : Int) ≠ 0) hw
          · rename_i h1 h2; exact ⟨by omega, by omega, by omega, h2⟩
      obtain ⟨ht4, hp18, hq18, hn0⟩ := hw'
      obtain ⟨b0, b1⟩ := tot_bal nb h.kb (t := t) hp hp18
      have e := h.eq t ht ht4
      have hn1 := hn.1
      have hB := bal_R nb h.kb t p
      have hQ := bal_R nb h.kb t q
      have rB : R4 (bal s.1 t p - n) := ⟨by omega, by have := hB.2; omega⟩
      have k1 : KOK Kb (bPut eb s (kk t p) (bal s.1 t p - n)).1 := h.kb.put nb (ob t p) rB
      have e1 : bal (bPut eb s (kk t p) (bal s.1 t p - n)).1 t q = if q = p then bal s.1 t p - n else bal s.1 t q := by
        show bal (mput s.1 _ _) t q = _
        rw [bal_put h.kb.once rB]; simp
      have hlt : bal (bPut eb s (kk t p) (bal s.1 t p - n)).1 t q + n < M256 := by
        rw [e1]
        have hsup : sup s.2.1 t < M256 ∨ True := .inr trivial
        by_cases eq : q = p
        · rw [if_pos eq]; have := hB.2; unfold M256; omega
        · rw [if_neg eq]
          have h2 := sumTo_two (f := fun r => bal s.1 t r) (q := p.toNat) (r := q.toNat) (n := 18) (by omega) (by omega) (by omega) (fun r _ => (bal_R nb h.kb t r).1)
          simp only [Int.toNat_of_nonneg hp, Int.toNat_of_nonneg hq] at h2
          have h3 : bal s.1 t p + bal s.1 t q ≤ tot s.1 t := h2
          have h4 := h.bk t ht ht4
          have h5 : 0 ≤ sup s.2.1 t ∧ sup s.2.1 t < M256 := KOK.R4v h.nk h.ks _
          omega
      have ha : (hAdd (bal (bPut eb s (kk t p) (bal s.1 t p - n)).1 t q) n).1 = bal (bPut eb s (kk t p) (bal s.1 t p - n)).1 t q + n := by unfold hAdd; rw [if_pos hlt]
      have rQ : R4 (bal (bPut eb s (kk t p) (bal s.1 t p - n)).1 t q + n) := ⟨by have := (bal_R nb k1 t q).1; omega, hlt⟩
      rw [ha]
      refine ⟨k1.put nb (ob t q) rQ, h.ks, fun u hu hu4 => ?_, h.nk, h.bk, h.l0, fun u hu hu4 => ?_⟩
      · show tot (mput (mput s.1 (kk t p) _) (kk t q) _) u = sup s.2.1 u
        show tot (mput (bPut eb s (kk t p) (bal s.1 t p - n)).1 (kk t q) _) u = sup s.2.1 u
        rw [tot_put k1.once rQ hq hq18]
        have e2 : ∀ u, tot (bPut eb s (kk t p) (bal s.1 t p - n)).1 u = if u = t then tot s.1 t + (bal s.1 t p - n) - bal s.1 t p else tot s.1 u := fun u => tot_put h.kb.once rB hp hp18 u
        show (if u = t then tot (bPut eb s (kk t p) (bal s.1 t p - n)).1 t + _ - bal (bPut eb s (kk t p) (bal s.1 t p - n)).1 t q else tot (bPut eb s (kk t p) (bal s.1 t p - n)).1 u) = _
        rw [e2, e2]
        by_cases eu : u = t
        · subst eu; simp only [if_true]; omega
        · rw [if_neg eu, if_neg eu]; exact h.eq u hu hu4
      · have hm := h.mi u hu hu4
        rw [Int.natCast_succ, Int.add_mul]; unfold M256 at *; omega
end
theorem bMint_len (eb es : KV → Value → Ent) (s : BS) (t p n : Int) : (bMint eb es s t p n).2.2.2.length ≤ s.2.2.length + 2 := by
  unfold bMint
  split
  · simp
  · split
    · simp
    · exact Nat.le_trans (bPut_len _ _ _ _).2 (by simp [bSup])
theorem bBurn_len (eb es : KV → Value → Ent) (s : BS) (t p n : Int) : (bBurn eb es s t p n).2.2.2.length ≤ s.2.2.length + 2 := by
  unfold bBurn
  split
  · simp
  · split
    · simp
    · exact Nat.le_trans (bPut_len _ _ _ _).2 (by simp [bSup])
theorem bMove_len (eb : KV → Value → Ent) (s : BS) (t p q n : Int) : (bMove eb s t p q n).2.2.2.length ≤ s.2.2.length + 2 := by
  unfold bMove
  split
  · simp
  · split
    · simp
    · refine Nat.le_trans (bPut_len _ _ _ _).2 ?_
      have := (bPut_len eb s (kk t p) (bal s.1 t p - n)).2
      omega
structure BL where
  i : Nat
  s : BS
  M : Nat → Row
  L : Nat → Row
  b : Nat
  bm : Nat
  bs : Nat
  bj : Nat
  am : Nat
  al : Nat
def updN (M : Nat → Row) (c : Nat) (z : Row) : Nat → Row := fun k => if k = c then z else M k
def rowsv (M : Nat → Row) (t : Int) : Int := nv (dg (M t.toNat))
structure BLOK (Kb Ks : MK) (x : BL) : Prop where
  ci : CI Kb Ks x.s (rowsv x.M) (rowsv x.L) x.i
  rm : ∀ k, k < 4 → RowOK (x.M k) ∧ Canon (dg (x.M k))
  rl : ∀ k, k < 4 → RowOK (x.L k) ∧ Canon (dg (x.L k))
  ln : x.s.2.2.length ≤ 3 * x.i
theorem BLOK.start {Kb Ks : MK} (nk : NumK Ks) (b bm bs bj am al : Nat) : BLOK Kb Ks ⟨0, ([], [], []), fun _ => Row.nil, fun _ => Row.nil, b, bm, bs, bj, am, al⟩ :=
  ⟨(ci_start nk).congr (fun _ _ _ => rfl) (fun _ _ _ => rfl), fun _ _ => ⟨RowOK.nil, show ([] : List Int).getLast? ≠ some 0 by simp⟩, fun _ _ => ⟨RowOK.nil, show ([] : List Int).getLast? ≠ some 0 by simp⟩, Nat.zero_le _⟩
theorem upd_rows {M : Nat → Row} {c : Nat} {z : Row} (h : ∀ k, k < 4 → RowOK (M k) ∧ Canon (dg (M k))) (hz : RowOK z ∧ Canon (dg z)) : ∀ k, k < 4 → RowOK (updN M c z k) ∧ Canon (dg (updN M c z k)) := by
  intro k hk
  unfold updN
  split
  · exact hz
  · exact h k hk
theorem upd_v {M : Nat → Row} {c : Nat} {z : Row} {n : Int} (hz : nv (dg z) = nv (dg (M c)) + n) (u : Int) (h0 : 0 ≤ u) : rowsv (updN M c z) u = if u = (c : Int) then rowsv M c + n else rowsv M u := by
  unfold rowsv updN
  by_cases e : u = (c : Int)
  · subst e; simp only [Int.toNat_natCast, if_true]; exact hz
  · rw [if_neg (by omega), if_neg e]
section
variable {Kb Ks : MK}
theorem BLOK.mint (nb : NumK Kb) (ob : ∀ t p, Kb.OkK (kk t p)) (os : ∀ t : Int, Ks.OkK (.int .u8 t)) {x : BL} (h : BLOK Kb Ks x) {eb es : KV → Value → Ent} {t p n : Int} (hn : R4 n) (ht : 0 ≤ t) (hp : 0 ≤ p) {y : Int × BS} (hx : y = bMint eb es x.s t p n) (h0 : y.1 = 0) {c : Nat} (hc : t = (c : Int)) {z : Row} (rz : RowOK z) (hz : nv (dg z) = nv (dg (x.M c)) + n ∧ Canon (dg z)) (b bm bs bj am al : Nat) :
    BLOK Kb Ks ⟨x.i + 1, y.2, updN x.M c z, x.L, b, bm, bs, bj, am, al⟩ := by
  rcases CI.mint nb h.ci.nk ob os h.ci hn ht hp hx with ⟨_, h4, hc'⟩ | ⟨h1, _⟩
  · refine ⟨hc'.congr (fun u hu _ => ?_) (fun _ _ _ => rfl), upd_rows h.rm ⟨rz, hz.2⟩, h.rl, ?_⟩
    · rw [upd_v hz.1 u hu, hc]
    · show y.2.2.2.length ≤ 3 * (x.i + 1)
      have := bMint_len eb es x.s t p n; rw [← hx] at this; have := h.ln; omega
  · exact absurd h0 h1
theorem BLOK.mint0 (nb : NumK Kb) (ob : ∀ t p, Kb.OkK (kk t p)) (os : ∀ t : Int, Ks.OkK (.int .u8 t)) {x : BL} (h : BLOK Kb Ks x) {eb es : KV → Value → Ent} {t p n : Int} (hn : R4 n) (ht : 0 ≤ t) (hp : 0 ≤ p) {y : Int × BS} (hx : y = bMint eb es x.s t p n) (h0 : y.1 ≠ 0) (b bm bs bj am al : Nat) :
    BLOK Kb Ks ⟨x.i + 1, y.2, x.M, x.L, b, bm, bs, bj, am, al⟩ := by
  rcases CI.mint nb h.ci.nk ob os h.ci hn ht hp hx with ⟨h1, _⟩ | ⟨_, h1⟩
  · exact absurd h1 h0
  · rw [h1]; exact ⟨h.ci.later, h.rm, h.rl, by have := h.ln; show x.s.2.2.length ≤ 3 * (x.i + 1); omega⟩
theorem BLOK.burn (nb : NumK Kb) (ob : ∀ t p, Kb.OkK (kk t p)) (os : ∀ t : Int, Ks.OkK (.int .u8 t)) {x : BL} (h : BLOK Kb Ks x) {eb es : KV → Value → Ent} {t p n : Int} (hn : R4 n) (ht : 0 ≤ t) (hp : 0 ≤ p) {y : Int × BS} (hx : y = bBurn eb es x.s t p n) (h0 : y.1 = 0) {c : Nat} (hc : t = (c : Int)) {z : Row} (rz : RowOK z) (hz : nv (dg z) = nv (dg (x.L c)) + n ∧ Canon (dg z)) (b bm bs bj am al : Nat) :
    BLOK Kb Ks ⟨x.i + 1, y.2, x.M, updN x.L c z, b, bm, bs, bj, am, al⟩ := by
  rcases CI.burn nb h.ci.nk ob os h.ci hn ht hp hx with ⟨_, h4, hc'⟩ | ⟨h1, _⟩
  · refine ⟨hc'.congr (fun _ _ _ => rfl) (fun u hu _ => ?_), h.rm, upd_rows h.rl ⟨rz, hz.2⟩, ?_⟩
    · rw [upd_v hz.1 u hu, hc]
    · show y.2.2.2.length ≤ 3 * (x.i + 1)
      have := bBurn_len eb es x.s t p n; rw [← hx] at this; have := h.ln; omega
  · exact absurd h0 h1
theorem BLOK.burn0 (nb : NumK Kb) (ob : ∀ t p, Kb.OkK (kk t p)) (os : ∀ t : Int, Ks.OkK (.int .u8 t)) {x : BL} (h : BLOK Kb Ks x) {eb es : KV → Value → Ent} {t p n : Int} (hn : R4 n) (ht : 0 ≤ t) (hp : 0 ≤ p) {y : Int × BS} (hx : y = bBurn eb es x.s t p n) (h0 : y.1 ≠ 0) (b bm bs bj am al : Nat) :
    BLOK Kb Ks ⟨x.i + 1, y.2, x.M, x.L, b, bm, bs, bj, am, al⟩ := by
  rcases CI.burn nb h.ci.nk ob os h.ci hn ht hp hx with ⟨h1, _⟩ | ⟨_, h1⟩
  · exact absurd h1 h0
  · rw [h1]; exact ⟨h.ci.later, h.rm, h.rl, by have := h.ln; show x.s.2.2.length ≤ 3 * (x.i + 1); omega⟩
theorem BLOK.move (nb : NumK Kb) (ob : ∀ t p, Kb.OkK (kk t p)) {x : BL} (h : BLOK Kb Ks x) {eb : KV → Value → Ent} {t p q n : Int} (hn : R4 n) (ht : 0 ≤ t) (hp : 0 ≤ p) (hq : 0 ≤ q) {y : Int × BS} (hx : y = bMove eb x.s t p q n) (b bm bs bj am al : Nat) :
    BLOK Kb Ks ⟨x.i + 1, y.2, x.M, x.L, b, bm, bs, bj, am, al⟩ := by
  refine ⟨CI.move nb ob h.ci hn ht hp hq hx, h.rm, h.rl, ?_⟩
  show y.2.2.2.length ≤ 3 * (x.i + 1)
  have := bMove_len eb x.s t p q n; rw [← hx] at this; have := h.ln; omega
theorem len17 {l : List Int} (hd : Dig l) (hc : Canon l) {i : Nat} (hi : i ≤ 40) (h : nv l ≤ i * M256) : l.length ≤ 17 := by
  refine canon_len hd hc ?_
  rw [show P16 17 = 7588550360256754183279148073529370729071901715047420004889892225542594864082845696 from rfl]
  unfold M256 at h
  omega
theorem BLOK.lenM {x : BL} (h : BLOK Kb Ks x) (hi : x.i ≤ 40) {k : Nat} (hk : k < 4) : (dg (x.M k)).length ≤ 17 :=
  len17 (h.rm k hk).1.dig (h.rm k hk).2 hi (h.ci.mi k (by omega) (by omega))
theorem BLOK.lenL {x : BL} (h : BLOK Kb Ks x) (hi : x.i ≤ 40) {k : Nat} (hk : k < 4) : (dg (x.L k)).length ≤ 17 :=
  len17 (h.rl k hk).1.dig (h.rl k hk).2 hi (by
    have h1 := h.ci.mi k (by omega) (by omega); have h2 := h.ci.bk k (by omega) (by omega)
    have h3 : 0 ≤ sup x.s.2.1 k ∧ sup x.s.2.1 k < M256 := KOK.R4v h.ci.nk h.ci.ks _
    have e : rowsv x.L k = nv (dg (x.L k)) := rfl
    omega)
theorem BLOK.tot {x : BL} (h : BLOK Kb Ks x) {k : Nat} (hk : k < 4) : sumTo (fun p => bal x.s.1 (k : Int) p) 18 = sup x.s.2.1 k := h.ci.eq k (by omega) (by omega)
theorem BLOK.bk {x : BL} (h : BLOK Kb Ks x) {k : Nat} (hk : k < 4) : sup x.s.2.1 k + nv (dg (x.L k)) = nv (dg (x.M k)) := h.ci.bk k (by omega) (by omega)
theorem sum_le {m : KV} (nb : NumK Kb) (h : KOK Kb m) (t : Int) : ∀ n : Nat, sumTo (fun p => bal m t p) n ≤ n * M256
  | 0 => by simp [sumTo]
  | n + 1 => by
    rw [sumTo, Int.natCast_succ, Int.add_mul]
    have := sum_le nb h t n
    have := (bal_R nb h t n).2
    unfold M256 at *
    omega
end
end Go.Sx

namespace Go.Sx
open Go.RowKit
def EqM (a b : KV) : Prop := ∀ k, mget a k = mget b k
theorem EqM.refl (a : KV) : EqM a a := fun _ => rfl
theorem EqM.trans {a b c : KV} (h : EqM a b) (k : EqM b c) : EqM a c := fun x => (h x).trans (k x)
theorem EqM.symm {a b : KV} (h : EqM a b) : EqM b a := fun x => (h x).symm
theorem mget_of_mem {m : KV} (hm : MOK m) {e : Value × Value} (he : e ∈ m) : mget m e.1 = some e.2 := by
  induction m with
  | nil => cases he
  | cons x m ih =>
    have hn : x.1 ∉ m.map (·.1) ∧ (m.map (·.1)).Nodup := List.nodup_cons.1 hm
    rw [mget_cons]
    rcases List.mem_cons.1 he with rfl | h
    · rw [if_pos rfl]
    · rw [if_neg (fun e' => hn.1 (by rw [e']; exact List.mem_map_of_mem h)), ih hn.2 h]
theorem KOK.of_eq {K : MK} {m m' : KV} (h : KOK K m) (hm : MOK m') (e : EqM m' m) : KOK K m' :=
  ⟨hm, fun x hx => h.ok x (by
    have h1 := mget_of_mem hm hx
    rw [e x.1] at h1
    have := mget_mem h1
    exact this)⟩
theorem nodup_len {α : Type} [DecidableEq α] : ∀ {l l' : List α}, l.Nodup → (∀ x ∈ l, x ∈ l') → l.length ≤ l'.length
  | [], _, _, _ => Nat.zero_le _
  | a :: l, l', hn, hs => by
    have ha : a ∈ l' := hs a (List.mem_cons_self ..)
    have hn' := List.nodup_cons.1 hn
    have := nodup_len (l := l) (l' := l'.erase a) hn'.2 (fun x hx => (List.mem_erase_of_ne (fun e => hn'.1 (by rw [← e]; exact hx))).2 (hs x (List.mem_cons_of_mem _ hx)))
    rw [List.length_erase_of_mem ha] at this
    have h0 : 0 < l'.length := List.length_pos_of_mem ha
    simp only [List.length_cons]
    omega
theorem EqM.len {a b : KV} (h : EqM a b) (ha : MOK a) (hb : MOK b) : a.length = b.length := by
  have key : ∀ {a b : KV}, EqM a b → MOK a → a.length ≤ b.length := by
    intro a b h ha
    have := nodup_len (l := a.map (·.1)) (l' := b.map (·.1)) (show (a.map (·.1)).Nodup from ha) (fun x hx => by
      obtain ⟨e, he, rfl⟩ := List.mem_map.1 hx
      have h1 := mget_of_mem ha he
      rw [h e.1] at h1
      exact List.mem_map_of_mem (f := (·.1)) (mget_mem h1))
    simpa using this
  exact Nat.le_antisymm (key h ha) (key h.symm hb)
theorem EqM.set {a b : KV} (h : EqM a b) (k v : Value) : EqM (mset a k v) (mset b k v) := fun x => by rw [mget_set, mget_set, h x]
theorem EqM.del {a b : KV} (h : EqM a b) (ha : MOK a) (hb : MOK b) (k : Value) : EqM (mdel a k) (mdel b k) := fun x => by rw [mget_del ha, mget_del hb, h x]
/-- One map's share of what is undone. -/
noncomputable def undoB (b : Nat) (E : List Ent) (m : KV) : KV := E.foldr (fun e m => if b = e.b then e.undo m else m) m
theorem undoB_nil (b : Nat) (m : KV) : undoB b [] m = m := rfl
theorem undoB_snoc (b : Nat) (E : List Ent) (e : Ent) (m : KV) : undoB b (E ++ [e]) m = undoB b E (if b = e.b then e.undo m else m) := by unfold undoB; rw [List.foldr_append]; rfl
theorem undoAll_map (E : List Ent) (Ms : List MS3) : undoAll E Ms = Ms.map fun x => (x.1, x.2.1, undoB x.2.1 E x.2.2) := by
  induction E with
  | nil => unfold undoAll; simp [undoB]
  | cons e E ih =>
    show undo1 e (undoAll E Ms) = _
    rw [ih]
    unfold undo1
    rw [List.map_map]
    refine List.map_congr_left fun x _ => ?_
    show (if x.2.1 = e.b then (x.1, x.2.1, e.undo (undoB x.2.1 E x.2.2)) else (x.1, x.2.1, undoB x.2.1 E x.2.2)) = (x.1, x.2.1, if x.2.1 = e.b then e.undo (undoB x.2.1 E x.2.2) else undoB x.2.1 E x.2.2)
    split <;> rfl
/-- What E holds takes the map at b from m' back to m. -/
def Und (b : Nat) (m m' : KV) (E : List Ent) : Prop := ∀ m2, MOK m2 → EqM m2 m' → MOK (undoB b E m2) ∧ EqM (undoB b E m2) m
theorem Und.nil (b : Nat) (m : KV) : Und b m m [] := fun m2 h e => ⟨h, e⟩
theorem Und.other {b : Nat} {m m' : KV} {E : List Ent} (h : Und b m m' E) {e : Ent} (hb : e.b ≠ b) : Und b m m' (E ++ [e]) := fun m2 h2 e2 => by
  rw [undoB_snoc, if_neg (fun q => hb q.symm)]; exact h m2 h2 e2
theorem undo_mok {e : Ent} {m : KV} (h : MOK m) : MOK (e.undo m) := by
  unfold Ent.undo
  cases e.was with
  | none => exact h.del _
  | some v => exact h.set _ _
theorem mget_undo {e : Ent} {m : KV} (h : MOK m) (k : Value) : mget (e.undo m) k = if k = e.key then e.was else mget m k := by
  unfold Ent.undo
  cases e.was with
  | none => exact mget_del h _ _
  | some v => exact mget_set _ _ _ _
theorem Und.snoc {b : Nat} {m m' m3 : KV} {E : List Ent} (h : Und b m m' E) {e : Ent} (hb : e.b = b) (hw : e.was = mget m' e.key) (ho : ∀ k, k ≠ e.key → mget m3 k = mget m' k) : Und b m m3 (E ++ [e]) := fun m2 h2 e2 => by
  rw [undoB_snoc, if_pos hb.symm]
  refine h _ (undo_mok h2) fun k => ?_
  rw [mget_undo h2]
  by_cases hk : k = e.key
  · rw [if_pos hk, hw, hk]
  · rw [if_neg hk, e2 k, ho k hk]
theorem Und.set {b : Nat} {m m' : KV} {E : List Ent} (h : Und b m m' E) {e : Ent} (hb : e.b = b) (hw : e.was = mget m' e.key) (v : Value) : Und b m (mset m' e.key v) (E ++ [e]) :=
  h.snoc hb hw fun k hk => by rw [mget_set, if_neg hk]
/-! ### PairMaps -/
theorem mint_one {eb es : KV → Value → Ent} {mb ms : KV} {L : List Ent} {Kb Ks : MK} (nb : NumK Kb) (ns : NumK Ks) (hb : KOK Kb mb) (hs : KOK Ks ms) (h1 : sup ms 0 + 1 < M256) (h2 : bal mb 0 2 + 1 < M256) :
    bMint eb es (mb, ms, L) 0 2 1 = (0, mset mb (kk 0 2) (vI (bal mb 0 2 + 1)), mset ms (.int .u8 0) (vI (sup ms 0 + 1)), L ++ [es ms (.int .u8 0), eb mb (kk 0 2)]) := by
  have hB : 0 ≤ bal mb 0 2 := (KOK.R4v nb hb _).1
  have ha : (hAdd (bal mb 0 2) 1).1 = bal mb 0 2 + 1 := by unfold hAdd; rw [if_pos h2]
  unfold bMint
  rw [show bw1 0 2 1 = 0 by decide, if_neg (by decide), if_neg (show ¬ M256 ≤ sup ms 0 + 1 by omega)]
  simp only [ha]
  unfold bPut bSup mput putL
  have hn : ¬ (bal mb 0 2 + 1 = 0) := by omega
  simp only [if_neg hn]
  rw [List.append_assoc]; rfl
structure PMs where
  mn : KV
  mx : KV
  mb : KV
  ms : KV
structure PMOK (Kn Kx Kb Ks : MK) (s : PMs) : Prop where
  n : KOK Kn s.mn
  x : KOK Kx s.mx
  b : KOK Kb s.mb
  s : KOK Ks s.ms
/-- What a try of the law comes to. -/
def TryM (Kx Kb Ks : MK) (fl : Bool) (mx mb ms : KV) (k v : Int) (e : Int) (mx' mb' ms' : KV) : Prop :=
  KOK Kx mx' ∧ KOK Kb mb' ∧ KOK Ks ms' ∧ ((fl = true ∧ e = 11 ∧ EqM mx' mx ∧ bal mb' 0 2 = bal mb 0 2 ∧ sup ms' 0 = sup ms 0) ∨ (fl = false ∧ e = 0 ∧ mx' = mset mx (.int .i64 k) (.int .i64 v) ∧ bal mb' 0 2 = bal mb 0 2 + 1 ∧ sup ms' 0 = sup ms 0 + 1))
theorem tryM_ok {Kx Kb Ks : MK} {mx mb ms : KV} {k v : Int} (nb : NumK Kb) (ns : NumK Ks) (ox : ∀ k : Int, Kx.OkK (.int .i64 k)) (vx : Kx.OkV (.int .i64 v)) (ob : Kb.OkK (kk 0 2)) (os : Ks.OkK (.int .u8 0)) (hx : KOK Kx mx) (hb : KOK Kb mb) (hs : KOK Ks ms) (h1 : sup ms 0 + 1 < M256) (h2 : bal mb 0 2 + 1 < M256) :
    TryM Kx Kb Ks false mx mb ms k v 0 (mset mx (.int .i64 k) (.int .i64 v)) (mset mb (kk 0 2) (vI (bal mb 0 2 + 1))) (mset ms (.int .u8 0) (vI (sup ms 0 + 1))) := by
  have hB : 0 ≤ bal mb 0 2 := (KOK.R4v nb hb _).1
  have hS : 0 ≤ sup ms 0 := (KOK.R4v ns hs _).1
  have rB : R4 (bal mb 0 2 + 1) := ⟨by omega, h2⟩
  have rS : R4 (sup ms 0 + 1) := ⟨by omega, h1⟩
  refine ⟨hx.set (ox k) vx, hb.set ob ((nb _).2 ⟨_, rB, rfl⟩), hs.set os ((ns _).2 ⟨_, rS, rfl⟩), .inr ⟨rfl, rfl, rfl, ?_, ?_⟩⟩
  · unfold bal; rw [mget_set, if_pos rfl]; exact num_vI rB
  · rw [sup_set _ rS, if_pos rfl]
theorem tryM_fail {Kx Kb Ks : MK} {mx mb ms mx' mb' ms' : KV} {k v : Int} {bx bm bs : Nat} {ex : Ent} {eb es : KV → Value → Ent} (hx : KOK Kx mx) (hb : KOK Kb mb) (hs : KOK Ks ms) (vx : MOK (mset mx (.int .i64 k) (.int .i64 v)))
    (hn : [bx, bm, bs].Nodup) (h1 : ex.b = bx) (k1 : ex.key = .int .i64 k) (w1 : ex.was = mget mx (.int .i64 k)) (h2 : (es ms (.int .u8 0)).b = bs) (k2 : (es ms (.int .u8 0)).key = .int .u8 0) (w2 : (es ms (.int .u8 0)).was = mget ms (.int .u8 0))
    (h3 : (eb mb (kk 0 2)).b = bm) (k3 : (eb mb (kk 0 2)).key = kk 0 2) (w3 : (eb mb (kk 0 2)).was = mget mb (kk 0 2)) {vb vs : Value}
    (ux : mx' = undoB bx [ex, es ms (.int .u8 0), eb mb (kk 0 2)] (mset mx (.int .i64 k) (.int .i64 v))) (ub : mb' = undoB bm [ex, es ms (.int .u8 0), eb mb (kk 0 2)] (mset mb (kk 0 2) vb)) (us : ms' = undoB bs [ex, es ms (.int .u8 0), eb mb (kk 0 2)] (mset ms (.int .u8 0) vs)) :
    TryM Kx Kb Ks true mx mb ms k v 11 mx' mb' ms' := by
  have d1 : bx ≠ bm ∧ bx ≠ bs ∧ bm ≠ bs := by
    simp only [List.nodup_cons, List.mem_cons, List.not_mem_nil, or_false, not_or, not_false_eq_true, and_true] at hn
    exact ⟨hn.1.1, hn.1.2, hn.2.1⟩
  have Ux : Und bx mx (mset mx (.int .i64 k) (.int .i64 v)) ((([] ++ [ex]) ++ [es ms (.int .u8 0)]) ++ [eb mb (kk 0 2)]) :=
    (((k1 ▸ (Und.nil bx mx).set h1 (by rw [w1, k1]) (.int .i64 v) : Und bx mx (mset mx (.int .i64 k) (.int .i64 v)) ([] ++ [ex]))).other (by rw [h2]; exact fun e => d1.2.1 e.symm)).other (by rw [h3]; exact fun e => d1.1 e.symm)
  have Us : Und bs ms (mset ms (.int .u8 0) vs) ((([] ++ [ex]) ++ [es ms (.int .u8 0)]) ++ [eb mb (kk 0 2)]) :=
    (((((Und.nil bs ms).other (e := ex) (by rw [h1]; exact d1.2.1)).snoc (m3 := mset ms (.int .u8 0) vs) h2 (by rw [w2, k2]) (fun q hq => by rw [k2] at hq; rw [mget_set, if_neg hq]))).other (by rw [h3]; exact d1.2.2))
  have Ub : Und bm mb (mset mb (kk 0 2) vb) ((([] ++ [ex]) ++ [es ms (.int .u8 0)]) ++ [eb mb (kk 0 2)]) :=
    ((((Und.nil bm mb).other (e := ex) (by rw [h1]; exact d1.1)).other (by rw [h2]; exact fun e => d1.2.2 e.symm)).snoc (m3 := mset mb (kk 0 2) vb) h3 (by rw [w3, k3]) (fun q hq => by rw [k3] at hq; rw [mget_set, if_neg hq]))
  obtain ⟨x1, x2⟩ := Ux _ vx (EqM.refl _)
  obtain ⟨b1, b2⟩ := Ub _ (hb.once.set _ _) (EqM.refl _)
  obtain ⟨s1, s2⟩ := Us _ (hs.once.set _ _) (EqM.refl _)
  have fx : EqM mx' mx := by rw [ux]; exact x2
  have fb : EqM mb' mb := by rw [ub]; exact b2
  have fs : EqM ms' ms := by rw [us]; exact s2
  refine ⟨hx.of_eq (by rw [ux]; exact x1) fx, hb.of_eq (by rw [ub]; exact b1) fb, hs.of_eq (by rw [us]; exact s1) fs, .inl ⟨rfl, rfl, fx, ?_, ?_⟩⟩
  · unfold bal; rw [fb]
  · unfold sup; rw [fs]
theorem undo3 {Kx Kb Ks : MK} {E : List Ent} {bx bm bs : Nat} {x b s x' b' s' : KV} (h : undoAll E [(Kx, bx, x), (Kb, bm, b), (Ks, bs, s)] = [(Kx, bx, x'), (Kb, bm, b'), (Ks, bs, s')]) : x' = undoB bx E x ∧ b' = undoB bm E b ∧ s' = undoB bs E s := by
  rw [undoAll_map] at h
  simp only [List.map_cons, List.map_nil, List.cons.injEq, Prod.mk.injEq, true_and, and_true] at h
  exact ⟨h.1.symm, h.2.1.symm, h.2.2.symm⟩
theorem tryM_of {Kx Kb Ks : MK} {mx mb ms mx' mb' ms' x1 : KV} {y : Int × BS} {k v e : Int} {fl : Bool} {bx bm bs : Nat} {ex : Ent} {eb es : KV → Value → Ent} (nb : NumK Kb) (ns : NumK Ks) (ox : ∀ k : Int, Kx.OkK (.int .i64 k)) (vx : Kx.OkV (.int .i64 v)) (ob : Kb.OkK (kk 0 2)) (os : Ks.OkK (.int .u8 0)) (hx : KOK Kx mx) (hb : KOK Kb mb) (hs : KOK Ks ms)
    (l1 : sup ms 0 + 1 < M256) (l2 : bal mb 0 2 + 1 < M256) (h1 : ex.b = bx) (k1 : ex.key = .int .i64 k) (w1 : ex.was = mget mx (.int .i64 k)) (h2 : (es ms (.int .u8 0)).b = bs) (k2 : (es ms (.int .u8 0)).key = .int .u8 0) (w2 : (es ms (.int .u8 0)).was = mget ms (.int .u8 0))
    (h3 : (eb mb (kk 0 2)).b = bm) (k3 : (eb mb (kk 0 2)).key = kk 0 2) (w3 : (eb mb (kk 0 2)).was = mget mb (kk 0 2)) (hd : x1 = mset mx (.int .i64 k) (.int .i64 v))
    (hy : y = (0, mset mb (kk 0 2) (vI (bal mb 0 2 + 1)), mset ms (.int .u8 0) (vI (sup ms 0 + 1)), [ex, es ms (.int .u8 0), eb mb (kk 0 2)])) (he : e = bif fl then 11 else y.1)
    (hn : [bx, bm, bs].Nodup) (hF : (e = 0 ∧ mx' = x1 ∧ mb' = y.2.1 ∧ ms' = y.2.2.1) ∨ (e ≠ 0 ∧ undoAll y.2.2.2 [(Kx, bx, x1), (Kb, bm, y.2.1), (Ks, bs, y.2.2.1)] = [(Kx, bx, mx'), (Kb, bm, mb'), (Ks, bs, ms')])) :
    TryM Kx Kb Ks fl mx mb ms k v e mx' mb' ms' := by
  subst hy hd
  cases fl with
  | false =>
    have he : e = 0 := he
    rcases hF with ⟨_, rfl, rfl, rfl⟩ | ⟨h0, _⟩
    · rw [he]; exact tryM_ok nb ns ox vx ob os hx hb hs l1 l2
    · exact absurd he h0
  | true =>
    have he : e = 11 := he
    rcases hF with ⟨h0, _⟩ | ⟨_, hu⟩
    · exact absurd (he.symm.trans h0) (by decide)
    · obtain ⟨u1, u2, u3⟩ := undo3 hu
      rw [he]
      exact tryM_fail hx hb hs (hx.once.set _ _) hn h1 k1 w1 h2 k2 w2 h3 k3 w3 u1 u2 u3
theorem tryM_wit {Kx Kb Ks : MK} {fl : Bool} {mx mb ms : KV} {k v : Int} (nb : NumK Kb) (ns : NumK Ks) (ox : ∀ k : Int, Kx.OkK (.int .i64 k)) (vx : Kx.OkV (.int .i64 v)) (ob : Kb.OkK (kk 0 2)) (os : Ks.OkK (.int .u8 0)) (hx : KOK Kx mx) (hb : KOK Kb mb) (hs : KOK Ks ms) (h1 : sup ms 0 + 1 < M256) (h2 : bal mb 0 2 + 1 < M256) :
    ∃ x : Int × KV × KV × KV × KV, TryM Kx Kb Ks fl mx mb ms k v x.1 x.2.2.1 x.2.2.2.1 x.2.2.2.2 := by
  cases fl with
  | true => exact ⟨(11, [], mx, mb, ms), hx, hb, hs, .inl ⟨rfl, rfl, EqM.refl _, rfl, rfl⟩⟩
  | false => exact ⟨(0, [], _, _, _), tryM_ok nb ns ox vx ob os hx hb hs h1 h2⟩
/-- A bool in the caller's memory. -/
def rdbool (s : Slot) (v : Value) (i : Nat) : Bool :=
  match s with
  | .par _ (.wld w) _ => match w.cell? ⟨vblk v, voff v + i, none⟩ with
    | some (.bool b) => b
    | _ => false
  | _ => false
theorem rdbool_eq {w : World} {v : Value} {xs : List Bool} {Ok : Bool → Prop} (h : SlX w 1 Value.bool Ok v xs) {i : Nat} {x : Bool} (hx : xs[i]? = some x) : rdbool (old w) v i = x := by
  obtain ⟨_, a, len, cap, rfl, hsp, hc⟩ := h.at hx
  have := hc 0 (.bool x) rfl
  obtain ⟨b, o, sp⟩ := a
  simp only [Nat.mul_one, Nat.add_zero] at this
  show (match w.cell? ⟨b, o + i, none⟩ with | some (.bool b) => b | _ => false) = x
  rw [this]
/-- The law's invariant. -/
structure PMI (Kx Kb Ks : MK) (i : Nat) (mx mb ms mv : KV) (sum : Int) : Prop where
  x : KOK Kx mx
  b : KOK Kb mb
  s : KOK Ks ms
  v : KOK Kx mv
  eq : EqM mx mv
  bal : bal mb 0 2 = sum
  sup : sup ms 0 = sum
  lo : 0 ≤ sum
  hi : sum ≤ i
theorem PMI.start {Kx Kb Ks : MK} : PMI Kx Kb Ks 0 [] [] [] [] 0 := ⟨KOK.nil, KOK.nil, KOK.nil, KOK.nil, EqM.refl _, bal_nil 0 2, sup_nil 0, Int.le_refl _, Int.le_refl _⟩
theorem PMI.fail {Kx Kb Ks : MK} {i : Nat} {mx mb ms mv mx' mb' ms' : KV} {sum k v e : Int} (h : PMI Kx Kb Ks i mx mb ms mv sum) (t : TryM Kx Kb Ks true mx mb ms k v e mx' mb' ms') : e = 11 ∧ PMI Kx Kb Ks (i + 1) mx' mb' ms' mv sum := by
  obtain ⟨h1, h2, h3, ⟨_, h4, h5, h6, h7⟩ | ⟨h4, _⟩⟩ := t
  · exact ⟨h4, h1, h2, h3, h.v, h5.trans h.eq, h6.trans h.bal, h7.trans h.sup, h.lo, by have := h.hi; omega⟩
  · cases h4
theorem PMI.done {Kx Kb Ks : MK} {i : Nat} {mx mb ms mv mx' mb' ms' : KV} {sum k v e : Int} (h : PMI Kx Kb Ks i mx mb ms mv sum) (ok : Kx.OkK (.int .i64 k)) (ov : Kx.OkV (.int .i64 v)) (t : TryM Kx Kb Ks false mx mb ms k v e mx' mb' ms') : e = 0 ∧ PMI Kx Kb Ks (i + 1) mx' mb' ms' (mset mv (.int .i64 k) (.int .i64 v)) (sum + 1) := by
  obtain ⟨h1, h2, h3, ⟨h4, _⟩ | ⟨_, h4, h5, h6, h7⟩⟩ := t
  · cases h4
  · exact ⟨h4, h1, h2, h3, h.v.set ok ov, by rw [h5]; exact h.eq.set _ _, by rw [h6, h.bal], by rw [h7, h.sup], by have := h.lo; omega, by have := h.hi; omega⟩
theorem PMI.own {Kx Kb Ks : MK} {i : Nat} {mx mb ms mv : KV} {sum : Int} (h : PMI Kx Kb Ks i mx mb ms mv sum) : PMI Kx Kb Ks i mx mb ms mv (Go.Sx.sup ms 0) := by rw [h.sup]; exact h
theorem tryM_e {Kx Kb Ks : MK} {fl : Bool} {mx mb ms mx' mb' ms' : KV} {k v e : Int} (t : TryM Kx Kb Ks fl mx mb ms k v e mx' mb' ms') : (fl = true ∧ e = 11) ∨ (fl = false ∧ e = 0) := by
  obtain ⟨_, _, _, ⟨h1, h2, _⟩ | ⟨h1, h2, _⟩⟩ := t
  · exact .inl ⟨h1, h2⟩
  · exact .inr ⟨h1, h2⟩
theorem wf_i64 {n : Int} (h0 : -9223372036854775808 ≤ n) (h1 : n ≤ 9223372036854775807) : (Lit.int .i64 n).wf = true := by
  simp [Lit.wf, IntKind.min, IntKind.max, IntKind.signed, IntKind.bits]; omega
theorem xboxv {P : Program} (t : TypeId) {v : Value} (hv : v.cells = #[v]) : OpT P (do pure (.value (← Instr.box t v))) [] Nat ptr (fun b => [.blk b (.cells #[v] t (0, 0))]) (fun _ => True) := by
  intro R w ho
  refine ⟨w.heap.size, w.alloc (.cells v.cells t (0, 0)), trivial, .inl ?_, ?_, ext_alloc _ _⟩
  · simp [Instr.box, ptr, newVar, newRow, Sem.run_bind, run_newObj_alloc, Result.andThen]
  · rw [← hv]
    refine (own_alloc ho 0 _).weaken fun k => ?_
    cases k with
    | zero => exact .inl rfl
    | succ k => exact .inl rfl
theorem SlX.cells {X : Type} {w : World} {n : Nat} {val : X → Value} {Ok : X → Prop} {v : Value} {xs : List X} (h : SlX w n val Ok v xs) : v.cells = #[v] := by
  rcases h.sl.form with rfl | ⟨a, len, cap, rfl⟩ <;> rfl
def F_mkmap : List Value → List Slot → Ctr := fun _ _ => ⟨Nat, fun b => .map (some b), fun b => [mo b []], fun _ => True⟩
theorem xmkmap {P : Program} {m : Sem Next} (h : symW P m [.nw 0] (ofList []) fun nx H _ => ∃ b, nx = .value (.map (some b)) ∧ H = upd (ofList []) 0 (.blk b (.map #[] 0))) :
    OpT P m [] Nat (fun b => .map (some b)) (fun b => [mo b []]) (fun _ => True) := by
  intro R w ho
  obtain ⟨nx, w', H', acc', hrun, ⟨b, rfl, rfl⟩, ho', he⟩ := symW_sound _ _ _ _ R w h ho
  refine ⟨b, w', trivial, .inl hrun, mo_new (l := []) _ _ ?_, he⟩
  refine (congrArg (fun H => Own H R w') ?_).mp ho'
  funext i; cases i <;> rfl
theorem num_one {s : Int} (h : W s) : num (vI (num (.agg #[.int .u64 s, .int .u64 0, .int .u64 0, .int .u64 0]))) = s := by
  rw [vI_num4 h (by unfold W; decide) (by unfold W; decide) (by unfold W; decide)]
  simp [num, numL, ci]
end Go.Sx
