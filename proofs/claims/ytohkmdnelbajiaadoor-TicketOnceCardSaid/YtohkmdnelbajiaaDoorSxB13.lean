/- Rows: slices of one-cell elements, each with its own block (or nil); laws of the operations on them. -/
import Derived.Test.YtohkmdnelbajiaaDoorSxB12
import Derived.ArgAppend
import Derived.Laws.MakeOwn
import Derived.Laws.Slices
set_option linter.unusedVariables false
set_option linter.unusedSimpArgs false
namespace Go.Sx
inductive Row where
  | nil
  | mk (b : Nat) (vs ex : List Value)
def sv : Row → Value
  | .nil => .slice none 0 0
  | .mk b vs ex => .slice (some ⟨b, 0, none⟩) vs.length (vs.length + ex.length)
def ss (e : TypeId) : Row → Slot
  | .nil => .free
  | .mk b vs ex => .blk b (.cells (vs ++ ex).toArray e (0, 0))
def vals : Row → List Value
  | .nil => []
  | .mk _ vs _ => vs
def rvals (v : Value) (s : Slot) : List Value := (scells s).toList.take (vlen v)
theorem rvals_eq (r : Row) (e : TypeId) : rvals (sv r) (ss e r) = vals r := by
  cases r with
  | nil => rfl
  | mk b vs ex => simp [rvals, sv, ss, vals, vlen, scells]
theorem vlen_sv (r : Row) : vlen (sv r) = (vals r).length := by cases r <;> rfl
structure SlT (P : Program) (t e : TypeId) (z : Value) : Prop where
  und : P.underlying t = some (.slice e)
  elem : P.elem t = e
  info : ∃ i, P.info? e = some i ∧ i.zero = some z ∧ i.size = 1 ∧ i.bytes ≤ 4096
  zc : z.cells = #[z]
theorem SlT.of {P : Program} {t e : TypeId} {z : Value} (h1 : P.underlying t = some (.slice e)) (h2 : P.elem t = e) (h3 : (P.info? e).bind (·.zero) = some z) (h4 : (P.info? e).map (fun i => (i.size, Nat.ble i.bytes 4096)) = some (1, true)) (h5 : z.cells = #[z]) : SlT P t e z := by
  refine ⟨h1, h2, ?_, h5⟩
  cases hi : P.info? e with
  | none => rw [hi] at h3; cases h3
  | some i =>
    rw [hi] at h3 h4
    simp at h3 h4
    exact ⟨i, rfl, h3, h4.1, h4.2⟩
theorem SlT.size {P : Program} {t e : TypeId} {z : Value} (h : SlT P t e z) (w : World) : (sizeOf e).run P w = .ok 1 w := by
  obtain ⟨i, hi, hz, hs, hb⟩ := h.info
  simp [sizeOf, typeInfo, hi, hs]
/-! ### The length -/
def xLen (t : TypeId) (x : Value) : Sem Next := do pure (.value (← Builtin.len_ #[t] 3 #[x]))
def f_len : List Value → Value := fun vs => .int .i64 ((vlen (varg vs 0) : Nat) : Int)
theorem xlen {P : Program} {t e : TypeId} {z : Value} (h : SlT P t e z) (ty : TypeId) (r : Row) : PureRun P (do pure (.value (← Builtin.len_ #[t] ty #[sv r]))) (.int .i64 ((vlen (sv r) : Nat) : Int)) := by
  intro w
  cases r <;> simp [Builtin.len_, run_underlying h.und, sv, vlen, goInt]
/-! ### An element's address -/
def f_idx : List Value → Value := fun vs => .pointer (some ⟨vblk (varg vs 0), (ci (varg vs 1)).toNat, none⟩)
theorem xidx {P : Program} {t e : TypeId} {z : Value} (h : SlT P t e z) (r : Row) (k : IntKind) (i : Int) (h0 : 0 ≤ i) (h1 : i < ((vals r).length : Nat)) :
    PureRun P (do pure (.value (← Instr.indexAt t (sv r) (.int k i)))) (.pointer (some ⟨vblk (sv r), i.toNat, none⟩)) := by
  intro w
  cases r with
  | nil => simp [vals] at h1; omega
  | mk b vs ex =>
    have hc : 0 ≤ i ∧ i < (vs.length : Int) := ⟨h0, h1⟩
    simp [Instr.indexAt, run_underlying h.und, sv, asIntOf, hc, h.size w, vblk, Addr.add]
    omega
/-! ### Reading, writing -/
theorem ofList_one (s : Slot) : ofList [s] 0 = s := rfl
theorem xget {P : Program} {e : TypeId} (r : Row) (te : TypeId) (ha : ∀ w, (isAgg te).run P w = .ok false w) (n : Nat) (x : Value) (hx : (vals r)[n]? = some x) :
    OpT P (do pure (.value (← Instr.loadAt te (.pointer (some ⟨vblk (sv r), n, none⟩))))) [ss e r] Unit (fun _ => x) (fun _ => [ss e r]) (fun _ => True) := by
  intro R w h
  cases r with
  | nil => simp [vals] at hx
  | mk b vs ex =>
    have hb := h.block (i := 0) rfl
    have hc : w.cell? ⟨b, n, none⟩ = some x := by
      have hn : n < vs.length := by
        rcases Nat.lt_or_ge n vs.length with h | h
        · exact h
        · simp [vals, List.getElem?_eq_none h] at hx
      simp only [vals] at hx
      simp [World.cell?, hb, List.getElem?_append_left hn, hx]
    refine ⟨(), w, trivial, .inl ?_, h, Ext.refl w⟩
    simp [Instr.loadAt, Instr.sureAddr, vblk, sv, loadVar, Sem.run_bind, ha, hc]
def sset (s : Slot) (n : Nat) (v : Value) : Slot := match s with | .blk b (.cells cs t f) => .blk b (.cells (cs.setIfInBounds n v) t f) | s => s
def Row.set : Row → Nat → Value → Row
  | .nil, _, _ => .nil
  | .mk b vs ex, n, v => .mk b (vs.set n v) ex
theorem sv_set (r : Row) (n : Nat) (v : Value) : sv (r.set n v) = sv r := by cases r <;> simp [Row.set, sv]
theorem vals_set (r : Row) (n : Nat) (v : Value) : vals (r.set n v) = (vals r).set n v := by cases r <;> simp [Row.set, vals]
theorem ss_set (r : Row) (e : TypeId) (n : Nat) (v : Value) (h : n < (vals r).length) : sset (ss e r) n v = ss e (r.set n v) := by
  cases r with
  | nil => rfl
  | mk b vs ex =>
    simp only [vals] at h
    simp [sset, ss, Row.set, List.set_append, h]
theorem xput {P : Program} {e : TypeId} (r : Row) (te : TypeId) (hs : ∀ w, (sizeOf te).run P w = .ok 1 w) (n : Nat) (v : Value) (h1 : v.cells = #[v]) (h2 : v.oneCell' = true) (hn : n < (vals r).length) :
    OpT P (do Instr.storeAt te (.pointer (some ⟨vblk (sv r), n, none⟩)) v; pure .skip) [ss e r] Unit (fun _ => undef) (fun _ => [sset (ss e r) n v]) (fun _ => True) := by
  intro R w h
  cases r with
  | nil => simp [vals] at hn
  | mk b vs ex =>
    simp only [vals] at hn
    have hb := h.block (i := 0) rfl
    have hc : w.cell? ⟨b, n, none⟩ = some vs[n] := by
      simp [World.cell?, hb, List.getElem?_append_left hn, hn]
    have hf : w.frozen? ⟨b, n, none⟩ = false := frozen_of_row w b n _ e hb
    have hst : (store ⟨b, n, none⟩ v).run P w = .ok () (w.setCell ⟨b, n, none⟩ v) := by rw [run_store P w _ v _ h2, hc]; simp [hf]
    have hh := heap_setCell_same w b n _ e v hb
    refine ⟨(), w.setCell ⟨b, n, none⟩ v, trivial, .inr ⟨?_, rfl⟩, ?_, ?_⟩
    · simp [Instr.storeAt, Instr.sureAddr, vblk, sv, storeVar, Sem.run_bind, hs, h1, storeCells, Addr.add, hst]
    · have := h.set (i := 0) (b := b) rfl hh (fun c hc => heap_setCell_other w _ c v hc)
      refine (congrArg (fun H => Own H R (w.setCell ⟨b, n, none⟩ v)) ?_).mp this
      funext i
      cases i <;> rfl
    · exact ⟨rfl, rfl, rfl, by simp⟩
/-! ### Appending one element -/
def Row.lenOK (r : Row) : Prop := (vals r).length ≤ 1099511627776
theorem xappend {P : Program} {t e : TypeId} {z : Value} (h : SlT P t e z) (ty : TypeId) (r : Row) (hl : (vals r).length ≤ 1073741824) (c m : Nat) (x : Value) (h2 : x.oneCell' = true) :
    OpT P (do pure (.value (← Builtin.append_ #[t, t] ty #[sv r, .slice (some ⟨c, 0, none⟩) 1 m]))) [ss e r, .blk c (.cells #[x] e (0, 0))] Row sv (fun y => [ss e y, .blk c (.cells #[x] e (0, 0))]) (fun y => vals y = vals r ++ [x]) := by
  intro R w h0
  obtain ⟨i, hi, hz, hs, hby⟩ := h.info
  have hc := h0.block (i := 1) rfl
  have hnews : ∀ j u, [x][j]? = some u → w.cell? ((⟨c, 0, none⟩ : Addr).add j) = some u := by
    intro j u hu
    have hj : j = 0 := by
      cases j with
      | zero => rfl
      | succ j => simp at hu
    subst hj
    simp at hu; subst hu
    simp [World.cell?, Addr.add, hc]
  have upd1 : ∀ (s : Slot), upd (ofList [ss e r, .blk c (.cells #[x] e (0, 0))]) 0 s = ofList [s, .blk c (.cells #[x] e (0, 0))] := by
    intro s; funext i
    cases i with
    | zero => rfl
    | succ i => cases i <;> rfl
  have fresh : ∀ (o : Obj), Own (ofList [.blk w.heap.size o, .blk c (.cells #[x] e (0, 0))]) R (w.drew.alloc o) := by
    intro o
    have := h0.new (w' := w.drew.alloc o) (i := 0) (o := o) (heap_alloc_new w.drew o) (fun c hc => heap_alloc_old w.drew o c hc)
    rw [upd1] at this
    exact this
  have ext : ∀ (o : Obj), Ext w (w.drew.alloc o) := fun o => ⟨rfl, rfl, rfl, by simp⟩
  have zl : ∀ n, ∃ ex : List Value, Builtin.zeroCells z.cells n = ex.toArray ∧ ex.length = n := by
    intro n
    refine ⟨(Builtin.zeroCells z.cells n).toList, by simp, ?_⟩
    rw [Array.length_toList, size_zeroCells, h.zc]; simp
  cases r with
  | nil =>
    have hr := run_append_nil (P := P) w t ty e i z h.und hi hz ⟨c, 0, none⟩ 1 m [x] (by simp [hs]) hnews (by decide) (by decide) (by omega)
    obtain ⟨ex, he, hx⟩ := zl (grownCap w 1 0 e - 1)
    have hge := grownCap_ge w 1 0 e
    rw [he] at hr
    refine ⟨.mk w.heap.size [x] ex, _, rfl, .inl ?_, fresh _, ext _⟩
    · simp only [sv]
      show (Sem.run P (Builtin.append_ _ _ _ >>= _) w) = _
      rw [Sem.run_bind, hr]
      have : 1 + ex.length = grownCap w 1 0 e := by omega
      simp [this]
  | mk b vs ex =>
    simp only [vals] at hl
    have hb := h0.block (i := 0) rfl
    by_cases hroom : vs.length + 1 ≤ vs.length + ex.length
    · have hcell : ∀ j, j < [x].length → (w.cell? ⟨b, 0 + vs.length * i.size + j, none⟩).isSome = true := by
        intro j hj
        have hj : j = 0 := by simp at hj; exact hj
        subst hj
        rw [hs]
        have : vs.length < (vs ++ ex).length := by simp; omega
        simp [World.cell?, hb, List.getElem?_eq_getElem this]
      have hr := run_append_room_cells (P := P) w t ty e i h.und hi b 0 vs.length (vs.length + ex.length) ⟨c, 0, none⟩ 1 m [x] (by simp [hs]) hnews (by simpa using h2) hroom hcell (fun j hj => frozen_of_row w b _ _ e hb)
      rw [hs, Nat.mul_one, Nat.zero_add] at hr
      cases ex with
      | nil => exact absurd hroom (by simp)
      | cons e0 ex =>
        have hh := heap_setCell_same w b vs.length _ e x hb
        have hset : ((vs ++ e0 :: ex).toArray.setIfInBounds vs.length x) = (vs ++ [x] ++ ex).toArray := by simp
        rw [hset] at hh
        refine ⟨.mk b (vs ++ [x]) ex, w.setCell ⟨b, vs.length, none⟩ x, rfl, .inl ?_, ?_, ⟨rfl, rfl, rfl, by simp⟩⟩
        · simp only [sv]
          rw [Sem.run_bind, hr]
          simp [World.setCells, Nat.add_comm, Nat.add_left_comm]
        · have := h0.set (i := 0) (b := b) rfl hh (fun c hc => heap_setCell_other w _ c x hc)
          rw [upd1] at this
          exact this
    · have hex : ex = [] := by cases ex with
        | nil => rfl
        | cons a l => simp at hroom
      subst hex
      have holds : ∀ j u, vs[j]? = some u → w.cell? ((⟨b, 0, none⟩ : Addr).add j) = some u := by
        intro j u hu
        have hj : j < vs.length := by
          rcases Nat.lt_or_ge j vs.length with h | h
          · exact h
          · simp [List.getElem?_eq_none h] at hu
        have : (⟨b, 0, none⟩ : Addr).add j = ⟨b, 0 + j, none⟩ := Addr.add_lit ..
        rw [this]
        simp at hb
        simp [World.cell?, hb, hu]
      have hfit : Builtin.nextslicecap (vs.length + 1) (vs.length + ([] : List Value).length) * i.bytes ≤ 281474976710656 := by
        refine growslice_fits (by simp) ?_
        have : (vs.length + 1) * i.bytes ≤ 1073741825 * 4096 := Nat.mul_le_mul (by omega) hby
        omega
      have hr := run_append_grow (P := P) w t ty e i z h.und hi hz ⟨b, 0, none⟩ vs.length (vs.length + ([] : List Value).length) vs (by simp [hs]) holds ⟨c, 0, none⟩ 1 m [x] (by simp [hs]) hnews (by simp) (by omega) hfit
      obtain ⟨ex, he, hx⟩ := zl (grownCap w (vs.length + 1) (vs.length + ([] : List Value).length) e - (vs.length + 1))
      have hge := grownCap_ge w (vs.length + 1) (vs.length + ([] : List Value).length) e
      rw [he] at hr
      refine ⟨.mk w.heap.size (vs ++ [x]) ex, w.drew.alloc (.cells (vs.toArray ++ #[x] ++ ex.toArray) e), rfl, .inl ?_, ?_, ext _⟩
      · simp only [sv]
        rw [Sem.run_bind, hr]
        have e1 : (vs ++ [x]).length = vs.length + 1 := by simp
        have e2 : (vs ++ [x]).length + ex.length = grownCap w (vs.length + 1) (vs.length + ([] : List Value).length) e := by rw [e1]; omega
        rw [e2, e1]; rfl
      · have := fresh (.cells (vs.toArray ++ #[x] ++ ex.toArray) e)
        have e3 : vs.toArray ++ #[x] ++ ex.toArray = (vs ++ [x] ++ ex).toArray := by simp
        rw [e3] at this ⊢
        exact this
/-! ### The first elements -/
def Row.take : Row → Nat → Row
  | .nil, _ => .nil
  | .mk b vs ex, n => .mk b (vs.take n) (vs.drop n ++ ex)
theorem vals_take (r : Row) (n : Nat) : vals (r.take n) = (vals r).take n := by cases r <;> simp [Row.take, vals]
theorem ss_take (r : Row) (e : TypeId) (n : Nat) : ss e (r.take n) = ss e r := by
  cases r with
  | nil => rfl
  | mk b vs ex => simp [Row.take, ss, ← List.append_assoc]
def vtake (v : Value) (n : Nat) : Value := match v with | .slice a _ c => .slice a n c | v => v
theorem vtake_sv (r : Row) (n : Nat) (h : n ≤ (vals r).length) : vtake (sv r) n = sv (r.take n) := by
  cases r with
  | nil => simp [vals] at h; subst h; rfl
  | mk b vs ex =>
    simp only [vals] at h
    simp [vtake, sv, Row.take, List.length_take, Nat.min_eq_left h]; omega
def f_take : List Value → Value := fun vs => vtake (varg vs 0) (ci (varg vs 1)).toNat
theorem xtake {P : Program} {t e : TypeId} {z : Value} (h : SlT P t e z) (r : Row) (k : IntKind) (n : Int) (h0 : 0 ≤ n) (h1 : n ≤ ((vals r).length : Nat)) :
    PureRun P (do pure (.value (← Instr.sliceAt t (sv r) none (some (.int k n)) none))) (vtake (sv r) n.toNat) := by
  intro w
  have hu : P.underlying t = some (.slice (P.elem t)) := by rw [h.elem]; exact h.und
  have hs := h.size w
  rw [← h.elem] at hs
  have key : ∀ (a : Option Addr) (l c : Nat), sv r = .slice a l c → (a.map (·.add 0) = a) → n ≤ (c : Int) → (Instr.sliceAt t (sv r) none (some (.int k n)) none).run P w = .ok (vtake (sv r) n.toNat) w := by
    intro a l c hv ha hc
    rw [hv, run_sliceAt_slice w t _ _ _ _ hu, run_slice_h w t a l c hu k n h0 hc, hs]
    show Result.ok (sliced a 0 n.toNat c 1) w = _
    unfold sliced vtake
    simp [ha]
  have hk : (Instr.sliceAt t (sv r) none (some (.int k n)) none).run P w = .ok (vtake (sv r) n.toNat) w := by
    cases r with
    | nil =>
      simp only [vals, List.length_nil] at h1
      exact key none 0 0 rfl rfl (by omega)
    | mk b vs ex =>
      simp only [vals] at h1
      exact key _ _ _ rfl (by simp [Addr.add]) (by omega)
  rw [Sem.run_bind, hk]; rfl
/-! ### A new row -/
theorem xmake {P : Program} {t e : TypeId} {z : Value} (h : SlT P t e z) (k : IntKind) (n : Int) (h0 : 0 ≤ n) (h1 : n ≤ 1073741824) :
    OpT P (do pure (.value (← Instr.makeSlice t (.int k n) (.int k n)))) [] Row sv (fun y => [ss e y]) (fun y => vals y = List.replicate n.toNat z) := by
  intro R w hO
  obtain ⟨i, hi, hz, hs, hby⟩ := h.info
  have hr := run_make (P := P) w t e i z h.und hi hz k k n n h0 (by omega) (by
    have : (i.bytes : Int) * n ≤ 4096 * 1073741824 := Int.mul_le_mul (by omega) h1 h0 (by decide)
    omega) (by omega)
  have hm : madeCells z.cells (n.toNat * i.size) = (List.replicate n.toNat z).toArray := by
    rw [hs, Nat.mul_one, h.zc]
    apply Array.ext
    · simp [madeCells]
    · intro j h1 h2; simp [madeCells, Nat.mod_one]
  rw [hm] at hr
  refine ⟨.mk w.heap.size (List.replicate n.toNat z) [], w.alloc (.cells (List.replicate n.toNat z).toArray e), rfl, .inl ?_, ?_, ?_⟩
  · rw [Sem.run_bind, hr]; simp [sv]
  · have := hO.new (w' := w.alloc (.cells (List.replicate n.toNat z).toArray e)) (i := 0) (heap_alloc_new w _) (fun c hc => heap_alloc_old w _ c hc)
    refine (congrArg (fun H => Own H R (w.alloc (.cells (List.replicate n.toNat z).toArray e))) ?_).mp this
    funext i
    cases i with
    | zero => simp [upd, ofList, ss]
    | succ i => rfl
  · exact ⟨rfl, rfl, rfl, by simp⟩
end Go.Sx
