/- Bytes: appending many elements, zeros; slices with open bounds; nil or not; package variables in the caller's memory; arrays as values. -/
import Derived.Test.YtohkmdnelbajiaaDoorSxE6
import Derived.Test.YtohkmdnelbajiaaDoorSxD1
set_option linter.unusedVariables false
set_option linter.unusedSimpArgs false
namespace Go.Sx
open Go.RowKit
def srcv (x : Value) (s : Slot) : List Value := ((scells s).toList.drop (voff x)).take (vlen x)
def F_appN (e : TypeId) : List Value → List Slot → Ctr := fun vs hs => ⟨Row, fun y => sv y, fun y => [ss e y, sarg hs 1], fun y => vals y = rvals (varg vs 0) (sarg hs 0) ++ srcv (varg vs 1) (sarg hs 1)⟩
theorem upd_two (s t u : Slot) : upd (ofList [t, u]) 0 s = ofList [s, u] := by
  funext i
  cases i with
  | zero => rfl
  | succ i => cases i <;> rfl
theorem zl_of {z : Value} (hz : z.cells = #[z]) (n : Nat) : ∃ ex : List Value, Builtin.zeroCells z.cells n = ex.toArray ∧ ex.length = n := by
  refine ⟨(Builtin.zeroCells z.cells n).toList, by simp, ?_⟩
  rw [Array.length_toList, size_zeroCells, hz]; simp
theorem zeros_of {z : Value} (hz : z.cells = #[z]) (n : Nat) : Builtin.zeroCells z.cells n = (List.replicate n z).toArray := by
  apply Array.ext
  · simp [Builtin.zeroCells, hz]
  · intro j h1 h2
    simp [Builtin.zeroCells, hz, Nat.mod_one]
theorem own_setCells {e : TypeId} {b : Nat} {R : HP} : ∀ (news : List Value) (pre olds post : List Value) (H : Hp) (w : World) (i : Nat), Own H R w → H i = .blk b (.cells (pre ++ olds ++ post).toArray e (0, 0)) → olds.length = news.length →
    Own (upd H i (.blk b (.cells (pre ++ news ++ post).toArray e (0, 0)))) R (w.setCells b pre.length news) ∧ Ext w (w.setCells b pre.length news)
  | [], pre, olds, post, H, w, i, ho, hi, hl => by
    have h0 : olds = [] := List.length_eq_zero_iff.1 hl
    subst h0
    refine ⟨?_, Ext.refl w⟩
    rw [← hi]
    have : upd H i (H i) = H := by funext j; unfold upd; cases h : Nat.beq j i <;> simp; rw [Nat.beq_eq] at h; rw [h]
    rw [this]; exact ho
  | v :: r, pre, [], post, H, w, i, ho, hi, hl => by simp at hl
  | v :: r, pre, o :: olds, post, H, w, i, ho, hi, hl => by
    have hb := ho.block hi
    have hh := heap_setCell_same w b pre.length _ e v hb
    have hset : ((pre ++ o :: olds ++ post).toArray.setIfInBounds pre.length v) = ((pre ++ [v]) ++ olds ++ post).toArray := by simp
    rw [hset] at hh
    have h1 := ho.set (i := i) (b := b) hi hh (fun c hc => heap_setCell_other w _ c v hc)
    have h2 := own_setCells r (pre ++ [v]) olds post (upd H i (.blk b (.cells ((pre ++ [v]) ++ olds ++ post).toArray e (0, 0)))) (w.setCell ⟨b, pre.length, none⟩ v) i h1 (by unfold upd; rw [Nat.beq_refl]; rfl) (by simpa using hl)
    have e1 : (pre ++ [v]).length = pre.length + 1 := by simp
    have e2 : ∀ s, upd (upd H i (.blk b (.cells ((pre ++ [v]) ++ olds ++ post).toArray e (0, 0)))) i s = upd H i s := by
      intro s; funext j; unfold upd; cases Nat.beq j i <;> rfl
    rw [e1, e2, List.append_assoc pre [v] r] at h2
    have h3 : Ext w (w.setCell ⟨b, pre.length, none⟩ v) := ⟨rfl, rfl, rfl, by simp⟩
    have h4 : w.setCells b pre.length (v :: r) = (w.setCell ⟨b, pre.length, none⟩ v).setCells b (pre.length + 1) r := by rw [World.setCells]
    rw [h4]
    exact ⟨h2.1, h3.trans h2.2⟩
theorem xappN {P : Program} {t e : TypeId} {z : Value} (h : SlT P t e z) (ty : TypeId) (r : Row) (hl : (vals r).length ≤ 1073741824) {c o m cap : Nat} {cs : Array Value} {te : TypeId} {news : List Value} (hm : news.length = m) (hm1 : m ≤ 1073741824)
    (hc : ∀ j u, news[j]? = some u → cs[o + j]? = some u) (h2 : ∀ u ∈ news, u.oneCell' = true) :
    OpT P (do pure (.value (← Builtin.append_ #[t, t] ty #[sv r, .slice (some ⟨c, o, none⟩) m cap]))) [ss e r, .blk c (.cells cs te (0, 0))] Row sv (fun y => [ss e y, .blk c (.cells cs te (0, 0))]) (fun y => vals y = vals r ++ news) := by
  intro R w h0
  obtain ⟨i, hi, hz, hs, hby⟩ := h.info
  have hcb := h0.block (i := 1) rfl
  have hnews : ∀ j u, news[j]? = some u → w.cell? ((⟨c, o, none⟩ : Addr).add j) = some u := by
    intro j u hu
    have : (⟨c, o, none⟩ : Addr).add j = ⟨c, o + j, none⟩ := Addr.add_lit ..
    rw [this, cell_of_block hcb rfl]
    exact hc j u hu
  rcases Nat.eq_zero_or_pos m with hm0 | hm0
  · subst hm0
    have hn : news = [] := List.length_eq_zero_iff.1 hm
    subst hn
    refine ⟨r, w, by simp, .inl ?_, h0, Ext.refl w⟩
    have hlc : (loadCells ⟨c, o, none⟩ 0).run P w = .ok #[] w := by simpa using run_loadCells_list (P := P) w ⟨c, o, none⟩ [] (by simp)
    cases r with
    | nil => simp [sv, Builtin.append_, run_underlying h.und, sizeOf, typeInfo, hi, Builtin.lenOf, Builtin.firstCells, hs, hlc, Result.andThen]
    | mk b vs ex =>
      have hr0 := run_firstCells_some (P := P) w 1 0 ⟨c, o, none⟩ 0 cap [] rfl (by simp)
      simp [sv, Builtin.append_, run_underlying h.und, sizeOf, typeInfo, hi, Builtin.lenOf, hs, hr0, storeCells]
  have fresh : ∀ (o' : Obj), Own (ofList [.blk w.heap.size o', .blk c (.cells cs te (0, 0))]) R (w.drew.alloc o') := by
    intro o'
    have := h0.new (w' := w.drew.alloc o') (i := 0) (o := o') (heap_alloc_new w.drew o') (fun c hc => heap_alloc_old w.drew o' c hc)
    rw [upd_two] at this
    exact this
  have ext : ∀ (o : Obj), Ext w (w.drew.alloc o) := fun o => ⟨rfl, rfl, rfl, by simp⟩
  cases r with
  | nil =>
    have hr := run_append_nil (P := P) w t ty e i z h.und hi hz ⟨c, o, none⟩ m cap news (by simp [hs, hm]) hnews hm0 (by omega) (by
      have : m * i.bytes ≤ 1073741824 * 4096 := Nat.mul_le_mul hm1 hby
      omega)
    obtain ⟨ex, he, hx⟩ := zl_of h.zc (grownCap w m 0 e - m)
    have hge := grownCap_ge w m 0 e
    rw [he] at hr
    refine ⟨.mk w.heap.size news ex, w.drew.alloc (.cells (news.toArray ++ ex.toArray) e), by simp [vals], .inl ?_, ?_, ext _⟩
    · simp only [sv]
      show (Sem.run P (Builtin.append_ _ _ _ >>= _) w) = _
      rw [Sem.run_bind, hr]
      have : news.length + ex.length = grownCap w m 0 e := by omega
      rw [this, hm]; rfl
    · have := fresh (.cells (news.toArray ++ ex.toArray) e)
      simpa [ss] using this
  | mk b vs ex =>
    simp only [vals] at hl
    have hb := h0.block (i := 0) rfl
    by_cases hroom : vs.length + m ≤ vs.length + ex.length
    · have hcell : ∀ j, j < news.length → (w.cell? ⟨b, 0 + vs.length * i.size + j, none⟩).isSome = true := by
        intro j hj
        rw [hs]
        have : 0 + vs.length * 1 + j < (vs ++ ex).length := by simp; omega
        simp [World.cell?, hb, List.getElem?_eq_getElem this]
        omega
      have hr := run_append_room_cells (P := P) w t ty e i h.und hi b 0 vs.length (vs.length + ex.length) ⟨c, o, none⟩ m cap news (by simp [hs, hm]) hnews h2 hroom hcell (fun j hj => frozen_of_row w b _ _ e hb)
      rw [hs, Nat.mul_one, Nat.zero_add] at hr
      obtain ⟨olds, ex', hex, hol⟩ : ∃ olds ex', ex = olds ++ ex' ∧ olds.length = news.length := ⟨ex.take m, ex.drop m, (List.take_append_drop m ex).symm, by simp; omega⟩
      subst hex
      have hset := own_setCells (e := e) (b := b) (R := R) news vs olds ex' _ w 0 h0 (by simp [ofList, ss]) hol
      refine ⟨.mk b (vs ++ news) ex', w.setCells b vs.length news, rfl, .inl ?_, ?_, hset.2⟩
      · simp only [sv]
        rw [Sem.run_bind, hr]
        have e1 : (vs ++ news).length = vs.length + m := by simp [hm]
        have e2 : (vs ++ news).length + ex'.length = vs.length + (olds ++ ex').length := by simp; omega
        rw [e2, e1]; rfl
      · have := hset.1
        rw [upd_two] at this
        exact this
    · have holds : ∀ j u, vs[j]? = some u → w.cell? ((⟨b, 0, none⟩ : Addr).add j) = some u := by
        intro j u hu
        have hj : j < vs.length := by
          rcases Nat.lt_or_ge j vs.length with h | h
          · exact h
          · simp [List.getElem?_eq_none h] at hu
        have : (⟨b, 0, none⟩ : Addr).add j = ⟨b, 0 + j, none⟩ := Addr.add_lit ..
        rw [this]
        simp [World.cell?, hb, hu, List.getElem?_append_left hj]
      have hfit : Builtin.nextslicecap (vs.length + m) (vs.length + ex.length) * i.bytes ≤ 281474976710656 := by
        refine growslice_fits (by omega) ?_
        have : (vs.length + m) * i.bytes ≤ 2147483648 * 4096 := Nat.mul_le_mul (by omega) hby
        omega
      have hr := run_append_grow (P := P) w t ty e i z h.und hi hz ⟨b, 0, none⟩ vs.length (vs.length + ex.length) vs (by simp [hs]) holds ⟨c, o, none⟩ m cap news (by simp [hs, hm]) hnews (by omega) (by omega) hfit
      obtain ⟨ex', he, hx⟩ := zl_of h.zc (grownCap w (vs.length + m) (vs.length + ex.length) e - (vs.length + m))
      have hge := grownCap_ge w (vs.length + m) (vs.length + ex.length) e
      rw [he] at hr
      refine ⟨.mk w.heap.size (vs ++ news) ex', w.drew.alloc (.cells (vs.toArray ++ news.toArray ++ ex'.toArray) e), rfl, .inl ?_, ?_, ext _⟩
      · simp only [sv]
        rw [Sem.run_bind, hr]
        have e1 : (vs ++ news).length = vs.length + m := by simp [hm]
        have e2 : (vs ++ news).length + ex'.length = grownCap w (vs.length + m) (vs.length + ex.length) e := by rw [e1]; omega
        rw [e2, e1]; rfl
      · have := fresh (.cells (vs.toArray ++ news.toArray ++ ex'.toArray) e)
        have e3 : vs.toArray ++ news.toArray ++ ex'.toArray = (vs ++ news ++ ex').toArray := by simp
        rw [e3] at this ⊢
        exact this
end Go.Sx
