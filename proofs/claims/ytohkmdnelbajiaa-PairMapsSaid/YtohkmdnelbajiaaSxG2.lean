/- Taking back: what a journal's entries undo (the plain part). -/
import Derived.Test.YtohkmdnelbajiaaSxE6
import Derived.Test.YtohkmdnelbajiaaSxG1
set_option linter.unusedVariables false
set_option linter.unusedSimpArgs false
namespace Go.Sx
open Go.RowKit
/-! ### The rest of a row -/
def vdrop (v : Value) (m : Nat) : Value := match v with | .slice a l c => sliced a m l c 1 | v => v
theorem vlen_drop (r : Row) (m : Nat) : vlen (vdrop (sv r) m) = (vals r).length - m := by cases r <;> simp [vdrop, sv, sliced, vlen, vals]
theorem xdrop {P : Program} {t e : TypeId} {z : Value} (h : SlT P t e z) (r : Row) (k : IntKind) (n : Int) (h0 : 0 ≤ n) (h1 : n ≤ ((vals r).length : Nat)) :
    PureRun P (do pure (.value (← Instr.sliceAt t (sv r) (some (.int k n)) none none))) (vdrop (sv r) n.toNat) := by
  intro w
  have hu : P.underlying t = some (.slice (P.elem t)) := by rw [h.elem]; exact h.und
  have hs := h.size w
  rw [← h.elem] at hs
  have key : ∀ (a : Option Addr) (l c : Nat), sv r = .slice a l c → n ≤ (l : Int) → (Instr.sliceAt t (sv r) (some (.int k n)) none none).run P w = .ok (vdrop (sv r) n.toNat) w := by
    intro a l c hv hc
    rw [hv, run_sliceAt_slice w t _ _ _ _ hu, run_slice_l w t a l c hu k n h0 hc, hs]
    rfl
  have hk : (Instr.sliceAt t (sv r) (some (.int k n)) none none).run P w = .ok (vdrop (sv r) n.toNat) w := by
    cases r with
    | nil => exact key none 0 0 rfl h1
    | mk b vs ex => exact key _ _ _ rfl h1
  rw [Sem.run_bind, hk]; rfl
theorem xdlen {P : Program} {t e : TypeId} {z : Value} (h : SlT P t e z) (ty : TypeId) (r : Row) (m : Nat) : PureRun P (do pure (.value (← Builtin.len_ #[t] ty #[vdrop (sv r) m]))) (.int .i64 ((vlen (vdrop (sv r) m) : Nat) : Int)) := by
  intro w
  cases r <;> simp [Builtin.len_, run_underlying h.und, sv, vdrop, sliced, vlen, goInt]
theorem xdidx {P : Program} {t e : TypeId} {z : Value} (h : SlT P t e z) (r : Row) (m : Nat) (k : IntKind) (i : Int) (h0 : 0 ≤ i) (h1 : i < ((vlen (vdrop (sv r) m) : Nat) : Int)) :
    PureRun P (do pure (.value (← Instr.indexAt t (vdrop (sv r) m) (.int k i)))) (.pointer (some ⟨vblk (sv r), m + i.toNat, none⟩)) := by
  intro w
  rw [vlen_drop] at h1
  cases r with
  | nil => simp [vals] at h1; omega
  | mk b vs ex =>
    simp only [vals] at h1
    have hm : vs.length + ex.length ≠ m := by omega
    have hc : 0 ≤ i ∧ i < ((vs.length - m : Nat) : Int) := ⟨h0, h1⟩
    simp [Instr.indexAt, run_underlying h.und, sv, vdrop, sliced, hm, asIntOf, hc, h.size w, vblk, Addr.add]
    by_cases hm0 : m = 0 <;> by_cases hi : i ≤ 0 <;> simp [hm0, hi] <;> omega
theorem cells_vdrop (r : Row) (m : Nat) : (vdrop (sv r) m).cells = #[vdrop (sv r) m] := by cases r <;> rfl
theorem cells_vtake (r : Row) (m : Nat) : (vtake (sv r) m).cells = #[vtake (sv r) m] := by cases r <;> rfl
theorem one_vtake (r : Row) (m : Nat) : (vtake (sv r) m).oneCell' = true := by cases r <;> rfl
theorem getD_some {l : List Value} {n : Nat} (h : n < l.length) : l[n]? = some (l.getD n undef) := by
  rw [List.getD_eq_getElem?_getD, List.getElem?_eq_getElem h]; rfl
def bunL (l : List Slot) : Slot := bun [] .none (fun _ : Unit => l)
theorem bunL_shut (l k : List Slot) : Imp (l ++ k) (bunL l :: k) := bun_shut (F := fun _ : Unit => l) () k
theorem bunL_open (l k : List Slot) : Imp (bunL l :: k) (l ++ k) := fun _ _ h => (bun_open h).choose_spec
theorem sep_perm {a b : List Slot} (h : a.Perm b) : ∀ p, SepL a p → SepL b p := by
  induction h with
  | nil => exact fun _ h => h
  | cons x _ ih => exact fun _ ⟨p, q, hs, hl, d, e⟩ => ⟨p, q, hs, ih q hl, d, e⟩
  | swap x y l =>
    intro h hs
    have h1 : SepL ([y] ++ ([x] ++ l)) h := hs
    have h2 := sep_mid (a := [x]) (b := [y]) (c := l) |>.2 h1
    exact h2
  | trans _ _ ih1 ih2 => exact fun p h => ih2 p (ih1 p h)
theorem Imp.perm {a b : List Slot} (h : a.Perm b) : Imp a b := .same (sep_perm h)
/-! ### What is taken back -/
abbrev MS3 := MK × Nat × KV
def mSs (bj : Nat) (Ms : List MS3) : List Slot := Ms.map fun x => mS x.1 x.2.1 bj x.2.2
noncomputable def Ent.undo (e : Ent) (m : KV) : KV := match e.was with | some v => mset m e.key v | none => mdel m e.key
noncomputable def undo1 (e : Ent) (Ms : List MS3) : List MS3 := Ms.map fun x => if x.2.1 = e.b then (x.1, x.2.1, e.undo x.2.2) else x
noncomputable def undoAll (E : List Ent) (Ms : List MS3) : List MS3 := E.foldr undo1 Ms
structure EOK (P : Program) (bj : Nat) (K : MK) (e : Ent) : Prop where
  call : ∀ (a : N4) (m : KV), CallT P e.g #[ptr a.1, ptr a.2.1, ptr a.2.2.1, ptr a.2.2.2] (mS K e.b bj m :: e.sl a) Unit (fun _ => undef) (fun _ => mS K e.b bj (e.undo m) :: e.sl a) (fun _ => True)
theorem undo1_ks (e : Ent) (Ms : List MS3) : (undo1 e Ms).map (fun x => (x.1, x.2.1)) = Ms.map (fun x => (x.1, x.2.1)) := by
  unfold undo1
  rw [List.map_map]
  refine List.map_congr_left fun x _ => ?_
  simp only [Function.comp]
  split <;> rfl
theorem undoAll_ks (E : List Ent) (Ms : List MS3) : (undoAll E Ms).map (fun x => (x.1, x.2.1)) = Ms.map (fun x => (x.1, x.2.1)) := by
  unfold undoAll
  induction E with
  | nil => rfl
  | cons e E ih => rw [List.foldr_cons, undo1_ks]; exact ih
theorem ks_blocks {Ms Ms' : List MS3} (h : Ms.map (fun x => (x.1, x.2.1)) = Ms'.map (fun x => (x.1, x.2.1))) : Ms.map (·.2.1) = Ms'.map (·.2.1) := by
  have := congrArg (List.map (·.2)) h
  rw [List.map_map, List.map_map] at this
  exact this
theorem undo1_split {e : Ent} {p q : List MS3} {y : MS3} (hy : y.2.1 = e.b) (hn : ((p ++ y :: q).map (·.2.1)).Nodup) : undo1 e (p ++ y :: q) = p ++ (y.1, e.b, e.undo y.2.2) :: q := by
  rw [List.map_append, List.map_cons, List.nodup_append] at hn
  obtain ⟨_, h2, h3⟩ := hn
  have h4 := (List.nodup_cons.1 h2).1
  unfold undo1
  rw [List.map_append, List.map_cons, if_pos hy, hy]
  congr 1
  · rw [List.map_congr_left (g := id), List.map_id]
    intro x hx
    rw [if_neg]; rfl
    intro he
    exact h3 x.2.1 (List.mem_map_of_mem hx) y.2.1 (List.mem_cons_self ..) (he.trans hy.symm)
  · congr 1
    rw [List.map_congr_left (g := id), List.map_id]
    intro x hx
    rw [if_neg]; rfl
    intro he
    exact h4 (by rw [hy, ← he]; exact List.mem_map_of_mem hx)
theorem zip_split : ∀ {E : List Ent} {A : List N4}, A.length = E.length → ∀ (x : Nat) (h : x < E.length) (h' : x < A.length), ∃ u v, ents E A = u ++ (E[x].sl A[x] ++ v)
  | e :: E, a :: A, hl, 0, _, _ => ⟨[], ents E A, by simp [ents]⟩
  | e :: E, a :: A, hl, x + 1, h, h' => by
    obtain ⟨u, v, huv⟩ := zip_split (E := E) (A := A) (by simpa using hl) x (by simpa using h) (by simpa using h')
    exact ⟨e.sl a ++ u, v, by
      have : ents (e :: E) (a :: A) = e.sl a ++ ents E A := by simp [ents]
      rw [this, huv]; simp⟩
noncomputable def stepT (bj : Nat) (Ms : List MS3) (E : List Ent) (A : List N4) (x : Nat) : List Slot := mSs bj (undoAll (E.drop x) Ms) ++ ents E A
theorem step_call {P : Program} {bj : Nat} {Ms : List MS3} {E : List Ent} {A : List N4} (hl : A.length = E.length) (hn : (Ms.map (·.2.1)).Nodup) (hE : ∀ e ∈ E, ∃ y ∈ Ms, y.2.1 = e.b ∧ EOK P bj y.1 e)
    {x : Nat} (h0 : 0 < x) (hx : x ≤ E.length) : ∃ e a, E[x - 1]? = some e ∧ A[x - 1]? = some a ∧
      CallT P e.g #[ptr a.1, ptr a.2.1, ptr a.2.2.1, ptr a.2.2.2] [bunL (stepT bj Ms E A x)] Unit (fun _ => undef) (fun _ => [bunL (stepT bj Ms E A (x - 1))]) (fun _ => True) := by
  have h1 : x - 1 < E.length := by omega
  have h2 : x - 1 < A.length := by omega
  refine ⟨E[x - 1], A[x - 1], List.getElem?_eq_getElem h1, List.getElem?_eq_getElem h2, ?_⟩
  obtain ⟨y0, hy0, hb, hok⟩ := hE E[x - 1] (List.getElem_mem h1)
  have hks := undoAll_ks (E.drop x) Ms
  have hmem : (y0.1, y0.2.1) ∈ (undoAll (E.drop x) Ms).map (fun x => (x.1, x.2.1)) := by rw [hks]; exact List.mem_map_of_mem hy0
  obtain ⟨y, hy, hyk⟩ := List.mem_map.1 hmem
  obtain ⟨hy1, hy2⟩ : y.1 = y0.1 ∧ y.2.1 = y0.2.1 := by simpa using hyk
  obtain ⟨p, q, hpq⟩ := List.append_of_mem hy
  have hnd : ((p ++ y :: q).map (·.2.1)).Nodup := by rw [← hpq, ks_blocks hks]; exact hn
  obtain ⟨u, v, huv⟩ := zip_split hl (x - 1) h1 h2
  have hyb : y.2.1 = E[x - 1].b := hy2.trans hb
  have hstep : undoAll (E.drop (x - 1)) Ms = p ++ (y.1, E[x - 1].b, E[x - 1].undo y.2.2) :: q := by
    have : E.drop (x - 1) = E[x - 1] :: E.drop x := by
      rw [List.drop_eq_getElem_cons h1]; congr 2; omega
    rw [this]
    show undo1 _ (undoAll (E.drop x) Ms) = _
    rw [hpq]; exact undo1_split hyb hnd
  have c := ((hok.call A[x - 1] y.2.2).frame (mSs bj p ++ mSs bj q ++ u ++ v))
  rw [← hy1] at c
  refine c.conv ?_ fun _ _ => ?_
  · refine (bunL_open _ []).trans (Imp.perm ?_)
    unfold stepT
    rw [hpq, huv]
    have : mSs bj (p ++ y :: q) = mSs bj p ++ (mS y.1 E[x - 1].b bj y.2.2 :: mSs bj q) := by simp [mSs, hyb]
    rw [this, List.append_nil]
    classical
    rw [List.perm_iff_count]
    intro s
    simp only [List.count_append, List.count_cons]
    omega
  · refine Imp.trans (Imp.perm ?_) (bunL_shut _ [])
    unfold stepT
    rw [hstep, huv]
    have : mSs bj (p ++ (y.1, E[x - 1].b, E[x - 1].undo y.2.2) :: q) = mSs bj p ++ (mS y.1 E[x - 1].b bj (E[x - 1].undo y.2.2) :: mSs bj q) := by simp [mSs]
    rw [this, List.append_nil]
    classical
    rw [List.perm_iff_count]
    intro s
    simp only [List.count_append, List.count_cons]
    omega
theorem mS_block {K : MK} {b bj : Nat} {m : KV} {h : Hl} (hs : (mS K b bj m).sat h) : h b ≠ none := by
  obtain ⟨r, hr⟩ := hs
  obtain ⟨p, q, ⟨hp, _⟩, _, _, rfl⟩ := hr
  rw [un_left hp]; simp
theorem mSs_nodup {bj : Nat} : ∀ {Ms : List MS3} {h : Hl}, SepL (mSs bj Ms) h → (Ms.map (·.2.1)).Nodup ∧ ∀ x ∈ Ms, h x.2.1 ≠ none
  | [], _, _ => ⟨List.nodup_nil, fun _ h => by cases h⟩
  | y :: Ms, h, ⟨p, q, hs, hl, d, e⟩ => by
    obtain ⟨h1, h2⟩ := mSs_nodup hl
    have hp := mS_block hs
    subst e
    refine ⟨?_, fun x hx => ?_⟩
    · rw [List.map_cons, List.nodup_cons]
      refine ⟨fun hm => ?_, h1⟩
      obtain ⟨x, hx, hb⟩ := List.mem_map.1 hm
      rcases d y.2.1 with k | k
      · exact hp k
      · exact h2 x hx (by rw [hb]; exact k)
    · intro hnone
      obtain ⟨k1, k2⟩ := un_none_iff.1 hnone
      rcases List.mem_cons.1 hx with rfl | hx
      · exact hp k1
      · exact h2 x hx k2
theorem own_nodup {bj : Nat} {Ms : List MS3} {R : HP} {w : World} (h : Own (ofList (mSs bj Ms)) R w) : (Ms.map (·.2.1)).Nodup := by
  obtain ⟨p, q, hp, _⟩ := own_sep.1 h
  exact (mSs_nodup hp).1
end Go.Sx
