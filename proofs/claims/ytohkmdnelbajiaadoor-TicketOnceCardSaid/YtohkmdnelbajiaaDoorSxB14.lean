/- Digits base 65536, the lowest first. -/
import Derived.Test.YtohkmdnelbajiaaDoorSxB13
set_option linter.unusedVariables false
set_option linter.unusedSimpArgs false
namespace Go.Sx
def nv : List Int → Int
  | [] => 0
  | d :: l => d + 65536 * nv l
def Dig (l : List Int) : Prop := ∀ d ∈ l, 0 ≤ d ∧ d < 65536
def dgt (l : List Int) (i : Nat) : Int := l.getD i 0
def Canon (l : List Int) : Prop := l.getLast? ≠ some 0
def P16 (n : Nat) : Int := 65536 ^ n
theorem P16_zero : P16 0 = 1 := rfl
theorem P16_succ (n : Nat) : P16 (n + 1) = 65536 * P16 n := by unfold P16; rw [Int.pow_succ, Int.mul_comm]
theorem P16_pos (n : Nat) : 0 < P16 n := Int.pow_pos (by decide)
theorem P16_add (m n : Nat) : P16 (m + n) = P16 m * P16 n := Int.pow_add ..
theorem P16_mono {m n : Nat} (h : m ≤ n) : P16 m ≤ P16 n := by
  obtain ⟨k, rfl⟩ := Nat.exists_eq_add_of_le h
  have := Int.mul_le_mul_of_nonneg_left (Int.add_one_le_of_lt (P16_pos k)) (Int.le_of_lt (P16_pos m))
  rw [P16_add]; simpa using this
theorem Dig.nil : Dig [] := fun _ h => by cases h
theorem Dig.tail {d : Int} {l : List Int} (h : Dig (d :: l)) : Dig l := fun x hx => h x (.tail _ hx)
theorem Dig.head {d : Int} {l : List Int} (h : Dig (d :: l)) : 0 ≤ d ∧ d < 65536 := h d (.head _)
theorem Dig.append {l m : List Int} (h : Dig l) (k : Dig m) : Dig (l ++ m) := fun x hx => (List.mem_append.1 hx).elim (h x) (k x)
theorem Dig.take {l : List Int} (h : Dig l) (n : Nat) : Dig (l.take n) := fun x hx => h x (List.mem_of_mem_take hx)
theorem Dig.drop {l : List Int} (h : Dig l) (n : Nat) : Dig (l.drop n) := fun x hx => h x (List.mem_of_mem_drop hx)
theorem Dig.one {x : Int} (h0 : 0 ≤ x) (h1 : x < 65536) : Dig [x] := fun d hd => by simp at hd; subst hd; exact ⟨h0, h1⟩
theorem Dig.set {l : List Int} (h : Dig l) (n : Nat) {x : Int} (h0 : 0 ≤ x) (h1 : x < 65536) : Dig (l.set n x) := fun d hd => by
  rcases List.mem_or_eq_of_mem_set hd with h' | h'
  · exact h d h'
  · subst h'; exact ⟨h0, h1⟩
theorem Dig.replicate (n : Nat) : Dig (List.replicate n 0) := fun d hd => by have := (List.mem_replicate.1 hd).2; subst this; exact ⟨by decide, by decide⟩
theorem Dig.dgt {l : List Int} (h : Dig l) (i : Nat) : 0 ≤ dgt l i ∧ dgt l i < 65536 := by
  unfold Sx.dgt
  rw [List.getD_eq_getElem?_getD]
  cases hx : l[i]? with
  | none => exact ⟨by decide, by decide⟩
  | some x => exact h x (List.mem_of_getElem? hx)
theorem nv_nonneg : ∀ {l : List Int}, Dig l → 0 ≤ nv l
  | [], _ => Int.le_refl _
  | d :: l, h => by have := nv_nonneg h.tail; have := h.head; simp only [nv]; omega
theorem nv_lt : ∀ {l : List Int}, Dig l → nv l < P16 l.length
  | [], _ => by decide
  | d :: l, h => by have := nv_lt h.tail; have := h.head; simp only [nv, List.length_cons, P16_succ]; omega
theorem nv_append : ∀ (l m : List Int), nv (l ++ m) = nv l + P16 l.length * nv m
  | [], m => by simp [nv, P16_zero]
  | d :: l, m => by simp only [List.cons_append, nv, nv_append l m, List.length_cons, P16_succ, Int.mul_add, Int.mul_assoc]; omega
theorem nv_snoc (l : List Int) (x : Int) : nv (l ++ [x]) = nv l + P16 l.length * x := by rw [nv_append]; simp [nv]
theorem nv_split (l : List Int) (n : Nat) (h : n ≤ l.length) : nv l = nv (l.take n) + P16 n * nv (l.drop n) := by
  conv => lhs; rw [← List.take_append_drop n l]
  rw [nv_append, List.length_take, Nat.min_eq_left h]
theorem take_succ_dgt (l : List Int) (i : Nat) (h : i < l.length) : l.take (i + 1) = l.take i ++ [dgt l i] := by
  rw [List.take_add_one, dgt, List.getD_eq_getElem?_getD, List.getElem?_eq_getElem h]; rfl
theorem nv_take_succ (l : List Int) (i : Nat) : nv (l.take (i + 1)) = nv (l.take i) + P16 i * dgt l i := by
  rcases Nat.lt_or_ge i l.length with h | h
  · rw [take_succ_dgt l i h, nv_snoc, List.length_take, Nat.min_eq_left (by omega)]
  · rw [List.take_of_length_le h, List.take_of_length_le (by omega), dgt, List.getD_eq_getElem?_getD, List.getElem?_eq_none h]; simp
theorem nv_take_all (l : List Int) (i : Nat) (h : l.length ≤ i) : nv (l.take i) = nv l := by rw [List.take_of_length_le h]
theorem nv_drop_dgt (l : List Int) (i : Nat) : nv (l.drop i) = dgt l i + 65536 * nv (l.drop (i + 1)) := by
  rcases Nat.lt_or_ge i l.length with h | h
  · rw [List.drop_eq_getElem_cons h, nv, dgt, List.getD_eq_getElem?_getD, List.getElem?_eq_getElem h]; rfl
  · rw [List.drop_of_length_le h, List.drop_of_length_le (by omega), dgt, List.getD_eq_getElem?_getD, List.getElem?_eq_none h]; rfl
theorem nv_set : ∀ (l : List Int) (j : Nat) (x : Int), j < l.length → nv (l.set j x) = nv l + P16 j * (x - dgt l j)
  | [], j, x, h => by simp at h
  | d :: l, 0, x, _ => by simp [nv, dgt, P16_zero]; omega
  | d :: l, j + 1, x, h => by
    have ih := nv_set l j x (by simpa using h)
    have e : dgt (d :: l) (j + 1) = dgt l j := by simp [dgt]
    rw [List.set_cons_succ, nv, ih, e, nv, P16_succ, Int.mul_add, Int.mul_assoc]; omega
theorem nv_replicate : ∀ n : Nat, nv (List.replicate n 0) = 0
  | 0 => rfl
  | n + 1 => by rw [List.replicate_succ, nv, nv_replicate n]; rfl
theorem nv_zero : ∀ {l : List Int}, Dig l → nv l = 0 → Canon l → l = []
  | [], _, _, _ => rfl
  | d :: l, h, h0, hc => by
    exfalso
    have := nv_nonneg h.tail; have := h.head
    simp only [nv] at h0
    have hd : d = 0 := by omega
    have hl : nv l = 0 := by omega
    subst hd
    cases l with
    | nil => exact hc rfl
    | cons x l =>
      have := nv_zero h.tail hl (by simpa [Canon] using hc)
      cases this
theorem canon_len {l : List Int} (h : Dig l) (hc : Canon l) {k : Nat} (hk : nv l < P16 k) : l.length ≤ k := by
  rcases Nat.lt_or_ge k l.length with hlt | hge
  · exfalso
    have hs := nv_split l k (by omega)
    have a := nv_nonneg (h.take k)
    have b := nv_nonneg (h.drop k)
    have hp := P16_pos k
    have : nv (l.drop k) = 0 := by
      rcases Int.lt_or_le 0 (nv (l.drop k)) with h' | h'
      · have := Int.mul_le_mul_of_nonneg_left (Int.add_one_le_of_lt h') (Int.le_of_lt hp)
        simp at this; omega
      · omega
    have hd : Canon (l.drop k) := by
      unfold Canon at *
      rw [List.getLast?_drop, if_neg (by omega)]
      exact hc
    have := nv_zero (h.drop k) this hd
    have := congrArg List.length this
    simp at this; omega
  · exact hge
theorem canon_pos {l : List Int} (h : Dig l) (hc : Canon l) : (l.length = 0) ↔ nv l = 0 := by
  constructor
  · intro h'; rw [List.length_eq_zero_iff.1 h']; rfl
  · intro h'; rw [nv_zero h h' hc]; rfl
/-! ### Rows of digits -/
def dg (r : Row) : List Int := (vals r).map ci
def rdv (v : Value) (s : Slot) : List Int := (rvals v s).map ci
theorem rdv_eq (r : Row) (e : TypeId) : rdv (sv r) (ss e r) = dg r := by rw [rdv, rvals_eq, dg]
structure RowOK (r : Row) : Prop where
  int : vals r = (dg r).map (Value.int .i64)
  dig : Dig (dg r)
theorem dg_len (r : Row) : (dg r).length = (vals r).length := by simp [dg]
theorem vlen_dg (r : Row) : vlen (sv r) = (dg r).length := by rw [vlen_sv, dg_len]
theorem RowOK.get {r : Row} (h : RowOK r) {n : Nat} (hn : n < (dg r).length) : (vals r)[n]? = some (.int .i64 (dgt (dg r) n)) := by
  rw [h.int, List.getElem?_map, dgt, List.getD_eq_getElem?_getD, List.getElem?_eq_getElem hn]; rfl
theorem map_ci (l : List Int) : (l.map (Value.int .i64)).map ci = l := by rw [List.map_map]; exact List.map_id _
theorem RowOK.of {r : Row} {l : List Int} (h : vals r = l.map (Value.int .i64)) (hd : Dig l) : RowOK r ∧ dg r = l := by
  have e : dg r = l := by rw [dg, h, map_ci]
  exact ⟨⟨by rw [e]; exact h, by rw [e]; exact hd⟩, e⟩
theorem RowOK.nil : RowOK .nil := ⟨rfl, Dig.nil⟩
theorem RowOK.take {r : Row} (h : RowOK r) (n : Nat) : RowOK (r.take n) ∧ dg (r.take n) = (dg r).take n :=
  RowOK.of (by rw [vals_take, h.int, List.map_take]) (h.dig.take n)
theorem RowOK.set {r : Row} (h : RowOK r) (n : Nat) {x : Int} (h0 : 0 ≤ x) (h1 : x < 65536) : RowOK (r.set n (.int .i64 x)) ∧ dg (r.set n (.int .i64 x)) = (dg r).set n x :=
  RowOK.of (by rw [vals_set, h.int, List.map_set]) (h.dig.set n h0 h1)
theorem RowOK.snoc {r y : Row} (h : RowOK r) {x : Int} (h0 : 0 ≤ x) (h1 : x < 65536) (hy : vals y = vals r ++ [.int .i64 x]) : RowOK y ∧ dg y = dg r ++ [x] :=
  RowOK.of (by rw [hy, h.int, List.map_append]; rfl) (h.dig.append (Dig.one h0 h1))
theorem RowOK.zeros {y : Row} {n : Nat} (hy : vals y = List.replicate n (.int .i64 0)) : RowOK y ∧ dg y = List.replicate n 0 :=
  RowOK.of (by rw [hy, List.map_replicate]) (Dig.replicate n)
end Go.Sx
namespace Go.Sx
/-! ### The operations' families over rows of ints -/
def F_get : List Value → List Slot → Ctr := fun vs hs => ⟨Int, fun zx => .int .i64 zx, fun _ => hs, fun zx => (scells (sarg hs 0))[voff (varg vs 0)]? = some (.int .i64 zx)⟩
def F_put : List Value → List Slot → Ctr := fun vs hs => ⟨Unit, fun _ => .tuple #[], fun _ => [sset (sarg hs 0) (voff (varg vs 0)) (varg vs 1)], fun _ => True⟩
def F_app (e : TypeId) : List Value → List Slot → Ctr := fun vs hs => ⟨Row, fun y => sv y, fun y => [ss e y, sarg hs 1], fun y => vals y = rvals (varg vs 0) (sarg hs 0) ++ [scell (sarg hs 1) 0]⟩
def F_make (e : TypeId) (z : Value) : List Value → List Slot → Ctr := fun vs _ => ⟨Row, fun y => sv y, fun y => [ss e y], fun y => vals y = List.replicate (ci (varg vs 0)).toNat z⟩
theorem scells_ss (r : Row) (e : TypeId) (n : Nat) (h : n < (vals r).length) : (scells (ss e r))[n]? = (vals r)[n]? := by
  cases r with
  | nil => simp [vals] at h
  | mk b vs ex => simp only [vals] at h; simp [scells, ss, vals, List.getElem?_append_left h]
theorem getR {e : TypeId} (r : Row) (n : Nat) (h : RowOK r) (hn : n < (dg r).length) {x : Int} (hx : (scells (ss e r))[n]? = some (.int .i64 x)) : x = dgt (dg r) n := by
  rw [scells_ss r e n (by rw [← dg_len]; exact hn), h.get hn] at hx
  injection hx with hx; injection hx with _ hx; exact hx.symm
theorem wit_get {e : TypeId} (r : Row) (n : Nat) (h : RowOK r) (hn : n < (dg r).length) : ∃ x : Int, (fun zx => (scells (ss e r))[n]? = some (.int .i64 zx)) x :=
  ⟨dgt (dg r) n, by dsimp only; rw [scells_ss r e n (by rw [← dg_len]; exact hn), h.get hn]⟩
theorem xgetR {P : Program} {e : TypeId} (r : Row) (te : TypeId) (ha : ∀ w, (isAgg te).run P w = .ok false w) (n : Nat) (h : RowOK r) (hn : n < (dg r).length) :
    OpT P (do pure (.value (← Instr.loadAt te (.pointer (some ⟨vblk (sv r), n, none⟩))))) [ss e r] Int (fun zx => .int .i64 zx) (fun _ => [ss e r]) (fun zx => (scells (ss e r))[n]? = some (.int .i64 zx)) := by
  intro R w hO
  obtain ⟨_, w', _, hr, ho, he⟩ := xget (e := e) r te ha n _ (h.get hn) R w hO
  exact ⟨dgt (dg r) n, w', by rw [scells_ss r e n (by rw [← dg_len]; exact hn), h.get hn], hr, ho, he⟩
theorem xappendR {P : Program} {t e : TypeId} {z : Value} (h : SlT P t e z) (ty : TypeId) (r : Row) (hl : (dg r).length ≤ 1073741824) (c m : Nat) (x : Value) (h2 : x.oneCell' = true) :
    OpT P (do pure (.value (← Builtin.append_ #[t, t] ty #[sv r, .slice (some ⟨c, 0, none⟩) 1 m]))) [ss e r, .blk c (.cells #[x] e (0, 0))] Row (fun zx => sv zx) (fun zx => [ss e zx, .blk c (.cells #[x] e (0, 0))]) (fun zx => vals zx = rvals (sv r) (ss e r) ++ [x]) := by
  rw [rvals_eq]
  exact xappend h ty r (by rw [← dg_len]; exact hl) c m x h2
theorem wit_app (l : List Value) : ∃ y : Row, (fun zx => vals zx = l) y := ⟨.mk 0 l [], rfl⟩
theorem wit_make {e : TypeId} (n : Nat) (z : Value) : ∃ y : Row, (fun zx => vals zx = List.replicate n z) y := ⟨.mk 0 _ [], rfl⟩
theorem rowOK_lit (b : Nat) (l : List Int) (h : l.all (fun d => decide (0 ≤ d) && decide (d < 65536)) = true) : RowOK (.mk b (l.map (.int .i64)) []) :=
  (RowOK.of rfl (fun d hd => by have := (List.all_eq_true.1 h) d hd; simpa using this)).1
end Go.Sx
