/- A symbolic executor for the model's code, part 6: regions, drawn or not. -/
import Derived.Test.YtohkmdnelbajiaaDoorSx5
set_option linter.unusedVariables false
set_option linter.unusedSimpArgs false
namespace Go.Sx
open Go.RowKit

/-! ### The temporaries that an operation reads and writes -/
def rdT (ops : Array Oper) (o : Oper) : List Nat :=
  (match o.guard with
    | some (j, _) => match (ops[j]?).bind (·.dst) with | some d => [d] | none => []
    | none => []) ++ o.op.operands.toList.filterMap fun | .tmp t => some t | _ => none
def wrT (o : Oper) : List Nat := match o.dst with | some d => [d] | none => []

/-- An operation, its guard with it, as a transformer of values and slots (a deferral stands apart). -/
def tW (P : Program) (ops : Array Oper) (o : Oper) (a : Ann) (fr : Nat → Value) (K : Value → Hp → Prop) (H : Hp) : Prop :=
  match a with
  | .no => unguardW ops o fr (K undef H)
  | a => guardW ops o fr (coreW P (evalF fr) o a K H)

def putK (n : Nat) (o : Oper) (s : St) (K : St → Prop) : Value → Hp → Prop := fun v H' => putW n o.dst v s.fr fun fr' => K ⟨fr', H', s.df⟩

theorem opW_eq {P : Program} {n : Nat} {ops : Array Oper} {o : Oper} {a : Ann} {s : St} {K : St → Prop} (h : isDfr a = false) :
    opW P n ops o a s K = tW P ops o a s.fr (putK n o s K) s.H := by
  cases a <;> first | rfl | cases h

theorem guardW_iff {ops : Array Oper} {o : Oper} {fr : Nat → Value} : ∃ G : Prop, ∀ X, guardW ops o fr X ↔ G ∧ X := by
  unfold guardW
  cases o.guard with
  | none => exact ⟨True, fun X => by simp⟩
  | some jb =>
    obtain ⟨j, b⟩ := jb
    simp only
    cases (ops[j]?).bind (·.dst) with
    | none => exact ⟨False, fun X => by simp⟩
    | some d =>
      simp only
      cases fr d with
      | bool c => exact ⟨_, fun X => Iff.rfl⟩
      | _ => exact ⟨False, fun X => by simp⟩
theorem unguardW_iff {ops : Array Oper} {o : Oper} {fr : Nat → Value} : ∃ G : Prop, ∀ X, unguardW ops o fr X ↔ G ∧ X := by
  unfold unguardW
  cases o.guard with
  | none => exact ⟨False, fun X => by simp⟩
  | some jb =>
    obtain ⟨j, b⟩ := jb
    simp only
    cases (ops[j]?).bind (·.dst) with
    | none => exact ⟨False, fun X => by simp⟩
    | some d =>
      simp only
      cases fr d with
      | bool c => exact ⟨_, fun X => Iff.rfl⟩
      | tuple c => exact ⟨True, fun X => by simp⟩
      | _ => exact ⟨False, fun X => by simp⟩

theorem Good.and {T : (Value → Hp → Prop) → Hp → Prop} {rd wr : List Nat} (h : Good T rd wr) (G : Prop) : Good (fun K H => G ∧ T K H) rd wr :=
  ⟨fun K K' H hg hk => ⟨hg.1, h.step K K' H hg.2 hk⟩, fun K H i sl h1 h2 hg => ⟨hg.1, h.set K H i sl h1 h2 hg.2⟩,
   fun β ⟨b0⟩ K H hg => ⟨(hg b0).1, h.all β ⟨b0⟩ K H fun b => (hg b).2⟩⟩

theorem Good.congr {T T' : (Value → Hp → Prop) → Hp → Prop} {rd wr : List Nat} (h : Good T rd wr) (e : ∀ K H, T K H ↔ T' K H) : Good T' rd wr := by
  have : T = T' := funext fun K => funext fun H => propext (e K H)
  exact this ▸ h

theorem good_t {P : Program} {ops : Array Oper} {o : Oper} {fr : Nat → Value} (a : Ann) : Good (tW P ops o a fr) (rdS a) (wrS a) := by
  obtain ⟨G, hG⟩ := guardW_iff (ops := ops) (o := o) (fr := fr)
  obtain ⟨U, hU⟩ := unguardW_iff (ops := ops) (o := o) (fr := fr)
  cases a with
  | no =>
    refine Good.congr (T := fun K H => U ∧ K undef H) ⟨fun K K' H h hk => ⟨h.1, hk _ _ (fun _ _ => rfl) h.2⟩, fun K H i sl _ _ h => h, fun β ⟨b0⟩ K H h => ⟨(h b0).1, fun b => (h b).2⟩⟩ (fun K H => (hU _).symm)
  | _ => exact ((good_core _).and G).congr (fun K H => (hG _).symm)

theorem t_comm {P : Program} {ops : Array Oper} {o : Oper} {fr : Nat → Value} (a : Ann) {T : (Value → Hp → Prop) → Hp → Prop} {rd wr : List Nat} (hT : Good T rd wr)
    (hw : ∀ x ∈ wrS a, x ∉ rd ∧ x ∉ wr) (hr : ∀ x ∈ wr, x ∉ rdS a) (H : Hp) (K : Value → Value → Hp → Prop)
    (h : tW P ops o a fr (fun v1 H1 => T (fun v2 H2 => K v1 v2 H2) H1) H) : T (fun v2 H2 => tW P ops o a fr (fun v1 H1 => K v1 v2 H1) H2) H := by
  obtain ⟨G, hG⟩ := guardW_iff (ops := ops) (o := o) (fr := fr)
  obtain ⟨U, hU⟩ := unguardW_iff (ops := ops) (o := o) (fr := fr)
  have core : ∀ a, (∀ x ∈ wrS a, x ∉ rd ∧ x ∉ wr) → (∀ x ∈ wr, x ∉ rdS a) → guardW ops o fr (coreW P (evalF fr) o a (fun v1 H1 => T (fun v2 H2 => K v1 v2 H2) H1) H) →
      T (fun v2 H2 => guardW ops o fr (coreW P (evalF fr) o a (fun v1 H1 => K v1 v2 H1) H2)) H := by
    intro a hw hr h
    obtain ⟨hg, h⟩ := (hG _).1 h
    exact hT.step _ _ _ (core_comm a hT hw hr H K h) fun v2 H2 _ h => (hG _).2 ⟨hg, h⟩
  cases a with
  | no =>
    obtain ⟨hg, h⟩ := (hU _).1 h
    exact hT.step _ _ _ h fun v2 H2 _ h => (hU _).2 ⟨hg, h⟩
  | _ => exact core _ hw hr h

theorem mem_rdT_operand {ops : Array Oper} {o : Oper} {t : Nat} (h : Operand.tmp t ∈ o.op.operands) : t ∈ rdT ops o := by
  refine List.mem_append.2 (.inr (List.mem_filterMap.2 ⟨_, Array.mem_toList_iff.2 h, rfl⟩))

theorem t_congr {P : Program} {ops : Array Oper} {o : Oper} {a : Ann} {fr fr' : Nat → Value} (hs : isSel o.op = false) (h : ∀ t ∈ rdT ops o, fr t = fr' t) (K : Value → Hp → Prop) (H : Hp) :
    tW P ops o a fr K H = tW P ops o a fr' K H := by
  have hev : ∀ x ∈ o.op.operands, evalF fr x = evalF fr' x := by
    intro x hx
    cases x with
    | tmp t => exact h t (mem_rdT_operand hx)
    | _ => rfl
  have hd : ∀ j b d, o.guard = some (j, b) → (ops[j]?).bind (·.dst) = some d → fr d = fr' d := by
    intro j b d hg hd
    refine h d (List.mem_append.2 (.inl ?_))
    rw [hg]; simp only; rw [hd]; simp
  have hg : ∀ X, guardW ops o fr X = guardW ops o fr' X := by
    intro X
    unfold guardW
    cases hg : o.guard with
    | none => rfl
    | some jb =>
      obtain ⟨j, b⟩ := jb
      simp only
      cases hx : (ops[j]?).bind (·.dst) with
      | none => rfl
      | some d => simp only; rw [hd j b d hg hx]
  have hu : ∀ X, unguardW ops o fr X = unguardW ops o fr' X := by
    intro X
    unfold unguardW
    cases hg : o.guard with
    | none => rfl
    | some jb =>
      obtain ⟨j, b⟩ := jb
      simp only
      cases hx : (ops[j]?).bind (·.dst) with
      | none => rfl
      | some d => simp only; rw [hd j b d hg hx]
  have he := execOp_congr (ρ := evalF fr) (ρ' := evalF fr') o hs hev
  have hc := callOf_congr (ρ := evalF fr) (ρ' := evalF fr') o.op hev
  have hv := opVals_congr (ρ := evalF fr) (ρ' := evalF fr') o.op hev
  cases a with
  | no => exact hu _
  | sem acc => simp only [tW, hg, coreW, he]
  | eq v => simp only [tW, hg, coreW, he, hv]
  | gen => simp only [tW, hg, coreW, he]; rw [hv]
  | specr => simp only [tW, hg, coreW, he, hv]
  | specw => simp only [tW, hg, coreW, he, hv]
  | callr => simp only [tW, hg, coreW, hc, hv]
  | callw => simp only [tW, hg, coreW, hc, hv]
  | dfr => simp only [tW, hg, coreW]

def dstOK (n : Nat) (o : Oper) : Bool := match o.dst with | some d => Nat.blt d n | none => true

def indep (n : Nat) (ops : Array Oper) (o1 : Oper) (a1 : Ann) (o2 : Oper) (a2 : Ann) : Bool :=
  disjB (wrT o1) (rdT ops o2) && (disjB (wrT o2) (rdT ops o1) && (disjB (wrT o1) (wrT o2) && (disjB (wrS a1) (rdS a2) && (disjB (wrS a1) (wrS a2) && (disjB (wrS a2) (rdS a1) &&
    (!isDfr a1 && (!isDfr a2 && (!isSel o1.op && (!isSel o2.op && dstOK n o2)))))))))

theorem putW_false {n d : Nat} {v : Value} {fr : Nat → Value} {K : (Nat → Value) → Prop} (h : Nat.blt d n = false) : putW n (some d) v fr K = False := by simp [putW, h]
theorem putW_true {n d : Nat} {v : Value} {fr : Nat → Value} {K : (Nat → Value) → Prop} (h : Nat.blt d n = true) : putW n (some d) v fr K = K (upd fr d v) := by simp [putW, h]

/-- Two operations that touch unlike things may change places. -/
theorem op_comm {P : Program} {n : Nat} {ops : Array Oper} {o1 o2 : Oper} {a1 a2 : Ann} {s : St} {K : St → Prop} (hi : indep n ops o1 a1 o2 a2 = true)
    (h : opW P n ops o1 a1 s (fun s1 => opW P n ops o2 a2 s1 K)) : opW P n ops o2 a2 s (fun s2 => opW P n ops o1 a1 s2 K) := by
  simp only [indep, Bool.and_eq_true, Bool.not_eq_true'] at hi
  obtain ⟨i1, i2, i3, i4, i5, i6, d1, d2, e1, e2, hok⟩ := hi
  rw [disjB_iff] at i1 i2 i3 i4 i5 i6
  have q1 : ∀ s, (fun s1 : St => opW P n ops o2 a2 s1 s) = fun s1 => tW P ops o2 a2 s1.fr (putK n o2 s1 s) s1.H := fun K => funext fun s1 => opW_eq d2
  have q2 : ∀ s, (fun s1 : St => opW P n ops o1 a1 s1 s) = fun s1 => tW P ops o1 a1 s1.fr (putK n o1 s1 s) s1.H := fun K => funext fun s1 => opW_eq d1
  rw [opW_eq d1, q1] at h
  rw [opW_eq d2, q2]
  -- what stands behind both
  let Z : Value → Value → Hp → Prop := fun v1 v2 H => putW n o1.dst v1 s.fr fun f1 => putW n o2.dst v2 f1 fun f2 => K ⟨f2, H, s.df⟩
  have keep1 : ∀ (v1 : Value) (t : Nat), t ∈ rdT ops o2 → ∀ d, o1.dst = some d → upd s.fr d v1 t = s.fr t := by
    intro v1 t ht d hd
    refine upd_other _ _ fun e => i1 d (by simp [wrT, hd]) (e ▸ ht)
  have keep2 : ∀ (v2 : Value) (t : Nat), t ∈ rdT ops o1 → ∀ d, o2.dst = some d → upd s.fr d v2 t = s.fr t := by
    intro v2 t ht d hd
    refine upd_other _ _ fun e => i2 d (by simp [wrT, hd]) (e ▸ ht)
  have g2 : Good (tW P ops o2 a2 s.fr) (rdS a2) (wrS a2) := good_t a2
  have h1 : tW P ops o1 a1 s.fr (fun v1 H1 => tW P ops o2 a2 s.fr (fun v2 H2 => Z v1 v2 H2) H1) s.H := by
    refine (good_t a1).step _ _ _ h fun v1 H1 _ hk => ?_
    simp only [putK] at hk
    simp only [Z]
    cases hd : o1.dst with
    | none => rw [hd] at hk; exact hk
    | some d =>
      rw [hd] at hk
      cases hb : Nat.blt d n with
      | false => rw [putW_false hb] at hk; exact hk.elim
      | true =>
        rw [putW_true hb] at hk
        simp only [putW_true hb]
        rw [t_congr e2 (fr' := s.fr) (fun t ht => keep1 v1 t ht d hd)] at hk
        exact hk
  have h2 := t_comm a1 g2 (fun x hx => ⟨i4 x hx, i5 x hx⟩) i6 s.H Z h1
  refine g2.step _ _ _ h2 fun v2 H2 _ hk => ?_
  simp only [putK]
  cases hd : o2.dst with
  | none =>
    show tW P ops o1 a1 s.fr _ H2
    refine (good_t a1).step _ _ _ hk fun v1 H1 _ hz => ?_
    simp only [Z, hd] at hz
    exact hz
  | some d =>
    have hb : Nat.blt d n = true := by simpa [dstOK, hd] using hok
    rw [putW_true hb]
    show tW P ops o1 a1 (upd s.fr d v2) _ H2
    rw [t_congr e1 (fr' := s.fr) (fun t ht => keep2 v2 t ht d hd)]
    refine (good_t a1).step _ _ _ hk fun v1 H1 _ hz => ?_
    simp only [Z, hd] at hz
    simp only [putK]
    cases hd1 : o1.dst with
    | none =>
      rw [hd1] at hz
      simp only [putW] at hz ⊢
      simpa [hb] using hz
    | some d1' =>
      rw [hd1] at hz
      cases hb1 : Nat.blt d1' n with
      | false => rw [putW_false hb1] at hz; exact hz.elim
      | true =>
        rw [putW_true hb1, putW_true hb] at hz
        rw [putW_true hb1]
        have hne : d1' ≠ d := fun e => i3 d1' (by simp [wrT, hd1]) (by simp [wrT, hd, e])
        rw [upd_comm _ _ _ (Ne.symm hne)]
        exact hz
end Go.Sx
