/- A part of the prover's own frame for walking code (see the claim's other texts). -/
import Derived.Test.YtmikgnjocfcekaaF1
import Derived.Scope
set_option linter.unusedVariables false
set_option linter.unusedSimpArgs false
namespace Go.Sx
open Go.RowKit

/-! ### The temporaries that an operation reads and writes -/
def rdT (ops : Array Oper) (o : Oper) : List Nat :=
  (match o.guard with
    | some (j, _) => match (ops[j]?).bind (·.dst) with | some d => [d] | none => []
    | none => []) ++ o.op.operands.toList.filterMap fun | .tmp t => some t | _ => none
def wrT (o : Oper) : List Nat := match o.dst with | some d => [d] | none => []

/-- An operation, its guard with it, as a transformer of values and slots (a deferral stands apart). -/
def tW (P : Program) (ops : Array Oper) (o : Oper) (a : Ann) (fr : Nat → Value) (K : Value → Hp → Prop) (H : Hp) : Prop :=
  match a with
  | .no => unguardW ops o fr (K undef H)
  | a => guardW ops o fr (coreW P (evalF fr) o a K H)

def putK (n : Nat) (o : Oper) (s : St) (K : St → Prop) : Value → Hp → Prop := fun v H' => putW n o.dst v s.fr fun fr' => K ⟨fr', H', s.df⟩

theorem opW_eq {P : Program} {n : Nat} {ops : Array Oper} {o : Oper} {a : Ann} {s : St} {K : St → Prop} (h : isDfr a = false) :
    opW P n ops o a s K = tW P ops o a s.fr (putK n o s K) s.H := by
  cases a <;> first | rfl | cases h

theorem guardW_iff {ops : Array Oper} {o : Oper} {fr : Nat → Value} : ∃ G : Prop, ∀ X, guardW ops o fr X ↔ G ∧ X := by
  unfold guardW
  cases o.guard with
  | none => exact ⟨True, fun X => by simp⟩
  | some jb =>
    obtain ⟨j, b⟩ := jb
    simp only
    cases (ops[j]?).bind (·.dst) with
    | none => exact ⟨False, fun X => by simp⟩
    | some d =>
      simp only
      cases fr d with
      | bool c => exact ⟨_, fun X => Iff.rfl⟩
      | _ => exact ⟨False, fun X => by simp⟩
theorem unguardW_iff {ops : Array Oper} {o : Oper} {fr : Nat → Value} : ∃ G : Prop, ∀ X, unguardW ops o fr X ↔ G ∧ X := by
  unfold unguardW
  cases o.guard with
  | none => exact ⟨False, fun X => by simp⟩
  | some jb =>
    obtain ⟨j, b⟩ := jb
    simp only
    cases (ops[j]?).bind (·.dst) with
    | none => exact ⟨False, fun X => by simp⟩
    | some d =>
      simp only
      cases fr d with
      | bool c => exact ⟨_, fun X => Iff.rfl⟩
      | tuple c => exact ⟨True, fun X => by simp⟩
      | _ => exact ⟨False, fun X => by simp⟩

theorem Good.and {T : (Value → Hp → Prop) → Hp → Prop} {rd wr : List Nat} (h : Good T rd wr) (G : Prop) : Good (fun K H => G ∧ T K H) rd wr :=
  ⟨fun K K' H hg hk => ⟨hg.1, h.step K K' H hg.2 hk⟩, fun K H i sl h1 h2 hg => ⟨hg.1, h.set K H i sl h1 h2 hg.2⟩,
   fun β ⟨b0⟩ K H hg => ⟨(hg b0).1, h.all β ⟨b0⟩ K H fun b => (hg b).2⟩⟩

theorem Good.congr {T T' : (Value → Hp → Prop) → Hp → Prop} {rd wr : List Nat} (h : Good T rd wr) (e : ∀ K H, T K H ↔ T' K H) : Good T' rd wr := by
  have : T = T' := funext fun K => funext fun H => propext (e K H)
  exact this ▸ h

theorem good_t {P : Program} {ops : Array Oper} {o : Oper} {fr : Nat → Value} (a : Ann) : Good (tW P ops o a fr) (rdS a) (wrS a) := by
  obtain ⟨G, hG⟩ := guardW_iff (ops := ops) (o := o) (fr := fr)
  obtain ⟨U, hU⟩ := unguardW_iff (ops := ops) (o := o) (fr := fr)
  cases a with
  | no =>
    refine Good.congr (T := fun K H => U ∧ K undef H) ⟨fun K K' H h hk => ⟨h.1, hk _ _ (fun _ _ => rfl) h.2⟩, fun K H i sl _ _ h => h, fun β ⟨b0⟩ K H h => ⟨(h b0).1, fun b => (h b).2⟩⟩ (fun K H => (hU _).symm)
  | _ => exact ((good_core _).and G).congr (fun K H => (hG _).symm)

theorem t_comm {P : Program} {ops : Array Oper} {o : Oper} {fr : Nat → Value} (a : Ann) {T : (Value → Hp → Prop) → Hp → Prop} {rd wr : List Nat} (hT : Good T rd wr)
    (hw : ∀ x ∈ wrS a, x ∉ rd ∧ x ∉ wr) (hr : ∀ x ∈ wr, x ∉ rdS a) (H : Hp) (K : Value → Value → Hp → Prop)
    (h : tW P ops o a fr (fun v1 H1 => T (fun v2 H2 => K v1 v2 H2) H1) H) : T (fun v2 H2 => tW P ops o a fr (fun v1 H1 => K v1 v2 H1) H2) H := by
  obtain ⟨G, hG⟩ := guardW_iff (ops := ops) (o := o) (fr := fr)
  obtain ⟨U, hU⟩ := unguardW_iff (ops := ops) (o := o) (fr := fr)
  have core : ∀ a, (∀ x ∈ wrS a, x ∉ rd ∧ x ∉ wr) → (∀ x ∈ wr, x ∉ rdS a) → guardW ops o fr (coreW P (evalF fr) o a (fun v1 H1 => T (fun v2 H2 => K v1 v2 H2) H1) H) →
      T (fun v2 H2 => guardW ops o fr (coreW P (evalF fr) o a (fun v1 H1 => K v1 v2 H1) H2)) H := by
    intro a hw hr h
    obtain ⟨hg, h⟩ := (hG _).1 h
    exact hT.step _ _ _ (core_comm a hT hw hr H K h) fun v2 H2 _ h => (hG _).2 ⟨hg, h⟩
  cases a with
  | no =>
    obtain ⟨hg, h⟩ := (hU _).1 h
    exact hT.step _ _ _ h fun v2 H2 _ h => (hU _).2 ⟨hg, h⟩
  | _ => exact core _ hw hr h

theorem mem_rdT_operand {ops : Array Oper} {o : Oper} {t : Nat} (h : Operand.tmp t ∈ o.op.operands) : t ∈ rdT ops o := by
  refine List.mem_append.2 (.inr (List.mem_filterMap.2 ⟨_, Array.mem_toList_iff.2 h, rfl⟩))

theorem t_congr {P : Program} {ops : Array Oper} {o : Oper} {a : Ann} {fr fr' : Nat → Value} (hs : isSel o.op = false) (h : ∀ t ∈ rdT ops o, fr t = fr' t) (K : Value → Hp → Prop) (H : Hp) :
    tW P ops o a fr K H = tW P ops o a fr' K H := by
  have hev : ∀ x ∈ o.op.operands, evalF fr x = evalF fr' x := by
    intro x hx
    cases x with
    | tmp t => exact h t (mem_rdT_operand hx)
    | _ => rfl
  have hd : ∀ j b d, o.guard = some (j, b) → (ops[j]?).bind (·.dst) = some d → fr d = fr' d := by
    intro j b d hg hd
    refine h d (List.mem_append.2 (.inl ?_))
    rw [hg]; simp only; rw [hd]; simp
  have hg : ∀ X, guardW ops o fr X = guardW ops o fr' X := by
    intro X
    unfold guardW
    cases hg : o.guard with
    | none => rfl
    | some jb =>
      obtain ⟨j, b⟩ := jb
      simp only
      cases hx : (ops[j]?).bind (·.dst) with
      | none => rfl
      | some d => simp only; rw [hd j b d hg hx]
  have hu : ∀ X, unguardW ops o fr X = unguardW ops o fr' X := by
    intro X
    unfold unguardW
    cases hg : o.guard with
    | none => rfl
    | some jb =>
      obtain ⟨j, b⟩ := jb
      simp only
      cases hx : (ops[j]?).bind (·.dst) with
      | none => rfl
      | some d => simp only; rw [hd j b d hg hx]
  have he := execOp_congr (ρ := evalF fr) (ρ' := evalF fr') o hs hev
  have hc := callOf_congr (ρ := evalF fr) (ρ' := evalF fr') o.op hev
  have hv := opVals_congr (ρ := evalF fr) (ρ' := evalF fr') o.op hev
  cases a with
  | no => exact hu _
  | sem acc => simp only [tW, hg, coreW, he]
  | eq v => simp only [tW, hg, coreW, he, hv]
  | gen => simp only [tW, hg, coreW, he]; rw [hv]
  | specr => simp only [tW, hg, coreW, he, hv]
  | specw => simp only [tW, hg, coreW, he, hv]
  | callr => simp only [tW, hg, coreW, hc, hv]
  | callw => simp only [tW, hg, coreW, hc, hv]
  | calln => simp only [tW, hg, coreW, hc, hv]
  | dfr => simp only [tW, hg, coreW]

def dstOK (n : Nat) (o : Oper) : Bool := match o.dst with | some d => Nat.blt d n | none => true

def indep (n : Nat) (ops : Array Oper) (o1 : Oper) (a1 : Ann) (o2 : Oper) (a2 : Ann) : Bool :=
  disjB (wrT o1) (rdT ops o2) && (disjB (wrT o2) (rdT ops o1) && (disjB (wrT o1) (wrT o2) && (disjB (wrS a1) (rdS a2) && (disjB (wrS a1) (wrS a2) && (disjB (wrS a2) (rdS a1) &&
    (!isDfr a1 && (!isDfr a2 && (!isSel o1.op && (!isSel o2.op && dstOK n o2)))))))))

theorem putW_false {n d : Nat} {v : Value} {fr : Nat → Value} {K : (Nat → Value) → Prop} (h : Nat.blt d n = false) : putW n (some d) v fr K = False := by simp [putW, h]
theorem putW_true {n d : Nat} {v : Value} {fr : Nat → Value} {K : (Nat → Value) → Prop} (h : Nat.blt d n = true) : putW n (some d) v fr K = K (upd fr d v) := by simp [putW, h]

/-- Two operations that touch unlike things may change places. -/
theorem op_comm {P : Program} {n : Nat} {ops : Array Oper} {o1 o2 : Oper} {a1 a2 : Ann} {s : St} {K : St → Prop} (hi : indep n ops o1 a1 o2 a2 = true)
    (h : opW P n ops o1 a1 s (fun s1 => opW P n ops o2 a2 s1 K)) : opW P n ops o2 a2 s (fun s2 => opW P n ops o1 a1 s2 K) := by
  simp only [indep, Bool.and_eq_true, Bool.not_eq_true'] at hi
  obtain ⟨i1, i2, i3, i4, i5, i6, d1, d2, e1, e2, hok⟩ := hi
  rw [disjB_iff] at i1 i2 i3 i4 i5 i6
  have q1 : ∀ s, (fun s1 : St => opW P n ops o2 a2 s1 s) = fun s1 => tW P ops o2 a2 s1.fr (putK n o2 s1 s) s1.H := fun K => funext fun s1 => opW_eq d2
  have q2 : ∀ s, (fun s1 : St => opW P n ops o1 a1 s1 s) = fun s1 => tW P ops o1 a1 s1.fr (putK n o1 s1 s) s1.H := fun K => funext fun s1 => opW_eq d1
  rw [opW_eq d1, q1] at h
  rw [opW_eq d2, q2]
  -- what stands behind both
  let Z : Value → Value → Hp → Prop := fun v1 v2 H => putW n o1.dst v1 s.fr fun f1 => putW n o2.dst v2 f1 fun f2 => K ⟨f2, H, s.df⟩
  have keep1 : ∀ (v1 : Value) (t : Nat), t ∈ rdT ops o2 → ∀ d, o1.dst = some d → upd s.fr d v1 t = s.fr t := by
    intro v1 t ht d hd
    refine upd_other _ _ fun e => i1 d (by simp [wrT, hd]) (e ▸ ht)
  have keep2 : ∀ (v2 : Value) (t : Nat), t ∈ rdT ops o1 → ∀ d, o2.dst = some d → upd s.fr d v2 t = s.fr t := by
    intro v2 t ht d hd
    refine upd_other _ _ fun e => i2 d (by simp [wrT, hd]) (e ▸ ht)
  have g2 : Good (tW P ops o2 a2 s.fr) (rdS a2) (wrS a2) := good_t a2
  have h1 : tW P ops o1 a1 s.fr (fun v1 H1 => tW P ops o2 a2 s.fr (fun v2 H2 => Z v1 v2 H2) H1) s.H := by
    refine (good_t a1).step _ _ _ h fun v1 H1 _ hk => ?_
    simp only [putK] at hk
    simp only [Z]
    cases hd : o1.dst with
    | none => rw [hd] at hk; exact hk
    | some d =>
      rw [hd] at hk
      cases hb : Nat.blt d n with
      | false => rw [putW_false hb] at hk; exact hk.elim
      | true =>
        rw [putW_true hb] at hk
        simp only [putW_true hb]
        rw [t_congr e2 (fr' := s.fr) (fun t ht => keep1 v1 t ht d hd)] at hk
        exact hk
  have h2 := t_comm a1 g2 (fun x hx => ⟨i4 x hx, i5 x hx⟩) i6 s.H Z h1
  refine g2.step _ _ _ h2 fun v2 H2 _ hk => ?_
  simp only [putK]
  cases hd : o2.dst with
  | none =>
    show tW P ops o1 a1 s.fr _ H2
    refine (good_t a1).step _ _ _ hk fun v1 H1 _ hz => ?_
    simp only [Z, hd] at hz
    exact hz
  | some d =>
    have hb : Nat.blt d n = true := by simpa [dstOK, hd] using hok
    rw [putW_true hb]
    show tW P ops o1 a1 (upd s.fr d v2) _ H2
    rw [t_congr e1 (fr' := s.fr) (fun t ht => keep2 v2 t ht d hd)]
    refine (good_t a1).step _ _ _ hk fun v1 H1 _ hz => ?_
    simp only [Z, hd] at hz
    simp only [putK]
    cases hd1 : o1.dst with
    | none =>
      rw [hd1] at hz
      simp only [putW] at hz ⊢
      simpa [hb] using hz
    | some d1' =>
      rw [hd1] at hz
      cases hb1 : Nat.blt d1' n with
      | false => rw [putW_false hb1] at hz; exact hz.elim
      | true =>
        rw [putW_true hb1, putW_true hb] at hz
        rw [putW_true hb1]
        have hne : d1' ≠ d := fun e => i3 d1' (by simp [wrT, hd1]) (by simp [wrT, hd, e])
        rw [upd_comm _ _ _ (Ne.symm hne)]
        exact hz
end Go.Sx

namespace Go.Sx
open Go.RowKit

/-- The operations in a given order. -/
def seqW (P : Program) (n : Nat) (ops : Array Oper) : List (Nat × Ann) → St → (St → Prop) → Prop
  | [], s, K => K s
  | (i, a) :: l, s, K => match ops[i]? with | some o => opW P n ops o a s fun s' => seqW P n ops l s' K | none => False

theorem opW_mono {P : Program} {n : Nat} {ops : Array Oper} {o : Oper} {a : Ann} {s : St} {K K' : St → Prop} (hk : ∀ s, K s → K' s) (h : opW P n ops o a s K) : opW P n ops o a s K' := by
  have put : ∀ (d : Option Tmp) (v : Value) (fr : Nat → Value) (F : (Nat → Value) → St), putW n d v fr (fun f => K (F f)) → putW n d v fr (fun f => K' (F f)) := by
    intro d v fr F h
    unfold putW at h ⊢
    cases d with
    | none => exact hk _ h
    | some d => simp only at h ⊢; split <;> simp_all
  by_cases hd : isDfr a = false
  · rw [opW_eq hd] at h ⊢
    exact (good_t a).step _ _ _ h fun v H' _ hp => put _ _ _ _ hp
  · cases a <;> first | (exact absurd rfl hd) | skip
    obtain ⟨G, hG⟩ := guardW_iff (ops := ops) (o := o) (fr := s.fr)
    obtain ⟨hg, h⟩ := (hG _).1 h
    refine (hG _).2 ⟨hg, ?_⟩
    unfold dfrW at h ⊢
    split at h
    · split at h
      · exact put _ _ _ _ h
      · exact h.elim
    · exact h.elim

theorem seqW_mono {P : Program} {n : Nat} {ops : Array Oper} : ∀ {l : List (Nat × Ann)} {s : St} {K K' : St → Prop}, (∀ s, K s → K' s) → seqW P n ops l s K → seqW P n ops l s K'
  | [], _, _, _, hk, h => hk _ h
  | (i, a) :: l, s, K, K', hk, h => by
    simp only [seqW] at h ⊢
    cases ho : ops[i]? with
    | none => rw [ho] at h; exact h
    | some o => rw [ho] at h; exact opW_mono (fun s => seqW_mono hk) h

def indepI (n : Nat) (ops : Array Oper) (x y : Nat × Ann) : Bool :=
  match ops[x.1]?, ops[y.1]? with
  | some o1, some o2 => indep n ops o1 x.2 o2 y.2
  | _, _ => false

theorem seqW_front {P : Program} {n : Nat} {ops : Array Oper} {it : Nat × Ann} {L2 : List (Nat × Ann)} : ∀ {L1 : List (Nat × Ann)} {s : St} {K : St → Prop},
    (∀ x ∈ L1, indepI n ops x it = true) → seqW P n ops (L1 ++ it :: L2) s K → seqW P n ops (it :: (L1 ++ L2)) s K
  | [], _, _, _, h => h
  | x :: L1, s, K, hi, h => by
    have hx := hi x (by simp)
    obtain ⟨i, a⟩ := x
    obtain ⟨j, c⟩ := it
    unfold indepI at hx
    simp only at hx
    cases ho1 : ops[i]? with
    | none => rw [ho1] at hx; cases hx
    | some o1 =>
      cases ho2 : ops[j]? with
      | none => rw [ho1, ho2] at hx; cases hx
      | some o2 =>
        rw [ho1, ho2] at hx
        simp only [List.cons_append, seqW, ho1] at h
        have h2 := opW_mono (fun s hs => seqW_front (L1 := L1) (fun y hy => hi y (by simp [hy])) hs) h
        simp only [seqW, ho2] at h2
        have h3 := op_comm hx h2
        simp only [List.cons_append, seqW, ho1, ho2]
        exact h3

/-! ### A region in the text's order -/
theorem seq_sound {P : Program} {n : Nat} {r : Option Nat} {ops : Array Oper} {R : HP} {Q : Exit → Act → World → Prop} : ∀ (l : List (Nat × Ann)) {s : St} {K : St → Prop} {act : Act} {w : World},
    (r = none ∨ ∀ x ∈ l, isDfr x.2 = false) → seqW P n ops l s K → Rel n s act → Own s.H R w → (∀ a' w', After n K R w a' w' → Q .normal a' w') →
    wpOpsIn (FrR r) 0 P ops Q (l.map (·.1)) act w
  | [], s, K, act, w, _, h, hr, ho, hq => hq _ _ ⟨s, h, hr, ho, .refl _⟩
  | (i, a) :: l, s, K, act, w, hd, h, hr, ho, hq => by
    simp only [seqW] at h
    simp only [List.map_cons, wpOpsIn]
    cases hop : ops[i]? with
    | none => rw [hop] at h; exact h.elim
    | some o =>
      rw [hop] at h
      exact op_sound (hd.imp id fun h => h (i, a) (by simp)) h hr ho fun a' w' ⟨s', hs, hr', ho', he⟩ =>
        seq_sound l (hd.imp id fun h x hx => h x (by simp [hx])) hs hr' ho' fun a'' w'' ⟨s'', hs', hr'', ho'', he'⟩ => hq _ _ ⟨s'', hs', hr'', ho'', he.trans he'⟩

def zipFrom (i : Nat) : List Ann → List (Nat × Ann)
  | [] => []
  | a :: l => (i, a) :: zipFrom (i + 1) l

theorem zipFrom_idx : ∀ (as : List Ann) (i : Nat), (zipFrom i as).map (·.1) = List.range' i as.length
  | [], _ => rfl
  | a :: l, i => by simp [zipFrom, zipFrom_idx l (i + 1), List.range'_succ]

def lenIs : List Ann → Nat → Bool
  | [], n => Nat.beq n 0
  | _ :: l, n + 1 => lenIs l n
  | _ :: _, 0 => false
theorem lenIs_iff : ∀ {l : List Ann} {n : Nat}, lenIs l n = true → l.length = n
  | [], n, h => (Nat.eq_of_beq_eq_true h).symm
  | _ :: l, n + 1, h => by simp [lenIs_iff (l := l) (n := n) h]
  | _ :: _, 0, h => by cases h

theorem region_sound {P : Program} {n : Nat} {r : Option Nat} {id : Nat} {ops : Array Oper} {as : List Ann} {s : St} {K : St → Prop} {act : Act} {w : World} {R : HP} {Q : Exit → Act → World → Prop}
    (hl : lenIs as ops.size = true) (hd : r = none ∨ as.all (fun a => !isDfr a) = true) (h : seqW P n ops (zipFrom 0 as) s K) (hr : Rel n s act) (ho : Own s.H R w)
    (hq : ∀ a' w', After n K R w a' w' → Q .normal a' w') : (Code.region id ops false).wpIn (FrR r) 0 P Q act w := by
  refine wpIn_region ?_
  have e : List.range ops.size = (zipFrom 0 as).map (·.1) := by rw [zipFrom_idx, lenIs_iff hl, List.range_eq_range']
  rw [e]
  refine seq_sound _ (hd.imp _root_.id fun hd x hx => ?_) h hr ho hq
  have mem : ∀ (as : List Ann) (i : Nat) x, x ∈ zipFrom i as → x.2 ∈ as := by
    intro as
    induction as with
    | nil => intro i x hx; cases hx
    | cons a l ih =>
      intro i x hx
      rcases List.mem_cons.1 hx with rfl | hx
      · simp
      · exact List.mem_cons.2 (.inr (ih _ x hx))
  have := List.all_eq_true.1 hd x.2 (mem as 0 x hx)
  simpa using this

/-! ### A region that draws its order -/
inductive Prec (ops : Array Oper) : Nat → Nat → Prop where
  | direct {o : Oper} {e : Edge} {i : Nat} (ho : ops[i]? = some o) (he : e ∈ o.after) (hb : Region.binds .any e = true) : Prec ops e.on i
  | trans {o : Oper} {e : Edge} {x i : Nat} (ho : ops[i]? = some o) (he : e ∈ o.after) (hb : Region.binds .any e = true) (h : Prec ops x e.on) : Prec ops x i

def maskOf (o : Oper) (acc : List Nat) : Nat :=
  o.after.toList.foldl (fun m e => bif Region.binds .any e then m ||| 2 ^ e.on ||| acc.getD e.on 0 else m) 0

theorem maskOf_bit {o : Oper} {acc : List Nat} {x : Nat} (h : (maskOf o acc).testBit x = true) : ∃ e ∈ o.after, Region.binds .any e = true ∧ (x = e.on ∨ (acc.getD e.on 0).testBit x = true) := by
  have key : ∀ (l : List Edge) (m : Nat), (l.foldl (fun m e => bif Region.binds .any e then m ||| 2 ^ e.on ||| acc.getD e.on 0 else m) m).testBit x = true →
      m.testBit x = true ∨ ∃ e ∈ l, Region.binds .any e = true ∧ (x = e.on ∨ (acc.getD e.on 0).testBit x = true) := by
    intro l
    induction l with
    | nil => exact fun m h => .inl h
    | cons e l ih =>
      intro m h
      rcases ih _ h with h | ⟨e', he', h⟩
      · cases hb : Region.binds .any e with
        | false => simp only [hb, cond_false] at h; exact .inl h
        | true =>
          simp only [hb, cond_true, Nat.testBit_or, Bool.or_eq_true] at h
          rcases h with (h | h) | h
          · exact .inl h
          · rw [Nat.testBit_two_pow] at h
            exact .inr ⟨e, by simp, hb, .inl (by simpa using (of_decide_eq_true h).symm)⟩
          · exact .inr ⟨e, by simp, hb, .inr h⟩
      · exact .inr ⟨e', by simp [he'], h⟩
  rcases key _ _ h with h | ⟨e, he, h⟩
  · simp at h
  · exact ⟨e, Array.mem_toList_iff.1 he, h⟩

/-- Each operation behind those ahead of it: an edge leads there, or they touch unlike things; and edges lead back alone. -/
def chk (n : Nat) (ops : Array Oper) : (i : Nat) → (done : List (Nat × Ann)) → (masks : List Nat) → List Ann → Bool
  | _, _, _, [] => true
  | i, done, masks, a :: l =>
    match ops[i]? with
    | none => false
    | some o =>
      o.after.toList.all (fun e => !Region.binds .any e || Nat.blt e.on i) && ((done.all fun x => (maskOf o masks).testBit x.1 || indepI n ops x (i, a)) &&
        chk n ops (i + 1) (done ++ [(i, a)]) (masks ++ [maskOf o masks]) l)

/-- What the check says of each pair. -/
structure Drawn (n : Nat) (ops : Array Oper) (L : List (Nat × Ann)) : Prop where
  pair : ∀ L1 it L2, L = L1 ++ it :: L2 → ∀ x ∈ L1, Prec ops x.1 it.1 ∨ indepI n ops x it = true

theorem chk_sound {n : Nat} {ops : Array Oper} : ∀ (l : List Ann) (i : Nat) (done : List (Nat × Ann)) (masks : List Nat),
    chk n ops i done masks l = true → masks.length = i → (∀ y x, y < i → (masks.getD y 0).testBit x = true → Prec ops x y) →
    (∀ it, it ∈ zipFrom i l → ∃ o, ops[it.1]? = some o ∧ ∀ e ∈ o.after, Region.binds .any e = true → e.on < it.1) ∧
    (∀ L1 it L2, zipFrom i l = L1 ++ it :: L2 → ∀ x, x ∈ done ++ L1 → Prec ops x.1 it.1 ∨ indepI n ops x it = true)
  | [], i, done, masks, _, _, _ => ⟨fun it h => (by cases h), fun L1 it L2 h => (by simp [zipFrom] at h)⟩
  | a :: l, i, done, masks, h, hm, hp => by
    simp only [chk] at h
    cases ho : ops[i]? with
    | none => rw [ho] at h; cases h
    | some o =>
      rw [ho] at h
      simp only [Bool.and_eq_true] at h
      obtain ⟨h1, h2, h3⟩ := h
      have hback : ∀ e ∈ o.after, Region.binds .any e = true → e.on < i := by
        intro e he hb
        have := List.all_eq_true.1 h1 e (Array.mem_toList_iff.2 he)
        simp only [hb, Bool.not_true, Bool.false_or] at this
        simpa [Nat.blt_eq] using this
      have hmask : ∀ x, (maskOf o masks).testBit x = true → Prec ops x i := by
        intro x hx
        obtain ⟨e, he, hb, h⟩ := maskOf_bit hx
        rcases h with rfl | h
        · exact .direct ho he hb
        · exact .trans ho he hb (hp e.on x (hback e he hb) h)
      obtain ⟨r1, r2⟩ := chk_sound l (i + 1) (done ++ [(i, a)]) (masks ++ [maskOf o masks]) h3 (by simp [hm]) (by
        intro y x hy hb
        by_cases e : y = i
        · subst e
          rw [List.getD_eq_getElem?_getD, List.getElem?_append_right (by omega)] at hb
          simp [hm] at hb
          exact hmask x hb
        · rw [List.getD_eq_getElem?_getD, List.getElem?_append_left (by omega), ← List.getD_eq_getElem?_getD] at hb
          exact hp y x (by omega) hb)
      refine ⟨fun it hit => ?_, fun L1 it L2 hL x hx => ?_⟩
      · rcases List.mem_cons.1 hit with rfl | hit
        · exact ⟨o, ho, hback⟩
        · exact r1 it hit
      · cases L1 with
        | nil =>
          simp only [zipFrom, List.nil_append, List.cons.injEq] at hL
          obtain ⟨rfl, -⟩ := hL
          rw [List.append_nil] at hx
          have := List.all_eq_true.1 h2 x hx
          rcases Bool.or_eq_true _ _ ▸ this with h | h
          · exact .inl (hmask x.1 h)
          · exact .inr h
        | cons y L1 =>
          simp only [zipFrom, List.cons_append, List.cons.injEq] at hL
          obtain ⟨rfl, hL⟩ := hL
          exact r2 L1 it L2 hL x (by simp at hx ⊢; rcases hx with h | h | h <;> simp [h])

theorem go_acc {m : Region.Mode} {ops : Array Oper} : ∀ (fuel t : Nat) (listed : Array Bool) (acc : List Nat),
    Region.linearise.go m ops fuel t listed acc = acc.reverse ++ Region.linearise.go m ops fuel t listed []
  | 0, t, listed, acc => by simp [Region.linearise.go]
  | fuel + 1, t, listed, acc => by
    simp only [Region.linearise.go]
    split
    · rename_i i _
      rw [go_acc fuel _ _ (i :: acc), go_acc fuel _ _ [i]]
      simp
    · simp

theorem draw_sound {P : Program} {n : Nat} {r : Option Nat} {ops : Array Oper} {R : HP} {Q : Exit → Act → World → Prop} (fuel : Nat) : ∀ (t : Nat) (listed : Array Bool) (L : List (Nat × Ann)) {s : St} {K : St → Prop} {act : Act} {w : World},
    L.length = fuel → listed.size = ops.size → (∀ i, i < ops.size → (listed.getD i true = false ↔ i ∈ L.map (·.1))) →
    (L.map (·.1)).Nodup →
    (∀ it ∈ L, it.1 < ops.size) →
    (∀ i o e, ops[i]? = some o → listed.getD i true = true → e ∈ o.after → Region.binds .any e = true → listed.getD e.on false = true) →
    (∀ it L2, L = it :: L2 → ∀ o e, ops[it.1]? = some o → e ∈ o.after → Region.binds .any e = true → listed.getD e.on false = true) →
    (∀ L1 it L2, L = L1 ++ it :: L2 → ∀ o e, ops[it.1]? = some o → e ∈ o.after → Region.binds .any e = true → listed.getD e.on false = true ∨ e.on ∈ L1.map (·.1)) →
    (∀ L1 it L2, L = L1 ++ it :: L2 → ∀ x ∈ L1, Prec ops x.1 it.1 ∨ indepI n ops x it = true) →
    (r = none ∨ ∀ x ∈ L, isDfr x.2 = false) → seqW P n ops L s K → Rel n s act → Own s.H R w → (∀ a' w', After n K R w a' w' → Q .normal a' w') →
    wpOpsIn (FrR r) 0 P ops Q (Region.linearise.go .any ops fuel t listed []) act w := by
  induction fuel with
  | zero =>
    intro t listed L s K act w hlen _ _ _ _ _ _ _ _ _ h hr ho hq
    cases L with
    | nil => exact hq _ _ ⟨s, h, hr, ho, .refl _⟩
    | cons a l => simp at hlen
  | succ fuel ih =>
    intro t listed L s K act w hlen hsz hin hnd hlt hdown hfirst hedge hpair hd h hr ho hq
    simp only [Region.linearise.go]
    generalize hrs : (List.range ops.size).filter (fun i => !listed.getD i true && ((ops[i]?).map (·.after.all fun e => !Region.binds .any e || listed.getD e.on false)).getD false) = rs
    have hmem : ∀ i, i ∈ rs ↔ i < ops.size ∧ listed.getD i true = false ∧ ∃ o, ops[i]? = some o ∧ ∀ e ∈ o.after, Region.binds .any e = true → listed.getD e.on false = true := by
      intro i
      rw [← hrs, List.mem_filter, List.mem_range]
      constructor
      · rintro ⟨h1, h2⟩
        simp only [Bool.and_eq_true, Bool.not_eq_true'] at h2
        refine ⟨h1, h2.1, ?_⟩
        cases hop : ops[i]? with
        | none => rw [hop] at h2; simp at h2
        | some o =>
          rw [hop] at h2
          refine ⟨o, rfl, fun e he hb => ?_⟩
          have := Array.all_eq_true'.1 h2.2 e he
          simpa [hb] using this
      · rintro ⟨h1, h2, o, hop, he⟩
        refine ⟨h1, ?_⟩
        simp only [Bool.and_eq_true, Bool.not_eq_true']
        refine ⟨h2, ?_⟩
        rw [hop]
        refine Array.all_eq_true'.2 fun e hea => ?_
        cases hb : Region.binds .any e with
        | false => rfl
        | true => simp [he e hea hb]
    have hne : rs.length ≠ 0 := by
      cases L with
      | nil => simp at hlen
      | cons it L2 =>
        have hl := hlt it (by simp)
        have : it.1 ∈ rs := (hmem it.1).2 ⟨hl, (hin it.1 hl).2 (by simp), ops[it.1], by simp [hl], fun e he hb => hfirst it L2 rfl _ e (by simp [hl]) he hb⟩
        intro h0
        rw [List.length_eq_zero_iff] at h0
        rw [h0] at this
        cases this
    have hidx : t % rs.length < rs.length := Nat.mod_lt _ (Nat.pos_of_ne_zero hne)
    rw [List.getElem?_eq_getElem hidx]
    generalize hi : rs[t % rs.length] = i
    have hi' : i ∈ rs := hi ▸ List.getElem_mem hidx
    obtain ⟨hil, hil2, o, hop, hready⟩ := (hmem i).1 hi'
    simp only
    rw [go_acc]
    simp only [List.reverse_cons, List.reverse_nil, List.nil_append, List.singleton_append]
    have hiL := (hin i hil).1 hil2
    obtain ⟨it, hit, rfl⟩ := List.mem_map.1 hiL
    obtain ⟨L1, L2, rfl⟩ := List.append_of_mem hit
    -- nothing that is left ahead of it leads to it
    have hnoprec : ∀ x ∈ L1, ¬ Prec ops x.1 it.1 := by
      have closed : ∀ {a b : Nat}, Prec ops a b → (listed.getD b true = true ∨ b = it.1) → listed.getD a false = true := by
        intro a b hp
        induction hp with
        | direct ho' he hb =>
          rintro (hl | rfl)
          · exact hdown _ _ _ ho' hl he hb
          · rw [hop] at ho'; cases ho'; exact hready _ he hb
        | @trans o' e x i ho' he hb _ ihp =>
          intro hl
          have h1 : listed.getD e.on false = true := by
            rcases hl with hl | rfl
            · exact hdown _ _ _ ho' hl he hb
            · rw [hop] at ho'; cases ho'; exact hready _ he hb
          refine ihp (.inl ?_)
          simp only [Array.getD_eq_getD_getElem?] at h1 ⊢
          cases hx : listed[e.on]? with
          | none => rw [hx] at h1; simp at h1
          | some b => rw [hx] at h1; simpa using h1
      intro x hx hp
      have hxl := hlt x (by simp [hx])
      have h1 := closed hp (.inr rfl)
      have h2 := (hin x.1 hxl).2 (by simp; exact .inl ⟨x.2, hx⟩)
      simp only [Array.getD_eq_getD_getElem?] at h1 h2
      cases hx' : listed[x.1]? with
      | none => rw [hx'] at h1; simp at h1
      | some b => rw [hx'] at h1 h2; simp at h1 h2; rw [h1] at h2; cases h2
    have hfront := seqW_front (fun x hx => (hpair L1 it L2 rfl x hx).resolve_left (hnoprec x hx)) h
    obtain ⟨i, a⟩ := it
    simp only [seqW] at hfront
    simp only [wpOpsIn]
    rw [hop] at hfront ⊢
    refine op_sound (hd.imp id fun h => h (i, a) (by simp)) hfront hr ho fun a' w' ⟨s', hs, hr', ho', he⟩ => ?_
    have hget : ∀ j, (listed.setIfInBounds i true).getD j true = if j = i then true else listed.getD j true := by
      intro j
      simp only [Array.getD_eq_getD_getElem?, Array.getElem?_setIfInBounds]
      by_cases e : j = i
      · subst e; simp; split <;> rfl
      · simp [e, Ne.symm e]
    have hgetf : ∀ j, listed.getD j false = true ∨ j = i → (listed.setIfInBounds i true).getD j false = true := by
      intro j hj
      simp only [Array.getD_eq_getD_getElem?, Array.getElem?_setIfInBounds] at hj ⊢
      by_cases e : j = i
      · subst e; simp [hsz]; simp at hil; simp [hil]
      · rcases hj with hj | hj
        · simp [Ne.symm e]; simpa using hj
        · exact absurd hj e
    rw [List.map_append, List.map_cons] at hnd
    have hnd' : ((L1 ++ L2).map (·.1)).Nodup := by
      rw [List.map_append]
      exact List.Nodup.sublist (List.Sublist.append_left (List.sublist_cons_self _ _) _) hnd
    have hni : i ∉ (L1 ++ L2).map (·.1) := by
      rw [List.map_append, List.mem_append]
      rw [List.nodup_append] at hnd
      obtain ⟨_, h2, h3⟩ := hnd
      rw [List.nodup_cons] at h2
      rintro (h | h)
      · exact h3 i h i (by simp) rfl
      · exact h2.1 h
    have hsub : ∀ M1 y M2, L1 ++ L2 = M1 ++ y :: M2 → ∃ N1 N2, L1 ++ (i, a) :: L2 = N1 ++ y :: N2 ∧ (∀ x ∈ M1, x ∈ N1) ∧ (∀ x ∈ N1, x ∈ M1 ∨ x = (i, a)) := by
      intro M1 y M2 hM
      rcases List.append_eq_append_iff.1 hM with ⟨as, h1, h2⟩ | ⟨bs, h1, h2⟩
      · -- M1 = L1 ++ as, L2 = as ++ y :: M2
        subst h1
        refine ⟨L1 ++ (i, a) :: as, M2, by rw [h2]; simp, fun x hx => ?_, fun x hx => ?_⟩
        · rw [List.mem_append] at hx ⊢; rcases hx with h | h <;> simp [h]
        · rw [List.mem_append, List.mem_cons] at hx; rw [List.mem_append]; rcases hx with h | h | h <;> simp [h]
      · -- L1 = M1 ++ bs, y :: M2 = bs ++ L2
        subst h1
        cases bs with
        | nil =>
          simp only [List.nil_append] at h2
          subst h2
          exact ⟨M1 ++ [(i, a)], M2, by simp, fun x hx => by simp [hx], fun x hx => by simp at hx; rcases hx with h | h <;> simp [h]⟩
        | cons b bs =>
          simp only [List.cons_append, List.cons.injEq] at h2
          obtain ⟨rfl, rfl⟩ := h2
          exact ⟨M1, bs ++ (i, a) :: L2, by simp, fun x hx => hx, fun x hx => .inl hx⟩
    have hstep := ih (t / rs.length) (listed.setIfInBounds i true) (L1 ++ L2) (s := s') (K := K) (act := a') (w := w') (by simp at hlen ⊢; omega) (by simp [hsz])
      (fun j hj => by
        rw [hget]
        by_cases e : j = i
        · subst e; simp only [if_true]; exact ⟨fun h => (by cases h), fun h => absurd h hni⟩
        · rw [if_neg e, hin j hj]; simp [e])
      hnd' (fun it hit => hlt it (by simp at hit ⊢; rcases hit with h | h <;> simp [h]))
      (fun j o' e ho' hl hea hb => by
        rw [hget] at hl
        by_cases ej : j = i
        · subst ej; rw [hop] at ho'; cases ho'; exact hgetf _ (.inl (hready e hea hb))
        · rw [if_neg ej] at hl; exact hgetf _ (.inl (hdown j o' e ho' hl hea hb)))
      (fun y M2 hM o' e ho' hea hb => by
        obtain ⟨N1, N2, hN, _, hN2⟩ := hsub [] y M2 hM
        rcases hedge N1 y N2 hN o' e ho' hea hb with h | h
        · exact hgetf _ (.inl h)
        · obtain ⟨x, hx, hxe⟩ := List.mem_map.1 h
          rcases hN2 x hx with h | rfl
          · cases h
          · exact hgetf _ (.inr hxe.symm))
      (fun M1 y M2 hM o' e ho' hea hb => by
        obtain ⟨N1, N2, hN, hN1, hN2⟩ := hsub M1 y M2 hM
        rcases hedge N1 y N2 hN o' e ho' hea hb with h | h
        · exact .inl (hgetf _ (.inl h))
        · obtain ⟨x, hx, hxe⟩ := List.mem_map.1 h
          rcases hN2 x hx with h | rfl
          · exact .inr (List.mem_map.2 ⟨x, h, hxe⟩)
          · exact .inl (hgetf _ (.inr hxe.symm)))
      (fun M1 y M2 hM x hx => by
        obtain ⟨N1, N2, hN, hN1, _⟩ := hsub M1 y M2 hM
        exact hpair N1 y N2 hN x (hN1 x hx))
      (hd.imp id fun h x hx => h x (by simp at hx ⊢; rcases hx with h | h <;> simp [h])) hs hr' ho' (fun a'' w'' ⟨s'', hs', hr'', ho'', he'⟩ => hq _ _ ⟨s'', hs', hr'', ho'', he.trans he'⟩)
    exact hstep

def regOK (n : Nat) (ops : Array Oper) (as : List Ann) : Bool := lenIs as ops.size && chk n ops 0 [] [] as

theorem region_draw_sound {P : Program} {n : Nat} {r : Option Nat} {id : Nat} {ops : Array Oper} {as : List Ann} {s : St} {K : St → Prop} {act : Act} {w : World} {R : HP} {Q : Exit → Act → World → Prop}
    (hP : P.follows .mixedOrders = true) (hc : regOK n ops as = true) (hd : r = none ∨ as.all (fun a => !isDfr a) = true) (h : seqW P n ops (zipFrom 0 as) s K) (hr : Rel n s act) (ho : Own s.H R w)
    (hq : ∀ a' w', After n K R w a' w' → Q .normal a' w') : (Code.region id ops true).wpIn (FrR r) 0 P Q act w := by
  refine wpIn_region_draw fun t => ?_
  simp only [regOK, Bool.and_eq_true] at hc
  have hlen := lenIs_iff hc.1
  rw [hP]
  simp only [Region.schedule, Bool.true_or, if_true, Region.linearise]
  obtain ⟨c1, c2⟩ := chk_sound as 0 [] [] hc.2 rfl (fun y x hy => by omega)
  have hidx := zipFrom_idx as 0
  have hzlen : (zipFrom 0 as).length = ops.size := by rw [← List.length_map (f := (·.1)), hidx]; simp [hlen]
  have hmemlt : ∀ it ∈ zipFrom 0 as, it.1 < ops.size := by
    intro it hit
    have : it.1 ∈ (zipFrom 0 as).map (·.1) := List.mem_map.2 ⟨it, hit, rfl⟩
    rw [hidx, List.mem_range'_1] at this
    omega
  -- in a list of numbers that rise one by one, what is less stands ahead
  have hahead : ∀ L1 it L2, zipFrom 0 as = L1 ++ it :: L2 → ∀ j, j < it.1 → j ∈ L1.map (·.1) := by
    intro L1 it L2 hL j hj
    have h1 : (L1.map (·.1)) ++ it.1 :: L2.map (·.1) = List.range' 0 as.length := by rw [← hidx, hL]; simp
    have hsort : ((L1.map (·.1)) ++ it.1 :: L2.map (·.1)).Pairwise (· < ·) := by rw [h1]; exact List.pairwise_lt_range'
    have hin : it.1 ∈ List.range' 0 as.length := by rw [← h1]; simp
    have hj' : j ∈ (L1.map (·.1)) ++ it.1 :: L2.map (·.1) := by
      rw [h1, List.mem_range'_1]
      rw [List.mem_range'_1] at hin
      omega
    rcases List.mem_append.1 hj' with h | h
    · exact h
    · rcases List.mem_cons.1 h with h | h
      · omega
      · have := (List.pairwise_cons.1 (List.pairwise_append.1 hsort).2.1).1 j h
        omega
  have hw0 : Own s.H R { w with drawn := w.drawn + 1 } := ho.same fun _ _ h => h
  refine draw_sound ops.size t (Array.replicate ops.size false) (zipFrom 0 as) hzlen (by simp) ?_ (by rw [hidx]; exact List.nodup_range') hmemlt ?_ ?_ ?_ (fun L1 it L2 hL x hx => c2 L1 it L2 hL x (by simpa using hx)) ?_ h hr hw0 ?_
  · intro i hi
    rw [hidx, List.mem_range'_1]
    simp [Array.getD_eq_getD_getElem?, hi, hlen]
  · intro i o e hop hl
    have hi : i < ops.size := by
      rcases Nat.lt_or_ge i ops.size with h | h
      · exact h
      · simp [Array.getElem?_eq_none h] at hop
    simp [Array.getD_eq_getD_getElem?, hi] at hl
  · intro it L2 hL o e hop hea hb
    obtain ⟨o', ho', hb'⟩ := c1 it (by rw [hL]; simp)
    rw [hop] at ho'
    cases ho'
    have := hahead [] it L2 hL e.on (hb' e hea hb)
    cases this
  · intro L1 it L2 hL o e hop hea hb
    obtain ⟨o', ho', hb'⟩ := c1 it (by rw [hL]; simp)
    rw [hop] at ho'
    cases ho'
    exact .inr (hahead L1 it L2 hL e.on (hb' e hea hb))
  · refine hd.imp _root_.id fun hd x hx => ?_
    have mem : ∀ (as : List Ann) (i : Nat) x, x ∈ zipFrom i as → x.2 ∈ as := by
      intro as
      induction as with
      | nil => intro i x hx; cases hx
      | cons a l ih =>
        intro i x hx
        rcases List.mem_cons.1 hx with rfl | hx
        · simp
        · exact List.mem_cons.2 (.inr (ih _ x hx))
    have := List.all_eq_true.1 hd x.2 (mem as 0 x hx)
    simpa using this
  · rintro a' w' ⟨s', hs, hr', ho', he⟩
    exact hq _ _ ⟨s', hs, hr', ho', Ext.trans (b := { w with drawn := w.drawn + 1 }) ⟨rfl, rfl, rfl, Nat.le_refl _, by first | exact Nat.le_refl _ | exact Nat.le_succ _ | simp⟩ he⟩
end Go.Sx

namespace Go.Sx
open Go.RowKit

inductive Script : Type 1 where
  | done
  | reg (as : List Ann) (k : Script)
  | condT (k : Script)
  | condF (k : Script)
  | cond (k1 k2 : Script)
  | caseP (b : St → Bool) (k1 k2 : Script)
  | cut (X : Type) (live : X → List (Nat × Value)) (heap : X → List (Nat × Slot)) (Φ : X → Prop) (k : X → Script)
  | join (X : Type) (live : X → List (Nat × Value)) (heap : X → List (Nat × Slot)) (Φ : X → Prop) (k1 : Script) (k2 : X → Script)
  | inv (X : Type) (live : X → List (Nat × Value)) (heap : X → List (Nat × Slot)) (Φ : X → Prop) (μ : X → Nat) (kb : X → Script)
  | sinv (l : Nat) (X : Type) (live : X → List (Nat × Value)) (heap : X → List (Nat × Slot)) (Φ : X → Prop) (μ : X → Nat) (k0 : Script) (k1 : X → Script)
  | ghost (ids : List Nat) (φ : List Slot → Prop) (k : Script)
  | rf (ts ins outs : List Nat) (C : (Nat → Value) → List Slot → Ctr) (k : Script)

def lookL {α : Type _} : List (Nat × α) → Nat → Option α
  | [], _ => none
  | (i, v) :: l, j => bif Nat.beq j i then some v else lookL l j
def mkS (live : List (Nat × Value)) (heap : List (Nat × Slot)) (junk : Nat → Value) (df : List Deferred) : St where
  fr := fun i => match lookL live i with | some v => v | none => junk i
  H := fun i => match lookL heap i with | some s => s | none => .free
  df := df
def liveW (l : List (Nat × Value)) (fr : Nat → Value) (Y : Prop) : Prop :=
  match l with
  | [] => Y
  | (i, v) :: l => fr i = v ∧ liveW l fr Y
def heapW (l : List (Nat × Slot)) (H : Hp) (Y : Prop) : Prop :=
  match l with
  | [] => Y
  | (i, s) :: l => H i = s ∧ heapW l H Y
def dfW (a b : List Deferred) (Y : Prop) : Prop :=
  match a with
  | [] => (match b with | [] => Y | _ => False)
  | x :: l => x :: l = b ∧ Y
/-- A state is one that a cut describes. -/
def atW (live : List (Nat × Value)) (heap : List (Nat × Slot)) (df : List Deferred) (s : St) (X : Prop) : Prop := liveW live s.fr (heapW heap s.H (dfW s.df df X))

def dfrOK (r : Option Nat) (as : List Ann) : Bool := match r with | none => true | some _ => as.all (fun a => !isDfr a)

abbrev markOf (D : Nat) : Deferred := { target := .collected D, args := #[] }
/-- A range over a function whose rounds all go on: what it does, over slots. -/
def RangeT (P : Program) (n : Nat) (g : Operand) (ps : Array Tmp) (as b : Code) (fr : Nat → Value) (Hs : List Slot) (X : Type) (us : X → List Slot) (Φ : X → Prop) : Prop :=
  ∀ (R : HP) (w : World) (act : Act), act.tmps.size = n → (∀ i, act.tmps.getD i undef = fr i) → Own (ofList Hs) R w →
    (Code.rangeFunc g ps as b).wpIn (FrR none) 0 P (fun e a' w' => e = .normal ∧ a'.tmps = act.tmps ∧ ∃ D x, a'.defers = markOf D :: act.defers ∧ Φ x ∧ Own (ofList (.blk D (.deferred (some [])) :: us x)) R w' ∧ Ext w w') act w
theorem RangeT.use {P : Program} {n : Nat} {g : Operand} {ps : Array Tmp} {as b : Code} {fr : Nat → Value} {H : Hp} {ins outs : List Nat} {X : Type} {us : X → List Slot} {Φ : X → Prop} {R : HP} {w : World} {act : Act}
    (h : RangeT P n g ps as b fr (ins.map H) X us Φ) (hz : act.tmps.size = n) (ht : ∀ i, act.tmps.getD i undef = fr i) (hi : ins.Nodup) (ho : outs.Nodup) (hw : Own H R w) :
    (Code.rangeFunc g ps as b).wpIn (FrR none) 0 P (fun e a' w' => e = .normal ∧ a'.tmps = act.tmps ∧ ∃ D x, a'.defers = markOf D :: act.defers ∧ Φ x ∧ Own (updL (clears H ins) outs (.blk D (.deferred (some [])) :: us x)) R w' ∧ Ext w w') act w :=
  wpIn_mono (h _ w act hz ht (own_split hi hw)) fun _ _ _ ⟨h1, h2, D, x, h3, h4, h5, h6⟩ => ⟨h1, h2, D, x, h3, h4, own_join ho h5, h6⟩

def agreeW (ts : List Nat) (fr' fr : Nat → Value) (Y : Prop) : Prop :=
  match ts with
  | [] => Y
  | t :: ts => fr' t = fr t → agreeW ts fr' fr Y
theorem agreeW_self : ∀ {ts : List Nat} {fr : Nat → Value} {Y : Prop}, agreeW ts fr fr Y → Y
  | [], _, _, h => h
  | _ :: _, _, _, h => agreeW_self (h rfl)
def codeW (P : Program) (n : Nat) (r : Option Nat) : Nat → Option Code → Code → Script → St → (Exit → St → Script → Prop) → Prop
  | 0, _, _, _, _, _ => False
  | f + 1, some body, c, k, s, K => codeW P n r f none c k s fun e s' k' =>
      match e with
      | .goto l => match findLabel body l with | some rest => codeW P n r f (some body) rest k' s' K | none => K (.goto l) s' k'
      | e => K e s' k'
  | f + 1, none, c, .cut _ live heap Φ k, s, K =>
      (∃ x, Φ x ∧ atW (live x) (heap x) s.df s True) ∧ ∀ x (junk : Nat → Value), Φ x → codeW P n r f none c (k x) (mkS (live x) (heap x) junk s.df) K
  | f + 1, none, c, .caseP b k1 k2, s, K => (b s = true → codeW P n r f none c k1 s K) ∧ (b s = false → codeW P n r f none c k2 s K)
  | f + 1, none, c, .ghost ids φ k, s, K => onB (nodB ids) ((∀ (R : HP) (w : World), Own (ofList (ids.map s.H)) R w → φ (ids.map s.H)) ∧ (φ (ids.map s.H) → codeW P n r f none c k s K))
  | _ + 1, none, .skip, k, s, K => K .normal s k
  | _ + 1, none, .label _, k, s, K => K .normal s k
  | _ + 1, none, .ret, k, s, K => K .ret s k
  | _ + 1, none, .exit id, k, s, K => K (.exit id) s k
  | _ + 1, none, .goto l, k, s, K => K (.goto l) s k
  | f + 1, none, .seq x y, .join _ live heap Φ k1 k2, s, K =>
      codeW P n r f none x k1 s (fun e s' k' => match e with | .normal => ∃ x, Φ x ∧ atW (live x) (heap x) s.df s' True | e => K e s' k') ∧
      ∀ x (junk : Nat → Value), Φ x → codeW P n r f none y (k2 x) (mkS (live x) (heap x) junk s.df) K
  | f + 1, none, .seq x y, k, s, K => codeW P n r f none x k s fun e s' k' => match e with | .normal => codeW P n r f none y k' s' K | e => K e s' k'
  | _ + 1, none, .region _ ops draw, .reg as k', s, K =>
      onB (bif draw then regOK n ops as else lenIs as ops.size) (onB (dfrOK r as) (seqW P n ops (zipFrom 0 as) s fun s' => K .normal s' k'))
  | f + 1, none, .cond c x y, k, s, K =>
      match evalF s.fr c with
      | .bool b =>
        match k with
        | .condT k' => b = true ∧ codeW P n r f none x k' s K
        | .condF k' => b = false ∧ codeW P n r f none y k' s K
        | .cond k1 k2 => (b = true → codeW P n r f none x k1 s K) ∧ (b = false → codeW P n r f none y k2 s K)
        | _ => False
      | _ => False
  | f + 1, none, .block id c, k, s, K => codeW P n r f none c k s fun e s' k' =>
      match e with
      | .exit id' => match Nat.beq id' id with | true => K .normal s' k' | false => K (.exit id') s' k'
      | e => K e s' k'
  | f + 1, none, .loop c, .inv _ live heap Φ μ kb, s, K =>
      (∃ x, Φ x ∧ atW (live x) (heap x) s.df s True) ∧ ∀ x (junk : Nat → Value), Φ x →
        codeW P n r f none c (kb x) (mkS (live x) (heap x) junk s.df) fun e s' k' =>
          match e with
          | .normal => ∃ y, Φ y ∧ μ y < μ x ∧ atW (live y) (heap y) s.df s' True
          | e => K e s' k'
  | f + 1, none, .loop c, k, s, K => codeW P n r f none c k s fun e s' k' => match e with | .normal => codeW P n r f none (.loop c) k' s' K | e => K e s' k'
  | f + 1, none, .scope body, .sinv l _ live heap Φ μ k0 k1, s, K =>
      match r, findLabel body l with
      | none, some rest =>
        codeW P n r f none body k0 s (fun e s' k' =>
          match e with
          | .goto l' => match Nat.beq l' l with | true => ∃ x, Φ x ∧ atW (live x) (heap x) s.df s' True | false => False
          | e => K e s' k') ∧
        ∀ x (junk : Nat → Value), Φ x → codeW P n r f none rest (k1 x) (mkS (live x) (heap x) junk s.df) fun e s' k' =>
          match e with
          | .goto l' => match Nat.beq l' l with | true => ∃ y, Φ y ∧ μ y < μ x ∧ atW (live y) (heap y) s.df s' True | false => False
          | e => K e s' k'
      | _, _ => False
  | f + 1, none, .scope body, k, s, K => match r with | none => codeW P n r f (some body) body k s K | some _ => False
  | _ + 1, none, .rangeFunc g ps as b, .rf ts ins outs C k, s, K =>
      match r with
      | none => onB (nodB ins) (onB (nodB outs) ((∀ fr' : Nat → Value, agreeW ts fr' s.fr (RangeT P n g ps as b fr' (ins.map s.H) (C s.fr (ins.map s.H)).X (C s.fr (ins.map s.H)).us (C s.fr (ins.map s.H)).Φ)) ∧ (∃ x, (C s.fr (ins.map s.H)).Φ x) ∧
          ∀ D x, (C s.fr (ins.map s.H)).Φ x → K .normal ⟨s.fr, updL (clears s.H ins) outs (.blk D (.deferred (some [])) :: (C s.fr (ins.map s.H)).us x), markOf D :: s.df⟩ k))
      | some _ => False
  | _ + 1, none, _, _, _, _ => False

/-! ### Soundness -/
theorem own_sub {H : Hp} {R : HP} {w : World} {ids : List Nat} (hn : ids.Nodup) (h : Own H R w) : Own (ofList (ids.map H)) R w := by
  obtain ⟨p, q, hs, hq, hp, hqw, hd, hdq⟩ := h
  refine ⟨pickL ids p, q, fun k => ?_, hq, fun k => ?_, hqw, fun k l hkl => ?_, fun k => ?_⟩
  · unfold ofList
    cases hk : ids[k]? with
    | none => rw [List.getD_eq_getElem?_getD, List.getElem?_map, hk, pickL_none hk]; exact fun _ => rfl
    | some i => rw [List.getD_eq_getElem?_getD, List.getElem?_map, hk, pickL_some hk]; exact hs i
  · cases hk : ids[k]? with
    | none => rw [pickL_none hk]; intro b o h; cases h
    | some i => rw [pickL_some hk]; exact hp i
  · cases hk : ids[k]? with
    | none => rw [pickL_none hk]; exact fun _ => .inl rfl
    | some i =>
      cases hl : ids[l]? with
      | none => rw [pickL_none hl]; exact fun _ => .inr rfl
      | some j =>
        rw [pickL_some hk, pickL_some hl]
        refine hd i j (fun e => hkl ?_)
        subst e
        obtain ⟨hk1, hk2⟩ := List.getElem?_eq_some_iff.1 hk
        obtain ⟨hl1, hl2⟩ := List.getElem?_eq_some_iff.1 hl
        exact (List.getElem_inj hn).1 (hk2.trans hl2.symm)
  · cases hk : ids[k]? with
    | none => rw [pickL_none hk]; exact fun _ => .inl rfl
    | some i => rw [pickL_some hk]; exact hdq i

def PostC (n : Nat) (K : Exit → St → Prop) (R : HP) (w : World) (e : Exit) (a' : Act) (w' : World) : Prop :=
  ∃ s', K e s' ∧ Rel n s' a' ∧ Own s'.H R w' ∧ Ext w w'

theorem PostC.ext {n : Nat} {K : Exit → St → Prop} {R : HP} {w w1 : World} {e : Exit} {a' : Act} {w' : World} (h : PostC n K R w1 e a' w') (hx : Ext w w1) : PostC n K R w e a' w' :=
  let ⟨s', k, r, o, x⟩ := h; ⟨s', k, r, o, hx.trans x⟩

def wpSc (P : Program) (body c : Code) (Q : Exit → Act → World → Prop) (a : Act) (w : World) : Prop :=
  ∀ (b : Frame) (k : List Item) (cs : List Frame), ∃ e a' w', Q e a' w' ∧ Arrives P (lone (b.at a (.code c :: .inScope body :: k)) cs w) b k cs e a' w'

def scPost (P : Program) (body : Code) (Q : Exit → Act → World → Prop) : Exit → Act → World → Prop
  | .goto l, a, w => match findLabel body l with | some rest => wpSc P body rest Q a w | none => Q (.goto l) a w
  | e, a, w => Q e a w

theorem wpSc_of {P : Program} {body c : Code} {Q : Exit → Act → World → Prop} {a : Act} {w : World} (h : c.wp P (scPost P body Q) a w) : wpSc P body c Q a w := by
  intro b k cs
  obtain ⟨e, a₁, w₁, hq, harr⟩ := h b (.inScope body :: k) cs
  cases e with
  | normal => exact ⟨.normal, a₁, w₁, hq, Steps.trans harr (.one step_inScope)⟩
  | exit id => exact ⟨.exit id, a₁, w₁, hq, fun k' hk => harr k' (by simp [exitTo, hk])⟩
  | goto l =>
    simp only [scPost] at hq
    cases hf : findLabel body l with
    | none => rw [hf] at hq; exact ⟨.goto l, a₁, w₁, hq, fun k' hk => harr k' (by simp [gotoIn, hf, hk])⟩
    | some rest =>
      rw [hf] at hq
      obtain ⟨e₂, a₂, w₂, hq₂, harr₂⟩ := hq b k cs
      exact ⟨e₂, a₂, w₂, hq₂, .of_steps (harr _ (by simp [gotoIn, hf])) harr₂⟩
  | ret => exact ⟨_, a₁, w₁, hq, harr⟩
  | panic ch => exact ⟨_, a₁, w₁, hq, harr⟩
  | outgrown => exact ⟨_, a₁, w₁, hq, harr⟩

theorem wp_scope_of {P : Program} {body : Code} {Q : Exit → Act → World → Prop} {a : Act} {w : World} (h : wpSc P body body Q a w) : (Code.scope body).wp P Q a w := by
  intro b k cs
  obtain ⟨e, a₁, w₁, hq, harr⟩ := h b k cs
  exact ⟨e, a₁, w₁, hq, .of_steps (.one step_scope) harr⟩

theorem lookL_live : ∀ (l : List (Nat × Value)) {fr : Nat → Value} {X : Prop}, liveW l fr X → X ∧ ∀ i v, lookL l i = some v → fr i = v
  | [], _, _, h => ⟨h, fun _ _ h => by cases h⟩
  | (i, v) :: l, fr, X, h => by
    obtain ⟨hx, hl⟩ := lookL_live l h.2
    refine ⟨hx, fun j u hj => ?_⟩
    simp only [lookL] at hj
    cases hb : Nat.beq j i with
    | true => rw [hb] at hj; simp at hj; rw [Nat.eq_of_beq_eq_true hb, ← hj]; exact h.1
    | false => rw [hb] at hj; exact hl j u hj
theorem lookL_heap : ∀ (l : List (Nat × Slot)) {H : Hp} {X : Prop}, heapW l H X → X ∧ ∀ i v, lookL l i = some v → H i = v
  | [], _, _, h => ⟨h, fun _ _ h => by cases h⟩
  | (i, v) :: l, H, X, h => by
    obtain ⟨hx, hl⟩ := lookL_heap l h.2
    refine ⟨hx, fun j u hj => ?_⟩
    simp only [lookL] at hj
    cases hb : Nat.beq j i with
    | true => rw [hb] at hj; simp at hj; rw [Nat.eq_of_beq_eq_true hb, ← hj]; exact h.1
    | false => rw [hb] at hj; exact hl j u hj

theorem Own.weaken {H H' : Hp} {R : HP} {w : World} (h : Own H R w) (hh : ∀ i, H' i = H i ∨ H' i = .free) : Own H' R w := by
  classical
  obtain ⟨p, q, hs, hq, hp, hqw, hd, hdq⟩ := h
  refine ⟨fun i => if H' i = H i then p i else fun _ => none, q, fun i => ?_, hq, fun i => ?_, hqw, fun i j hij => ?_, fun i => ?_⟩
  · by_cases e : H' i = H i
    · simp only [e, if_true]; exact hs i
    · simp only [e, if_false]; rw [(hh i).resolve_left e]; exact fun _ => rfl
  · by_cases e : H' i = H i
    · simp only [e, if_true]; exact hp i
    · simp only [e, if_false]; intro b o h; cases h
  · by_cases e : H' i = H i
    · by_cases e' : H' j = H j
      · simp only [e, e', if_true]; exact hd i j hij
      · simp only [e', if_false]; exact fun _ => .inr rfl
    · simp only [e, if_false]; exact fun _ => .inl rfl
  · by_cases e : H' i = H i
    · simp only [e, if_true]; exact hdq i
    · simp only [e, if_false]; exact fun _ => .inl rfl

theorem atW_use {n : Nat} {live : List (Nat × Value)} {heap : List (Nat × Slot)} {df : List Deferred} {s : St} {a : Act} {R : HP} {w : World} (h : atW live heap df s True) (hr : Rel n s a) (ho : Own s.H R w) :
    ∃ junk, Rel n (mkS live heap junk df) a ∧ Own (mkS live heap junk df).H R w := by
  obtain ⟨h1, hl⟩ := lookL_live live h
  obtain ⟨h2, hh⟩ := lookL_heap heap h1
  have hdf : s.df = df := by
    cases hs : s.df with
    | nil =>
      rw [hs] at h2
      cases df with
      | nil => rfl
      | cons x l => exact h2.elim
    | cons x l => rw [hs] at h2; exact h2.1
  refine ⟨s.fr, ⟨hr.size, fun i => ?_, by rw [hr.df, hdf]; rfl⟩, ho.weaken fun i => ?_⟩
  · rw [hr.at_ i]
    simp only [mkS]
    cases hx : lookL live i with
    | none => rfl
    | some v => exact hl i v hx
  · simp only [mkS]
    cases hx : lookL heap i with
    | none => exact .inr rfl
    | some v => exact .inl (hh i v hx).symm

/-! ### Loops -/
def wpLp (r : Option Nat) (P : Program) (c : Code) (Q : Exit → Act → World → Prop) (a : Act) (w : World) : Prop :=
  ∀ (b : Frame) (k : List Item) (cs : List Frame), b.roundOf = (FrR r).round → (FrR r).fn b.fn → (FrR r).room (cs.length + 1 + 0) →
    ∃ e a' w', Q e a' w' ∧ ArrivesIn (Machine.fenced P (FrR r)) P (lone (b.atR a (.code c :: .inLoop c :: k)) cs w) b k cs e a' w'

theorem wpLp_round {r : Option Nat} {P : Program} {c : Code} {Q : Exit → Act → World → Prop} {a : Act} {w : World} (h : c.wpIn (FrR r) 0 P (Exit.then (wpLp r P c Q) Q) a w) : wpLp r P c Q a w := by
  intro b k cs hro hb hroom
  obtain ⟨e, a₁, w₁, hq, harr⟩ := h b (.inLoop c :: k) cs hro hb hroom
  cases e with
  | normal =>
    obtain ⟨e₂, a₂, w₂, hq₂, harr₂⟩ := hq b k cs hro hb hroom
    have s1 : StepsIn (Machine.fenced P (FrR r)) P (lone (b.atR a₁ (.inLoop c :: k)) cs w₁) (lone (b.atR a₁ (.code c :: .inLoop c :: k)) cs w₁) := .one (fenced_calm hb hroom rfl) stepR_inLoop
    exact ⟨e₂, a₂, w₂, hq₂, .of_steps (StepsIn.trans harr s1) harr₂⟩
  | exit id => exact ⟨_, a₁, w₁, hq, .pass (x := .inLoop c) rfl (by simp) harr⟩
  | goto l => exact ⟨_, a₁, w₁, hq, .pass (x := .inLoop c) rfl (by simp) harr⟩
  | ret => exact ⟨_, a₁, w₁, hq, .pass (x := .inLoop c) rfl (by simp) harr⟩
  | panic ch => exact ⟨_, a₁, w₁, hq, .pass (x := .inLoop c) rfl (by simp) harr⟩
  | outgrown => exact ⟨_, a₁, w₁, hq, .pass (x := .inLoop c) rfl (by simp) harr⟩

theorem wpIn_loop_of {r : Option Nat} {P : Program} {c : Code} {Q : Exit → Act → World → Prop} {a : Act} {w : World} (h : wpLp r P c Q a w) : (Code.loop c).wpIn (FrR r) 0 P Q a w := by
  intro b k cs hro hb hroom
  obtain ⟨e, a₁, w₁, hq, harr⟩ := h b k cs hro hb hroom
  exact ⟨e, a₁, w₁, hq, .of_steps (.one (fenced_calm hb hroom rfl) stepR_loop) harr⟩

theorem code_sound {P : Program} {n : Nat} {r : Option Nat} (hP : P.follows .mixedOrders = true) (f : Nat) :
    (∀ (c : Code) (k : Script) (s : St) (K : Exit → St → Script → Prop) (R : HP) (act : Act) (w : World), codeW P n r f none c k s K → Rel n s act → Own s.H R w →
      c.wpIn (FrR r) 0 P (PostC n (fun e s' => ∃ k', K e s' k') R w) act w) ∧
    (∀ (body c : Code) (k : Script) (s : St) (K : Exit → St → Script → Prop) (R : HP) (act : Act) (w : World), r = none → codeW P n r f (some body) c k s K → Rel n s act → Own s.H R w →
      wpSc P body c (PostC n (fun e s' => ∃ k', K e s' k') R w) act w) ∧
    (∀ (c : Code) (k : Script) (s : St) (K : Exit → St → Script → Prop) (R : HP) (act : Act) (w : World), codeW P n r f none (.loop c) k s K → Rel n s act → Own s.H R w →
      wpLp r P c (PostC n (fun e s' => ∃ k', K e s' k') R w) act w) := by
  induction f with
  | zero => exact ⟨fun c k s K R act w h => h.elim, fun body c k s K R act w _ h => h.elim, fun c k s K R act w h => h.elim⟩
  | succ f ih =>
    obtain ⟨ih1, ih2, ih3⟩ := ih
    have hloop : ∀ (c : Code) (k : Script) (s : St) (K : Exit → St → Script → Prop) (R : HP) (act : Act) (w : World), codeW P n r (f + 1) none (.loop c) k s K → Rel n s act → Own s.H R w →
        wpLp r P c (PostC n (fun e s' => ∃ k', K e s' k') R w) act w := by
      intro c k s K R act w h hr ho
      have go : codeW P n r f none c k s (fun e s' k' => match e with | .normal => codeW P n r f none (.loop c) k' s' K | e => K e s' k') → wpLp r P c (PostC n (fun e s' => ∃ k', K e s' k') R w) act w := by
        intro h
        refine wpLp_round (wpIn_mono (ih1 _ _ _ _ R act w h hr ho) ?_)
        rintro e a' w' ⟨s', ⟨k', hk⟩, hr', ho', he⟩
        cases e with
        | normal =>
          intro b k0 cs hro hb hroom
          obtain ⟨e₂, a₂, w₂, hq₂, harr₂⟩ := ih3 _ _ _ _ R a' w' hk hr' ho' b k0 cs hro hb hroom
          exact ⟨e₂, a₂, w₂, hq₂.ext he, harr₂⟩
        | _ => exact ⟨s', ⟨k', hk⟩, hr', ho', he⟩
      cases k with
      | cut X live heap Φ k' =>
        obtain ⟨⟨x, hx, hat⟩, h⟩ := h
        obtain ⟨junk, hr', ho'⟩ := atW_use hat hr ho
        exact ih3 _ _ _ _ R act w (h x junk hx) hr' ho'
      | ghost ids φ k' =>
        obtain ⟨hi, h1, h2⟩ := onB_iff.1 h
        exact ih3 _ _ _ _ R act w (h2 (h1 R w (own_sub (nodB_iff.1 hi) ho))) hr ho
      | caseP b k1 k2 =>
        cases hb : b s with
        | true => exact ih3 _ _ _ _ R act w (h.1 hb) hr ho
        | false => exact ih3 _ _ _ _ R act w (h.2 hb) hr ho
      | inv X live heap Φ μ kb =>
        obtain ⟨⟨x, hx, hat⟩, h⟩ := h
        obtain ⟨junk, hr', ho'⟩ := atW_use hat hr ho
        have key : ∀ (m : Nat) (x : X) (junk : Nat → Value) (act : Act) (w1 : World), μ x = m → Φ x → Rel n (mkS (live x) (heap x) junk s.df) act → Own (mkS (live x) (heap x) junk s.df).H R w1 → Ext w w1 →
            wpLp r P c (PostC n (fun e s' => ∃ k', K e s' k') R w) act w1 := by
          intro m
          induction m using Nat.strongRecOn with
          | _ m ihm =>
            intro x junk act w1 hm hx hr ho hext
            refine wpLp_round (wpIn_mono (ih1 _ _ _ _ R act w1 (h x junk hx) hr ho) ?_)
            rintro e a' w' ⟨s', ⟨k', hk⟩, hr', ho', he⟩
            cases e with
            | normal =>
              obtain ⟨y, hy, hlt, hat⟩ := hk
              obtain ⟨junk', hr'', ho''⟩ := atW_use hat hr' ho'
              exact ihm (μ y) (hm ▸ hlt) y junk' a' w' rfl hy hr'' ho'' (hext.trans he)
            | _ => exact ⟨s', ⟨k', hk⟩, hr', ho', hext.trans he⟩
        exact key _ x junk act w rfl hx hr' ho' (.refl _)
      | _ => exact go h
    refine ⟨fun c k s K R act w h hr ho => ?_, fun body c k s K R act w hn h hr ho => ?_, hloop⟩
    · have hcut : ∀ {X : Type} {live : X → List (Nat × Value)} {heap : X → List (Nat × Slot)} {Φ : X → Prop} {k' : X → Script}, k = .cut X live heap Φ k' → c.wpIn (FrR r) 0 P (PostC n (fun e s' => ∃ k', K e s' k') R w) act w := by
        intro X live heap Φ k' hk
        subst hk
        have h : (∃ x, Φ x ∧ atW (live x) (heap x) s.df s True) ∧ ∀ x (junk : Nat → Value), Φ x → codeW P n r f none c (k' x) (mkS (live x) (heap x) junk s.df) K := by cases c <;> exact h
        obtain ⟨⟨x, hx, hat⟩, h⟩ := h
        obtain ⟨junk, hr', ho'⟩ := atW_use hat hr ho
        exact ih1 _ _ _ _ R act w (h x junk hx) hr' ho'
      have hghost : ∀ {ids : List Nat} {φ : List Slot → Prop} {k' : Script}, k = .ghost ids φ k' → c.wpIn (FrR r) 0 P (PostC n (fun e s' => ∃ k', K e s' k') R w) act w := by
        intro ids φ k' hk
        subst hk
        have h : onB (nodB ids) ((∀ (R : HP) (w : World), Own (ofList (ids.map s.H)) R w → φ (ids.map s.H)) ∧ (φ (ids.map s.H) → codeW P n r f none c k' s K)) := by cases c <;> exact h
        obtain ⟨hi, h1, h2⟩ := onB_iff.1 h
        exact ih1 _ _ _ _ R act w (h2 (h1 R w (own_sub (nodB_iff.1 hi) ho))) hr ho
      have hcase : ∀ {b : St → Bool} {k1 k2 : Script}, k = .caseP b k1 k2 → c.wpIn (FrR r) 0 P (PostC n (fun e s' => ∃ k', K e s' k') R w) act w := by
        intro b k1 k2 hk
        subst hk
        have h : (b s = true → codeW P n r f none c k1 s K) ∧ (b s = false → codeW P n r f none c k2 s K) := by cases c <;> exact h
        cases hb : b s with
        | true => exact ih1 _ _ _ _ R act w (h.1 hb) hr ho
        | false => exact ih1 _ _ _ _ R act w (h.2 hb) hr ho
      cases c with
      | skip => cases k <;> first | exact hcut rfl | exact hcase rfl | exact hghost rfl | exact wpIn_skip ⟨s, ⟨_, h⟩, hr, ho, .refl _⟩
      | label l => cases k <;> first | exact hcut rfl | exact hcase rfl | exact hghost rfl | exact wpIn_label ⟨s, ⟨_, h⟩, hr, ho, .refl _⟩
      | ret => cases k <;> first | exact hcut rfl | exact hcase rfl | exact hghost rfl | exact wpIn_ret ⟨s, ⟨_, h⟩, hr, ho, .refl _⟩
      | exit id => cases k <;> first | exact hcut rfl | exact hcase rfl | exact hghost rfl | exact wpIn_exit ⟨s, ⟨_, h⟩, hr, ho, .refl _⟩
      | goto l => cases k <;> first | exact hcut rfl | exact hcase rfl | exact hghost rfl | exact wpIn_goto ⟨s, ⟨_, h⟩, hr, ho, .refl _⟩
      | seq x y =>
        have go : ∀ k, codeW P n r f none x k s (fun e s' k' => match e with | .normal => codeW P n r f none y k' s' K | e => K e s' k') → (Code.seq x y).wpIn (FrR r) 0 P (PostC n (fun e s' => ∃ k', K e s' k') R w) act w := by
          intro k h
          refine wpIn_seq (wpIn_mono (ih1 _ _ _ _ R act w h hr ho) ?_)
          rintro e a' w' ⟨s', ⟨k', hk⟩, hr', ho', he⟩
          cases e with
          | normal => exact wpIn_mono (ih1 _ _ _ _ R a' w' hk hr' ho') fun e a w hp => hp.ext he
          | _ => exact ⟨s', ⟨k', hk⟩, hr', ho', he⟩
        cases k with
        | cut => exact hcut rfl
        | caseP => exact hcase rfl
        | ghost => exact hghost rfl
        | join X live heap Φ k1 k2 =>
          obtain ⟨h1, h2⟩ := h
          refine wpIn_seq (wpIn_mono (ih1 _ _ _ _ R act w h1 hr ho) ?_)
          rintro e a' w' ⟨s', ⟨k', hk⟩, hr', ho', he⟩
          cases e with
          | normal =>
            obtain ⟨x, hx, hat⟩ := hk
            obtain ⟨junk, hr'', ho''⟩ := atW_use hat hr' ho'
            exact wpIn_mono (ih1 _ _ _ _ R a' w' (h2 x junk hx) hr'' ho'') fun e a w hp => hp.ext he
          | _ => exact ⟨s', ⟨k', hk⟩, hr', ho', he⟩
        | _ => exact go _ h
      | region id ops draw =>
        cases k with
        | cut => exact hcut rfl
        | caseP => exact hcase rfl
        | ghost => exact hghost rfl
        | reg as k' =>
          obtain ⟨hc, h⟩ := onB_iff.1 h
          obtain ⟨hd, hsq⟩ := onB_iff.1 h
          have hd' : r = none ∨ as.all (fun a => !isDfr a) = true := by
            unfold dfrOK at hd
            cases r with
            | none => exact .inl rfl
            | some _ => exact .inr hd
          have fin : ∀ a' w', After n (fun s' => K .normal s' k') R w a' w' → PostC n (fun e s' => ∃ k', K e s' k') R w .normal a' w' := fun a' w' ⟨s', hk, x⟩ => ⟨s', ⟨_, hk⟩, x⟩
          cases draw with
          | true => exact region_draw_sound hP hc hd' hsq hr ho fin
          | false => exact region_sound hc hd' hsq hr ho fin
        | _ => exact h.elim
      | cond cd x y =>
        have hev := hr.eval
        have go : (match (generalizing := false) evalF s.fr cd with
            | .bool b =>
              match k with
              | .condT k' => b = true ∧ codeW P n r f none x k' s K
              | .condF k' => b = false ∧ codeW P n r f none y k' s K
              | .cond k1 k2 => (b = true → codeW P n r f none x k1 s K) ∧ (b = false → codeW P n r f none y k2 s K)
              | _ => False
            | _ => False) → (Code.cond cd x y).wpIn (FrR r) 0 P (PostC n (fun e s' => ∃ k', K e s' k') R w) act w := by
          intro h
          rw [← hev] at h
          cases hb : act.eval cd <;> rw [hb] at h <;> try exact h.elim
          rename_i b
          cases k with
          | condT k' =>
            obtain ⟨rfl, h⟩ := h
            exact wpIn_cond hb (ih1 _ _ _ _ R act w h hr ho)
          | condF k' =>
            obtain ⟨rfl, h⟩ := h
            exact wpIn_cond hb (ih1 _ _ _ _ R act w h hr ho)
          | cond k1 k2 =>
            refine wpIn_cond hb ?_
            cases b with
            | true => exact ih1 _ _ _ _ R act w (h.1 rfl) hr ho
            | false => exact ih1 _ _ _ _ R act w (h.2 rfl) hr ho
          | _ => exact h.elim
        cases k with
        | cut => exact hcut rfl
        | caseP => exact hcase rfl
        | ghost => exact hghost rfl
        | _ => exact go h
      | block id c =>
        have go : codeW P n r f none c k s (fun e s' k' => match e with
              | .exit id' => match Nat.beq id' id with | true => K .normal s' k' | false => K (.exit id') s' k'
              | e => K e s' k') → (Code.block id c).wpIn (FrR r) 0 P (PostC n (fun e s' => ∃ k', K e s' k') R w) act w := by
          intro h
          refine wpIn_block (wpIn_mono (ih1 _ _ _ _ R act w h hr ho) ?_)
          rintro e a' w' ⟨s', ⟨k', hk⟩, hr', ho', he⟩
          cases e with
          | exit id' =>
            simp only [Exit.inBlock]
            cases hb : Nat.beq id' id with
            | true => rw [if_pos (Nat.eq_of_beq_eq_true hb)]; simp only [hb] at hk; exact ⟨s', ⟨k', hk⟩, hr', ho', he⟩
            | false => rw [if_neg (Nat.ne_of_beq_eq_false hb)]; simp only [hb] at hk; exact ⟨s', ⟨k', hk⟩, hr', ho', he⟩
          | _ => exact ⟨s', ⟨k', hk⟩, hr', ho', he⟩
        cases k with
        | cut => exact hcut rfl
        | caseP => exact hcase rfl
        | ghost => exact hghost rfl
        | _ => exact go h
      | loop c => exact wpIn_loop_of (hloop c k s K R act w h hr ho)
      | scope body =>
        have back : ∀ {Q : Exit → Act → World → Prop} {act : Act} {w : World} {c : Code}, r = none → (c.wpIn (FrR r) 0 P Q act w ↔ c.wp P Q act w) := by
          intro Q act w c hn
          subst hn
          exact wpIn_wide
        have go : ∀ k, (match (generalizing := false) r with | none => codeW P n r f (some body) body k s K | some _ => False) → (Code.scope body).wpIn (FrR r) 0 P (PostC n (fun e s' => ∃ k', K e s' k') R w) act w := by
          intro k h
          cases hn : r with
          | some l => rw [hn] at h; exact h.elim
          | none =>
            have h' : codeW P n r f (some body) body k s K := by rw [hn] at h ⊢; exact h
            rw [← hn]
            exact (back hn).2 (wp_scope_of (ih2 _ _ _ _ _ R act w hn h' hr ho))
        cases k with
        | cut => exact hcut rfl
        | caseP => exact hcase rfl
        | ghost => exact hghost rfl
        | sinv l X live heap Φ μ k0 k1 =>
          have h : (match (generalizing := false) r, findLabel body l with
            | none, some rest =>
              codeW P n r f none body k0 s (fun e s' k' =>
                match e with
                | .goto l' => match Nat.beq l' l with | true => ∃ x, Φ x ∧ atW (live x) (heap x) s.df s' True | false => False
                | e => K e s' k') ∧
              ∀ x (junk : Nat → Value), Φ x → codeW P n r f none rest (k1 x) (mkS (live x) (heap x) junk s.df) fun e s' k' =>
                match e with
                | .goto l' => match Nat.beq l' l with | true => ∃ y, Φ y ∧ μ y < μ x ∧ atW (live y) (heap y) s.df s' True | false => False
                | e => K e s' k'
            | _, _ => False) := h
          cases hn : r with
          | some l => rw [hn] at h; exact h.elim
          | none =>
            cases hf : findLabel body l with
            | none => rw [hn, hf] at h; exact h.elim
            | some rest =>
              have h' : codeW P n r f none body k0 s (fun e s' k' =>
                  match e with
                  | .goto l' => match Nat.beq l' l with | true => ∃ x, Φ x ∧ atW (live x) (heap x) s.df s' True | false => False
                  | e => K e s' k') ∧
                ∀ x (junk : Nat → Value), Φ x → codeW P n r f none rest (k1 x) (mkS (live x) (heap x) junk s.df) fun e s' k' =>
                  match e with
                  | .goto l' => match Nat.beq l' l with | true => ∃ y, Φ y ∧ μ y < μ x ∧ atW (live y) (heap y) s.df s' True | false => False
                  | e => K e s' k' := by rw [hn, hf] at h; rw [hn]; exact h
              rw [← hn]
              obtain ⟨h1, h2⟩ := h'
              have key : ∀ (m : Nat) (x : X) (junk : Nat → Value) (act : Act) (w1 : World), μ x = m → Φ x → Rel n (mkS (live x) (heap x) junk s.df) act → Own (mkS (live x) (heap x) junk s.df).H R w1 → Ext w w1 →
                  wpSc P body rest (PostC n (fun e s' => ∃ k', K e s' k') R w) act w1 := by
                intro m
                induction m using Nat.strongRecOn with
                | _ m ihm =>
                  intro x junk act w1 hm hx hr ho hext
                  refine wpSc_of ((back hn).1 (wpIn_mono (ih1 _ _ _ _ R act w1 (h2 x junk hx) hr ho) ?_))
                  rintro e a' w' ⟨s', ⟨k', hk⟩, hr', ho', he⟩
                  cases e with
                  | goto l' =>
                    cases hb : Nat.beq l' l with
                    | false => simp only [hb] at hk
                    | true =>
                      simp only [hb] at hk
                      obtain rfl := Nat.eq_of_beq_eq_true hb
                      simp only [scPost, hf]
                      obtain ⟨y, hy, hlt, hat⟩ := hk
                      obtain ⟨junk', hr'', ho''⟩ := atW_use hat hr' ho'
                      exact ihm (μ y) (hm ▸ hlt) y junk' a' w' rfl hy hr'' ho'' (hext.trans he)
                  | _ => exact ⟨s', ⟨k', hk⟩, hr', ho', hext.trans he⟩
              refine (back hn).2 (wp_scope_of (wpSc_of ((back hn).1 (wpIn_mono (ih1 _ _ _ _ R act w h1 hr ho) ?_))))
              rintro e a' w' ⟨s', ⟨k', hk⟩, hr', ho', he⟩
              cases e with
              | goto l' =>
                cases hb : Nat.beq l' l with
                | false => simp only [hb] at hk
                | true =>
                  simp only [hb] at hk
                  obtain rfl := Nat.eq_of_beq_eq_true hb
                  simp only [scPost, hf]
                  obtain ⟨x, hx, hat⟩ := hk
                  obtain ⟨junk', hr'', ho''⟩ := atW_use hat hr' ho'
                  exact key _ x junk' a' w' rfl hx hr'' ho'' he
              | _ => exact ⟨s', ⟨k', hk⟩, hr', ho', he⟩
        | _ => exact go _ h
      | rangeFunc g ps as b =>
        cases k with
        | rf ts ins outs C k' =>
          cases r with
          | some l => exact h.elim
          | none =>
            obtain ⟨hi, h⟩ := onB_iff.1 h
            obtain ⟨hu, h, _, hk⟩ := onB_iff.1 h
            refine wpIn_mono ((agreeW_self (h s.fr)).use hr.size hr.at_ (nodB_iff.1 hi) (nodB_iff.1 hu) ho) ?_
            rintro e a' w' ⟨rfl, ht, D, x, hd, hx, ho', hext⟩
            exact ⟨_, ⟨k', hk D x hx⟩, ⟨by rw [ht]; exact hr.size, fun i => by rw [ht]; exact hr.at_ i, by rw [hd, hr.df]⟩, ho', hext⟩
        | _ => first | exact hcut rfl | exact hcase rfl | exact hghost rfl | exact h.elim
      | refuse why => cases k <;> first | exact hcut rfl | exact hcase rfl | exact hghost rfl | exact h.elim
    · have h : codeW P n r f none c k s (fun e s' k' =>
          match e with
          | .goto l => match findLabel body l with | some rest => codeW P n r f (some body) rest k' s' K | none => K (.goto l) s' k'
          | e => K e s' k') := h
      have hh := ih1 _ _ _ _ R act w h hr ho
      subst hn
      refine wpSc_of (wpIn_wide.1 (wpIn_mono hh ?_))
      rintro e a' w' ⟨s', ⟨k', hk⟩, hr', ho', he⟩
      cases e with
      | goto l =>
        simp only [scPost]
        cases hf : findLabel body l with
        | none => simp only [hf] at hk; exact ⟨s', ⟨k', hk⟩, hr', ho', he⟩
        | some rest =>
          simp only [hf] at hk
          intro b k0 cs
          obtain ⟨e₂, a₂, w₂, hq₂, harr₂⟩ := ih2 _ _ _ _ _ R a' w' rfl hk hr' ho' b k0 cs
          exact ⟨e₂, a₂, w₂, hq₂.ext he, harr₂⟩
      | _ => exact ⟨s', ⟨k', hk⟩, hr', ho', he⟩
end Go.Sx

namespace Go.Sx
open Go.RowKit

/-! ### What a function hands back -/
def symR (P : Program) {α : Type} : Sem α → List Acc → Hp → (α → Prop) → Prop
  | .pure a, _, _, K => K a
  | .load _ a k, .rd i :: acc, H, K =>
    match H i with
    | .blk b (.cells c _ _) => a.block = b ∧ a.spot = none ∧ (match c[a.off]? with | some v => symR P (k v) acc H K | none => False)
    | _ => False
  | .load _ a k, .rv i f :: acc, H, K =>
    match H i with
    | .blk b (.cells c _ _) => a.block = b ∧ a.spot = none ∧ c[a.off]? = some (f a c) ∧ symR P (k (f a c)) acc H K
    | _ => False
  | .program k, acc, H, K => symR P (k P) acc H K
  | .mark _ k, acc, H, K => symR P k acc H K
  | _, _, _, _ => False

theorem symR_sound {P : Program} {α : Type} (m : Sem α) : ∀ (acc : List Acc) (H : Hp) (K : α → Prop) (R : HP) (w : World), symR P m acc H K → Own H R w → ∃ a, m.run P w = .ok a w ∧ K a := by
  induction m with
  | pure a => intro acc H K R w h _; cases acc <;> exact ⟨a, rfl, h⟩
  | load m a k ih =>
    intro acc H K R w h ho
    match acc, h with
    | .rd i :: acc, h =>
      simp only [symR] at h
      cases hs : H i with
      | blk b o =>
        rw [hs] at h
        cases o with
        | cells c t f =>
          obtain ⟨hb, hsp, h⟩ := h
          have hc := cell_of_block (w := w) (a := a) (by rw [hb]; exact ho.block hs) hsp
          cases hv : c[a.off]? with
          | none => rw [hv] at h; exact h.elim
          | some v =>
            rw [hv] at h
            obtain ⟨x, hr, hk⟩ := ih v acc H K R w h ho
            exact ⟨x, by simp only [Sem.run, hc, hv]; exact hr, hk⟩
        | _ => exact h.elim
      | _ => rw [hs] at h; exact h.elim
    | .rv i g :: acc, h =>
      simp only [symR] at h
      cases hs : H i with
      | blk b o =>
        rw [hs] at h
        cases o with
        | cells c t f =>
          obtain ⟨hb, hsp, hv, h⟩ := h
          have hc := cell_of_block (w := w) (a := a) (by rw [hb]; exact ho.block hs) hsp
          obtain ⟨x, hr, hk⟩ := ih _ acc H K R w h ho
          exact ⟨x, by simp only [Sem.run, hc, hv]; exact hr, hk⟩
        | _ => exact h.elim
      | _ => rw [hs] at h; exact h.elim
    | .wr _ :: _, h | .ws _ :: _, h | .nw _ :: _, h | .ch :: _, h | [], h => exact h.elim
  | program k ih =>
    intro acc H K R w h ho
    have h' : symR P (k P) acc H K := by cases acc <;> exact h
    obtain ⟨x, hr, hk⟩ := ih P acc H K R w h' ho
    exact ⟨x, by simp only [Sem.run]; exact hr, hk⟩
  | mark m k ih =>
    intro acc H K R w h ho
    have h' : symR P k acc H K := by cases acc <;> exact h
    obtain ⟨x, hr, hk⟩ := ih acc H K R w h' ho
    exact ⟨x, by simp only [Sem.run]; exact hr, hk⟩
  | _ => intro acc H K R w h ho; cases acc <;> exact h.elim

def resF (fn : Func) (fr : Nat → Value) : Sem Value := do
  let vs ← fn.results.mapM fun
    | .tmp t => pure (fr t)
    | .cell a t => do loadVar t (← asAddr (fr a))
  pure (if h : vs.size = 1 then vs[0] else .tuple vs)

theorem resF_eq {n : Nat} {fn : Func} {s : St} {a : Act} (h : Rel n s a) : results fn a.tmps = resF fn s.fr := by
  have : s.fr = fun i => a.tmps.getD i undef := funext fun i => (h.at_ i).symm
  rw [this]
  rfl

def outW (outs : List Nat) (ss : List Slot) (H : Hp) (Y : Prop) : Prop :=
  match ss with
  | [] => Y
  | s :: ss => match outs with | i :: outs => H i = s ∧ outW outs ss H Y | [] => False

theorem outW_use : ∀ {outs : List Nat} {ss : List Slot} {H : Hp} {Y : Prop}, outW outs ss H Y → Y ∧ ∀ k, ofList ss k = .free ∨ ofList ss k = ofList (outs.map H) k
  | _, [], _, _, h => by
    unfold outW at h
    exact ⟨h, fun k => .inl (by simp [ofList])⟩
  | [], _ :: _, _, _, h => h.elim
  | i :: outs, s :: ss, H, Y, h => by
    obtain ⟨h1, h2⟩ := h
    obtain ⟨hy, hk⟩ := outW_use h2
    refine ⟨hy, fun k => ?_⟩
    cases k with
    | zero => exact .inr (by simp [ofList, h1])
    | succ k => simpa [ofList] using hk k

def finW (P : Program) (fn : Func) (acc : List Acc) (outs : List Nat) {X : Type} (val : X → Value) (us : X → List Slot) (Φ : X → Prop) (e : Exit) (s : St) (_ : Script) : Prop :=
  match e with
  | .normal | .ret => symR P (resF fn s.fr) acc s.H fun v => ∃ x, Φ x ∧ v = val x ∧ outW outs (us x) s.H (dfW s.df [] True)
  | _ => False

def bodyOf (fn : Func) : Code := fn.body.getD .skip

def init (args : Array Value) (Hs : List Slot) : St := { fr := fun i => args.getD i undef, H := ofList Hs, df := [] }

theorem init_rel {args : Array Value} {Hs : List Slot} {n : Nat} (h : args.size ≤ n) : Rel n (init args Hs) { tmps := args ++ Array.replicate (n - args.size) undef, defers := [] } := by
  refine ⟨by simp; omega, fun i => ?_, rfl⟩
  simp only [init, Array.getD_eq_getD_getElem?, Array.getElem?_append]
  split
  · rfl
  · rename_i hlt
    rw [Array.getElem?_eq_none (xs := args) (by omega)]
    simp only [Array.getElem?_replicate]
    split <;> rfl

theorem enterOK {P : Program} {f : FuncId} {fn : Func} {c : Code} (hf : P.funcs[f]? = some fn) (hb : fn.body = some c) (hname : (fn.name == "runtime.NumGoroutine") = false) : EnterOK P f := by
  intro args w
  have hs : fn.body.isNone = false := by rw [hb]; rfl
  unfold callFunc
  simp only [Sem.run_bind, program, Sem.run, Result.andThen_ok, hf, hname, hs, Bool.false_eq_true, if_false]
  rfl

/-- **A contract out of the conditions on the body.** -/
theorem call_of {P : Program} {f : FuncId} {fn : Func} {c : Code} {n : Nat} {args : Array Value} {Hs : List Slot} {X : Type} {val : X → Value} {us : X → List Slot} {Φ : X → Prop}
    (hP : P.follows .mixedOrders = true) (hf : P.funcs[f]? = some fn) (hb : fn.body = some c) (hn : fn.ntmps = n) (hname : (fn.name == "runtime.NumGoroutine") = false)
    (fuel : Nat) (k : Script) (acc : List Acc) (outs : List Nat) (hsz : Nat.ble args.size n = true) (ho : nodB outs = true)
    (h : codeW P n none fuel none c k (init args Hs) (finW P fn acc outs val us Φ)) : CallT P f args Hs X val us Φ := by
  refine ⟨enterOK hf hb hname, fun R w hw => ?_⟩
  subst hn
  have go : CallsIn Fence.wide 0 P f args w fun e w' => ∃ x, Φ x ∧ e = .returned (val x) ∧ Own (ofList (us x)) R w' ∧ Ext w w' := ?_
  · exact callsIn_wide.1 go
  refine callsIn_of_wp hf hb trivial ?_
  have hc := (code_sound hP fuel).1 c k (init args Hs) _ R _ w h (init_rel (Nat.le_of_ble_eq_true hsz)) hw
  refine wpIn_mono hc ?_
  have fin : ∀ (a' : Act) (w' : World) (s' : St), Rel fn.ntmps s' a' → Own s'.H R w' → Ext w w' → (symR P (resF fn s'.fr) acc s'.H fun v => ∃ x, Φ x ∧ v = val x ∧ outW outs (us x) s'.H (dfW s'.df [] True)) →
      a'.defers = [] ∧ ∃ v, (results fn a'.tmps).run P w' = .ok v w' ∧ ∃ x, Φ x ∧ Ending.returned v = .returned (val x) ∧ Own (ofList (us x)) R w' ∧ Ext w w' := by
    intro a' w' s' hr ho' he hs
    obtain ⟨v, hrun, x, hx, rfl, hout⟩ := symR_sound _ acc s'.H _ R w' hs ho'
    obtain ⟨hd, hk⟩ := outW_use hout
    refine ⟨?_, val x, by rw [resF_eq hr]; exact hrun, x, hx, rfl, (own_sub (nodB_iff.1 ho) ho').weaken fun k => (hk k).symm, he⟩
    rw [hr.df]
    cases hdf : s'.df with
    | nil => rfl
    | cons y l => rw [hdf] at hd; exact absurd hd.1 (by simp)
  rintro e a' w' ⟨s', ⟨k', hk⟩, hr, ho', he⟩
  cases e with
  | normal => exact fin a' w' s' hr ho' he hk
  | ret => exact fin a' w' s' hr ho' he hk
  | exit id => exact hk.elim
  | goto l => exact hk.elim
  | panic ch => exact hk.elim
  | outgrown => exact hk.elim

/-! ### The memory that was there -/
def old (w : World) : Slot := .par [] (.wld w) (fun h => ∀ i : Nat, h i = w.heap[i]?)
theorem own_old (w : World) : Own (ofList [old w]) (fun _ => True) w := by
  refine ⟨fun i => match i with | 0 => (fun b => w.heap[b]?) | _ + 1 => fun _ => none, fun _ => none, fun i => ?_, trivial, fun i b o h => ?_, fun b o h => (by cases h), fun i j hij => ?_, fun i b => .inr rfl⟩
  · cases i with
    | zero => exact fun _ => rfl
    | succ i => exact fun _ => rfl
  · cases i with
    | zero => exact h
    | succ i => cases h
  · cases i with
    | zero =>
      cases j with
      | zero => exact absurd rfl hij
      | succ j => exact fun _ => .inr rfl
    | succ i => exact fun _ => .inl rfl

theorem CallT.below {P : Program} {f : FuncId} {args : Array Value} {w : World} {X : Type} {val : X → Value} {Φ : X → Prop} (h : CallT P f args [old w] X val (fun _ => [old w]) Φ) :
    Calls P f args w fun e w' => ∃ x, Φ x ∧ e = .returned (val x) ∧ Below w.heap.size w w' := by
  refine (h.calls _ w (own_old w)).mono ?_
  rintro e w' ⟨x, hx, he, ⟨p, q, hs, _, hp, _⟩, hext⟩
  refine ⟨x, hx, he, hext.os, hext.tape, hext.output, hext.size, fun i hi => ?_⟩
  have h0 := hs 0
  simp only [ofList, old, List.getD_cons_zero, Slot.sat] at h0
  have := hp 0 i w.heap[i] (by rw [h0 i]; simp [hi])
  rw [this]; simp [hi]

/-! ### Using contracts -/
theorem CallT.weaken {P : Program} {f : FuncId} {args : Array Value} {Hs : List Slot} {X Y : Type} {val : X → Value} {us : X → List Slot} {Φ : X → Prop} {val' : Y → Value} {us' : Y → List Slot} {Ψ : Y → Prop}
    (h : CallT P f args Hs X val us Φ) (hk : ∀ x, Φ x → ∃ y, Ψ y ∧ val x = val' y ∧ us x = us' y) : CallT P f args Hs Y val' us' Ψ :=
  ⟨h.enter, fun R w hw => (h.calls R w hw).mono fun _ _ ⟨x, hx, he, ho, hext⟩ => let ⟨y, hy, h1, h2⟩ := hk x hx; ⟨y, hy, h1 ▸ he, h2 ▸ ho, hext⟩⟩
end Go.Sx

namespace Go.Sx
theorem wrap_u64 (n : Int) : IntKind.u64.wrap n = n % 18446744073709551616 := by simp [IntKind.wrap, IntKind.bits, IntKind.signed]
theorem wrap_i64 (n : Int) (h1 : -9223372036854775808 ≤ n) (h2 : n ≤ 9223372036854775807) : IntKind.i64.wrap n = n := by
  simp [IntKind.wrap, IntKind.bits, IntKind.signed]; omega
def bit (b : Bool) : Int := bif b then 1 else 0
theorem bit_true {b : Bool} (h : b = true) : bit b = 1 := by rw [h]; rfl
theorem bit_false {b : Bool} (h : b = false) : bit b = 0 := by rw [h]; rfl
def cin (c : Int) : Int := if c = 0 then 0 else 1
def W (n : Int) : Prop := 0 ≤ n ∧ n < 18446744073709551616
theorem W_wrap (n : Int) : W (IntKind.u64.wrap n) := by rw [wrap_u64]; unfold W; omega
theorem cin_of {c : Int} (h0 : 0 ≤ c) (h1 : c ≤ 1) : cin c = c := by unfold cin; split <;> omega

/-! ### Operations at open operands -/
def xBin (op : BinOp) (t : TypeId) (x y : Value) : Sem Next := do pure (.value (← (do eqGuard op t (.const x) (.const y) x y; binOp op t x y)))
theorem xshl {P : Program} {t : TypeId} {k k' : IntKind} {a s : Int} (h : 0 ≤ s) : PureRun P (xBin .shl t (.int k a) (.int k' s)) (.int k (k.wrap (a * 2 ^ min s.toNat k.bits))) := by
  intro w
  have : ¬ s < 0 := by omega
  simp [xBin, eqGuard, binOp, Op.shift, this]
theorem xshr {P : Program} {t : TypeId} {k k' : IntKind} {a s : Int} (h : 0 ≤ s) : PureRun P (xBin .shr t (.int k a) (.int k' s)) (.int k (a.fdiv (2 ^ min s.toNat k.bits))) := by
  intro w
  have : ¬ s < 0 := by omega
  simp [xBin, eqGuard, binOp, Op.shift, this]
theorem xquo {P : Program} {t : TypeId} {k : IntKind} {a b : Int} (h : b ≠ 0) : PureRun P (xBin .quo t (.int k a) (.int k b)) (.int k (k.wrap (a.tdiv b))) := by
  intro w
  simp [xBin, eqGuard, binOp, Op.intDiv, h]
theorem xrem {P : Program} {t : TypeId} {k : IntKind} {a b : Int} (h : b ≠ 0) : PureRun P (xBin .rem t (.int k a) (.int k b)) (.int k (a.tmod b)) := by
  intro w
  simp [xBin, eqGuard, binOp, Op.intDiv, h]
theorem PureRun.to {P : Program} {m : Sem Next} {v v' : Value} (h : PureRun P m v) (e : v = v') : PureRun P m v' := e ▸ h
end Go.Sx
namespace Go.Sx
structure AddR (a b c s o : Int) : Prop where
  eq : s + o * 18446744073709551616 = a + b + cin c
  s : W s
  o0 : 0 ≤ o
  o1 : o ≤ 1
structure SubR (a b c s o : Int) : Prop where
  eq : s - o * 18446744073709551616 = a - b - cin c
  s : W s
  o0 : 0 ≤ o
  o1 : o ≤ 1
structure MulR (a b h l : Int) : Prop where
  eq : h * 18446744073709551616 + l = a * b
  h : W h
  l : W l
theorem bit_or (x y : Bool) : IntKind.u64.wrap (((BitVec.ofInt 64 (bit x) ||| BitVec.ofInt 64 (bit y) : BitVec 64).toNat : Nat) : Int) = bit (x || y) := by
  cases x <;> cases y <;> decide
theorem add_fin {a b c s o : Int} (ha : W a) (hb : W b)
    (h : ((c != 0) = true ∧ s = IntKind.u64.wrap (IntKind.u64.wrap (a + b) + 1) ∧ o = IntKind.u64.wrap (((BitVec.ofInt 64 (bit (decide (IntKind.u64.wrap (a + b) < a))) ||| BitVec.ofInt 64 (bit (IntKind.u64.wrap (IntKind.u64.wrap (a + b) + 1) == 0)) : BitVec 64).toNat : Nat) : Int)) ∨
      ((c != 0) = false ∧ s = IntKind.u64.wrap (a + b) ∧ o = bit (decide (IntKind.u64.wrap (a + b) < a)))) : AddR a b c s o := by
  unfold W at ha hb
  rcases h with ⟨hc, rfl, rfl⟩ | ⟨hc, rfl, rfl⟩
  · have hc' : cin c = 1 := by simp [cin]; simpa using hc
    rw [bit_or]
    simp only [wrap_u64]
    have e : bit (decide ((a + b) % 18446744073709551616 < a) || ((a + b) % 18446744073709551616 + 1) % 18446744073709551616 == 0) = (a + b + 1) / 18446744073709551616 := by
      by_cases h1 : (a + b) % 18446744073709551616 < a
      · rw [bit_true (by simp [h1])]; omega
      · by_cases h2 : ((a + b) % 18446744073709551616 + 1) % 18446744073709551616 = 0
        · rw [bit_true (by rw [h2]; simp)]; omega
        · rw [bit_false (by rw [decide_eq_false h1, Bool.false_or, beq_eq_false_iff_ne]; exact h2)]; omega
    rw [e]
    exact ⟨by rw [hc']; omega, ⟨by omega, by omega⟩, by omega, by omega⟩
  · have hc' : cin c = 0 := by simp [cin]; simpa using hc
    simp only [wrap_u64]
    have e : bit (decide ((a + b) % 18446744073709551616 < a)) = (a + b) / 18446744073709551616 := by
      unfold bit
      by_cases h1 : (a + b) % 18446744073709551616 < a
      · simp [h1]; omega
      · simp [h1]; omega
    rw [e]
    exact ⟨by rw [hc']; omega, ⟨by omega, by omega⟩, by omega, by omega⟩
theorem sub_fin {a b c s o : Int} (ha : W a) (hb : W b)
    (h : ((c != 0) = true ∧ s = IntKind.u64.wrap (IntKind.u64.wrap (a - b) - 1) ∧ o = IntKind.u64.wrap (((BitVec.ofInt 64 (bit (decide (a < b))) ||| BitVec.ofInt 64 (bit (IntKind.u64.wrap (a - b) == 0)) : BitVec 64).toNat : Nat) : Int)) ∨
      ((c != 0) = false ∧ s = IntKind.u64.wrap (a - b) ∧ o = bit (decide (a < b)))) : SubR a b c s o := by
  unfold W at ha hb
  rcases h with ⟨hc, rfl, rfl⟩ | ⟨hc, rfl, rfl⟩
  · have hc' : cin c = 1 := by simp [cin]; simpa using hc
    rw [bit_or]
    simp only [wrap_u64]
    have e : bit (decide (a < b) || (a - b) % 18446744073709551616 == 0) = if a < b + 1 then 1 else 0 := by
      by_cases h1 : a < b
      · rw [bit_true (by simp [h1])]; omega
      · by_cases h2 : (a - b) % 18446744073709551616 = 0
        · rw [bit_true (by rw [h2]; simp)]; omega
        · rw [bit_false (by rw [decide_eq_false h1, Bool.false_or, beq_eq_false_iff_ne]; exact h2)]; omega
    rw [e]
    split
    · exact ⟨by rw [hc']; omega, ⟨by omega, by omega⟩, by omega, by omega⟩
    · exact ⟨by rw [hc']; omega, ⟨by omega, by omega⟩, by omega, by omega⟩
  · have hc' : cin c = 0 := by simp [cin]; simpa using hc
    simp only [wrap_u64]
    unfold bit
    by_cases h1 : a < b
    · simp only [h1, decide_true, cond_true]; exact ⟨by rw [hc']; omega, ⟨by omega, by omega⟩, by omega, by omega⟩
    · simp only [h1, decide_false, cond_false]; exact ⟨by rw [hc']; omega, ⟨by omega, by omega⟩, by omega, by omega⟩
def blen (x : Nat) : Nat := if x = 0 then 0 else Nat.log2 x + 1
theorem blen_half {x : Nat} (h : x ≠ 0) : blen x = blen (x / 2) + 1 := by
  unfold blen
  rw [if_neg h]
  by_cases h2 : x / 2 = 0
  · have : x = 1 := by omega
    subst this; decide
  · rw [if_neg h2, Nat.log2_def, if_pos (by omega)]
theorem blen_le {x : Nat} (h : x < 18446744073709551616) : blen x ≤ 64 := by
  unfold blen
  split
  · omega
  · rename_i h0
    have := (Nat.log2_lt h0 (k := 64)).2 (by simpa using h)
    omega
theorem tdiv_nat {a b : Int} (ha : 0 ≤ a) : Int.tdiv a b = a / b := Int.tdiv_eq_ediv_of_nonneg ha
theorem tmod_nat {a b : Int} (ha : 0 ≤ a) : Int.tmod a b = a % b := Int.tmod_eq_emod_of_nonneg ha
theorem len_step {x0 : Nat} {x : Nat × Nat} (hx0 : x0 < 18446744073709551616) (h : x.2 + blen x.1 = blen x0 ∧ x.1 < 18446744073709551616) (hc : (((x.1 : Nat) : Int) != 0) = true) :
    ∃ y : Nat × Nat, (y.2 + blen y.1 = blen x0 ∧ y.1 < 18446744073709551616) ∧ y.1 < x.1 ∧ Value.int .u64 (Int.fdiv ((x.1 : Nat) : Int) (2 ^ 1)) = .int .u64 ((y.1 : Nat) : Int) ∧ Value.int .i64 (IntKind.i64.wrap (((x.2 : Nat) : Int) + 1)) = .int .i64 ((y.2 : Nat) : Int) ∧ True := by
  obtain ⟨n, m⟩ := x
  simp only at h hc ⊢
  have h0 : n ≠ 0 := by simpa using hc
  have hb := blen_half h0
  have hl := blen_le hx0
  refine ⟨(n / 2, m + 1), ⟨by simp only; omega, by simp only; omega⟩, by simp only; omega, ?_, ?_, trivial⟩
  · rw [Int.fdiv_eq_ediv_of_nonneg _ (by decide)]; simp
  · rw [wrap_i64 _ (by omega) (by omega)]; simp
theorem len_fin {x0 : Nat} {x : Nat × Nat} (h : x.2 + blen x.1 = blen x0 ∧ x.1 < 18446744073709551616) (hc : (((x.1 : Nat) : Int) != 0) = false) :
    Value.int .i64 ((x.2 : Nat) : Int) = .int .i64 ((blen x0 : Nat) : Int) := by
  have h0 : x.1 = 0 := by simpa using hc
  rw [h0] at h
  have : blen 0 = 0 := rfl
  rw [← h.1, this]; simp
end Go.Sx
namespace Go.Sx
/-! ### Families for annotations -/
def none0 : Ctr := ⟨Empty, fun _ => undef, fun _ => [], fun _ => False⟩
def one (v : Value) : List Value → Ctr := fun _ => ⟨Unit, fun _ => v, fun _ => [], fun _ => True⟩
def f_shl : List Value → Value
  | [.int k a, .int _ s] => .int k (k.wrap (a * 2 ^ min s.toNat k.bits))
  | _ => undef
def f_shr : List Value → Value
  | [.int k a, .int _ s] => .int k (a.fdiv (2 ^ min s.toNat k.bits))
  | _ => undef
def f_quo : List Value → Value
  | [.int k a, .int _ b] => .int k (k.wrap (a.tdiv b))
  | _ => undef
def f_rem : List Value → Value
  | [.int k a, .int _ b] => .int k (a.tmod b)
  | _ => undef
/-- Witnesses: a sum and a product always have such parts. -/
theorem wit_add {a b c : Int} (ha : W a) (hb : W b) : ∃ x : Int × Int, (fun zx => AddR a b c zx.1 zx.2) x := by
  unfold W at ha hb
  have : cin c = 0 ∨ cin c = 1 := by unfold cin; split <;> simp
  exact ⟨((a + b + cin c) % 18446744073709551616, (a + b + cin c) / 18446744073709551616), ⟨by simp only; omega, ⟨by simp only; omega, by simp only; omega⟩, by simp only; omega, by simp only; omega⟩⟩
theorem wit_sub {a b c : Int} (ha : W a) (hb : W b) : ∃ x : Int × Int, (fun zx => SubR a b c zx.1 zx.2) x := by
  unfold W at ha hb
  have : cin c = 0 ∨ cin c = 1 := by unfold cin; split <;> simp
  exact ⟨((a - b - cin c) % 18446744073709551616, -((a - b - cin c) / 18446744073709551616)), ⟨by simp only; omega, ⟨by simp only; omega, by simp only; omega⟩, by simp only; omega, by simp only; omega⟩⟩
theorem wit_mul {a b : Int} (ha : W a) (hb : W b) : ∃ x : Int × Int, (fun zx => MulR a b zx.1 zx.2) x := by
  have h1 : 0 ≤ a * b := Int.mul_nonneg ha.1 hb.1
  have h2 : a * b ≤ 18446744073709551615 * 18446744073709551615 := Int.mul_le_mul (by have := ha.2; omega) (by have := hb.2; omega) hb.1 (by decide)
  exact ⟨((a * b) / 18446744073709551616, (a * b) % 18446744073709551616), ⟨by simp only; omega, ⟨by simp only; omega, by simp only; omega⟩, ⟨by simp only; omega, by simp only; omega⟩⟩⟩
end Go.Sx

namespace Go.Sx
theorem mul_le_of {a b m n : Int} (ha0 : 0 ≤ a) (ha : a ≤ m) (hb0 : 0 ≤ b) (hb : b ≤ n) : 0 ≤ a * b ∧ a * b ≤ m * n := by
  refine ⟨Int.mul_nonneg ha0 hb0, ?_⟩
  exact Int.mul_le_mul ha hb hb0 (by omega)
theorem quo_u64 {a c : Int} (ha : W a) (hc : 0 < c) : IntKind.u64.wrap (Int.tdiv a c) = a / c := by
  have h1 : 0 ≤ a / c := Int.ediv_nonneg ha.1 (by omega)
  have h2 : a / c ≤ a := Int.ediv_le_self c ha.1
  have h3 := ha.2
  rw [wrap_u64, tdiv_nat ha.1]; omega
theorem wrap_W {a : Int} (h : W a) : IntKind.u64.wrap a = a := by
  obtain ⟨h1, h2⟩ := h
  rw [wrap_u64]; omega
theorem mul_fin {a b : Int} (ha : W a) (hb : W b) : MulR a b
    (IntKind.u64.wrap ((IntKind.u64.wrap ((IntKind.u64.wrap ((IntKind.u64.wrap (Int.tdiv a 4294967296)) * (IntKind.u64.wrap (Int.tdiv b 4294967296)))) + (IntKind.u64.wrap (Int.tdiv (IntKind.u64.wrap ((IntKind.u64.wrap ((IntKind.u64.wrap (Int.tdiv a 4294967296)) * (Int.tmod b 4294967296))) + (IntKind.u64.wrap (Int.tdiv (IntKind.u64.wrap ((Int.tmod a 4294967296) * (Int.tmod b 4294967296))) 4294967296)))) 4294967296)))) + (IntKind.u64.wrap (Int.tdiv (IntKind.u64.wrap ((IntKind.u64.wrap ((Int.tmod a 4294967296) * (IntKind.u64.wrap (Int.tdiv b 4294967296)))) + (Int.tmod (IntKind.u64.wrap ((IntKind.u64.wrap ((IntKind.u64.wrap (Int.tdiv a 4294967296)) * (Int.tmod b 4294967296))) + (IntKind.u64.wrap (Int.tdiv (IntKind.u64.wrap ((Int.tmod a 4294967296) * (Int.tmod b 4294967296))) 4294967296)))) 4294967296))) 4294967296))))
    (IntKind.u64.wrap (a * b)) := by
  rw [quo_u64 ha (by decide), quo_u64 hb (by decide), tmod_nat ha.1, tmod_nat hb.1]
  obtain ⟨a1, ea1⟩ : ∃ x, x = a / 4294967296 := ⟨_, rfl⟩
  obtain ⟨a0, ea0⟩ : ∃ x, x = a % 4294967296 := ⟨_, rfl⟩
  obtain ⟨b1, eb1⟩ : ∃ x, x = b / 4294967296 := ⟨_, rfl⟩
  obtain ⟨b0, eb0⟩ : ∃ x, x = b % 4294967296 := ⟨_, rfl⟩
  rw [← ea1, ← ea0, ← eb1, ← eb0]
  unfold W at ha hb
  have ha' : a = a1 * 4294967296 + a0 := by omega
  have hb' : b = b1 * 4294967296 + b0 := by omega
  have hp := mul_le_of (a := a1) (b := b1) (m := 4294967295) (n := 4294967295) (by omega) (by omega) (by omega) (by omega)
  have hq := mul_le_of (a := a1) (b := b0) (m := 4294967295) (n := 4294967295) (by omega) (by omega) (by omega) (by omega)
  have hr := mul_le_of (a := a0) (b := b1) (m := 4294967295) (n := 4294967295) (by omega) (by omega) (by omega) (by omega)
  have hs := mul_le_of (a := a0) (b := b0) (m := 4294967295) (n := 4294967295) (by omega) (by omega) (by omega) (by omega)
  have hab : a * b = a1 * b1 * 18446744073709551616 + (a1 * b0 + a0 * b1) * 4294967296 + a0 * b0 := by
    rw [ha', hb']
    simp only [Int.add_mul, Int.mul_add]
    have e1 : a1 * 4294967296 * (b1 * 4294967296) = a1 * b1 * 18446744073709551616 := by
      rw [Int.mul_assoc, ← Int.mul_assoc 4294967296 b1, Int.mul_comm 4294967296 b1, Int.mul_assoc b1, ← Int.mul_assoc]; rfl
    have e2 : a1 * 4294967296 * b0 = a1 * b0 * 4294967296 := by rw [Int.mul_assoc, Int.mul_comm 4294967296 b0, ← Int.mul_assoc]
    have e3 : a0 * (b1 * 4294967296) = a0 * b1 * 4294967296 := by rw [← Int.mul_assoc]
    rw [e1, e2, e3]; omega
  generalize a1 * b1 = p at *
  generalize a1 * b0 = q at *
  generalize a0 * b1 = r at *
  generalize a0 * b0 = s at *
  have w1 : IntKind.u64.wrap s = s := wrap_W ⟨by omega, by omega⟩
  have w2 : IntKind.u64.wrap q = q := wrap_W ⟨by omega, by omega⟩
  have w3 : IntKind.u64.wrap r = r := wrap_W ⟨by omega, by omega⟩
  have w4 : IntKind.u64.wrap p = p := wrap_W ⟨by omega, by omega⟩
  rw [w1, w2, w3, w4, quo_u64 (a := s) ⟨by omega, by omega⟩ (by decide)]
  have w5 : IntKind.u64.wrap (q + s / 4294967296) = q + s / 4294967296 := wrap_W ⟨by omega, by omega⟩
  rw [w5, quo_u64 (a := q + s / 4294967296) ⟨by omega, by omega⟩ (by decide), tmod_nat (by omega)]
  have w6 : IntKind.u64.wrap (r + (q + s / 4294967296) % 4294967296) = r + (q + s / 4294967296) % 4294967296 := wrap_W ⟨by omega, by omega⟩
  rw [w6, quo_u64 (a := r + (q + s / 4294967296) % 4294967296) ⟨by omega, by omega⟩ (by decide)]
  have w7 : IntKind.u64.wrap (p + (q + s / 4294967296) / 4294967296) = p + (q + s / 4294967296) / 4294967296 := wrap_W ⟨by omega, by omega⟩
  rw [w7, wrap_W ⟨by omega, by omega⟩, wrap_u64, hab]
  exact ⟨by omega, ⟨by omega, by omega⟩, ⟨by omega, by omega⟩⟩

/-! ### A digit of a quotient -/
structure DigR (hi below y q r : Int) : Prop where
  eq : q * y + r = hi * 4294967296 + below
  r0 : 0 ≤ r
  r1 : r < y
  q0 : 0 ≤ q
  q1 : q < 4294967296
structure DigI (hi below y : Int) : Prop where
  hi0 : 0 ≤ hi
  hi1 : hi < y
  b0 : 0 ≤ below
  b1 : below < 4294967296
  y0 : 9223372036854775808 ≤ y
  y1 : y < 18446744073709551616
structure DigJ (hi below y q l : Int) : Prop where
  eq : q * (y / 4294967296) + l = hi
  l0 : 0 ≤ l
  l1 : l < 4294967296
  q0 : 0 ≤ q
  q1 : q < 18446744073709551616
  up : hi * 4294967296 + below < q * y + y
theorem dig_mul {q y : Int} : q * y = q * (y / 4294967296) * 4294967296 + q * (y % 4294967296) := by
  have h : y = y / 4294967296 * 4294967296 + y % 4294967296 := by omega
  calc q * y = q * (y / 4294967296 * 4294967296 + y % 4294967296) := by rw [← h]
    _ = _ := by rw [Int.mul_add, ← Int.mul_assoc]
theorem dig_start {hi below y : Int} (h : DigI hi below y) : DigJ hi below y (hi / (y / 4294967296)) (hi % (y / 4294967296)) := by
  obtain ⟨h1, h2, h3, h4, h5, h6⟩ := h
  have hy1 : 2147483648 ≤ y / 4294967296 := by omega
  have hy2 : y / 4294967296 < 4294967296 := by omega
  have e : hi / (y / 4294967296) * (y / 4294967296) + hi % (y / 4294967296) = hi := by rw [Int.mul_comm]; exact Int.mul_ediv_add_emod _ _
  have l0 : 0 ≤ hi % (y / 4294967296) := Int.emod_nonneg _ (by omega)
  have l1 : hi % (y / 4294967296) < y / 4294967296 := Int.emod_lt_of_pos _ (by omega)
  have q0 : 0 ≤ hi / (y / 4294967296) := Int.ediv_nonneg h1 (by omega)
  have q1 : hi / (y / 4294967296) ≤ hi := Int.ediv_le_self _ h1
  refine ⟨e, l0, by omega, q0, by omega, ?_⟩
  have hm := dig_mul (q := hi / (y / 4294967296)) (y := y)
  have hn : 0 ≤ hi / (y / 4294967296) * (y % 4294967296) := Int.mul_nonneg q0 (by omega)
  rw [hm]
  generalize hi / (y / 4294967296) * (y / 4294967296) = A at *
  generalize hi / (y / 4294967296) * (y % 4294967296) = B at *
  omega
/-- The test of the guess. -/
theorem dig_test {hi below y q l : Int} (h : DigI hi below y) (j : DigJ hi below y q l) (hq : q < 4294967296) :
    (IntKind.u64.wrap (q * (y % 4294967296)) > IntKind.u64.wrap (IntKind.u64.wrap (l * 4294967296) + below)) ↔ q * (y % 4294967296) > l * 4294967296 + below := by
  obtain ⟨h1, h2, h3, h4, h5, h6⟩ := h
  obtain ⟨j1, j2, j3, j4, j5, j6⟩ := j
  have hB := mul_le_of (a := q) (b := y % 4294967296) (m := 4294967295) (n := 4294967295) j4 (by omega) (by omega) (by omega)
  rw [wrap_W (a := q * (y % 4294967296)) ⟨by omega, by omega⟩, wrap_W (a := l * 4294967296) ⟨by omega, by omega⟩, wrap_W ⟨by omega, by omega⟩]
theorem dig_less {hi below y q l : Int} (h : DigI hi below y) (j : DigJ hi below y q l) (hc : 4294967296 ≤ q ∨ (q < 4294967296 ∧ q * (y % 4294967296) > l * 4294967296 + below)) : hi * 4294967296 + below < q * y := by
  obtain ⟨h1, h2, h3, h4, h5, h6⟩ := h
  obtain ⟨j1, j2, j3, j4, j5, j6⟩ := j
  rcases hc with hc | ⟨_, hc⟩
  · have : 4294967296 * y ≤ q * y := Int.mul_le_mul_of_nonneg_right hc (by omega)
    omega
  · rw [dig_mul (q := q) (y := y)]
    generalize q * (y / 4294967296) = A at *
    generalize q * (y % 4294967296) = B at *
    omega
theorem dig_step {hi below y q l : Int} (h : DigI hi below y) (j : DigJ hi below y q l) (hc : 4294967296 ≤ q ∨ (q < 4294967296 ∧ q * (y % 4294967296) > l * 4294967296 + below))
    (hl : IntKind.u64.wrap (l + y / 4294967296) < 4294967296) : DigJ hi below y (IntKind.u64.wrap (q - 1)) (IntKind.u64.wrap (l + y / 4294967296)) ∧ (IntKind.u64.wrap (q - 1)).toNat < q.toNat := by
  have hlt := dig_less h j hc
  obtain ⟨h1, h2, h3, h4, h5, h6⟩ := h
  obtain ⟨j1, j2, j3, j4, j5, j6⟩ := j
  have q1 : 1 ≤ q := by
    rcases Int.lt_or_le q 1 with h | h
    · have : q = 0 := by omega
      subst this; omega
    · exact h
  rw [wrap_W (a := q - 1) ⟨by omega, by omega⟩]
  rw [wrap_W (a := l + y / 4294967296) ⟨by omega, by omega⟩] at hl ⊢
  refine ⟨⟨?_, by omega, hl, by omega, by omega, ?_⟩, by omega⟩
  · rw [Int.sub_mul]; omega
  · rw [Int.sub_mul]; omega
theorem dig_end {hi below y q : Int} (h : DigI hi below y) (q0 : 0 ≤ q) (q1 : q < 4294967296) (lo : q * y ≤ hi * 4294967296 + below) (up : hi * 4294967296 + below < q * y + y) :
    DigR hi below y q (IntKind.u64.wrap (IntKind.u64.wrap (IntKind.u64.wrap (hi * 4294967296) + below) - IntKind.u64.wrap (q * y))) := by
  obtain ⟨h1, h2, h3, h4, h5, h6⟩ := h
  have e : IntKind.u64.wrap (IntKind.u64.wrap (IntKind.u64.wrap (hi * 4294967296) + below) - IntKind.u64.wrap (q * y)) = hi * 4294967296 + below - q * y := by
    simp only [wrap_u64]
    generalize q * y = Y at *
    omega
  rw [e]
  exact ⟨by omega, by omega, by omega, q0, q1⟩
theorem dig_exit1 {hi below y q l : Int} (h : DigI hi below y) (j : DigJ hi below y q l) (hc : 4294967296 ≤ q ∨ (q < 4294967296 ∧ q * (y % 4294967296) > l * 4294967296 + below))
    (hl : ¬ IntKind.u64.wrap (l + y / 4294967296) < 4294967296) :
    DigR hi below y (IntKind.u64.wrap (q - 1)) (IntKind.u64.wrap (IntKind.u64.wrap (IntKind.u64.wrap (hi * 4294967296) + below) - IntKind.u64.wrap (IntKind.u64.wrap (q - 1) * y))) := by
  have hlt := dig_less h j hc
  have h' := h
  obtain ⟨h1, h2, h3, h4, h5, h6⟩ := h
  obtain ⟨j1, j2, j3, j4, j5, j6⟩ := j
  have q1 : 1 ≤ q := by
    rcases Int.lt_or_le q 1 with h | h
    · have : q = 0 := by omega
      subst this; omega
    · exact h
  rw [wrap_W (a := q - 1) ⟨by omega, by omega⟩]
  rw [wrap_W (a := l + y / 4294967296) ⟨by omega, by omega⟩] at hl
  have hq : q - 1 < 4294967296 := by
    rcases Int.lt_or_le (q - 1) 4294967296 with h | h
    · exact h
    · have : 4294967296 * (y / 4294967296) ≤ (q - 1) * (y / 4294967296) := Int.mul_le_mul_of_nonneg_right h (by omega)
      rw [Int.sub_mul] at this
      omega
  have hB := mul_le_of (a := q - 1) (b := y % 4294967296) (m := 4294967295) (n := 4294967295) (by omega) (by omega) (by omega) (by omega)
  refine dig_end h' (by omega) hq ?_ (by rw [Int.sub_mul]; omega)
  rw [dig_mul (q := q - 1) (y := y), Int.sub_mul q 1 (y / 4294967296)]
  generalize q * (y / 4294967296) = A at *
  generalize (q - 1) * (y % 4294967296) = B at *
  omega
theorem dig_exit2 {hi below y q l : Int} (h : DigI hi below y) (j : DigJ hi below y q l) (hq : q < 4294967296) (hc : ¬ q * (y % 4294967296) > l * 4294967296 + below) :
    DigR hi below y q (IntKind.u64.wrap (IntKind.u64.wrap (IntKind.u64.wrap (hi * 4294967296) + below) - IntKind.u64.wrap (q * y))) := by
  have h' := h
  obtain ⟨h1, h2, h3, h4, h5, h6⟩ := h
  obtain ⟨j1, j2, j3, j4, j5, j6⟩ := j
  refine dig_end h' j4 hq ?_ j6
  rw [dig_mul (q := q) (y := y)]
  generalize q * (y / 4294967296) = A at *
  generalize q * (y % 4294967296) = B at *
  omega
end Go.Sx
namespace Go.Sx
theorem DigI.Wy {hi below y : Int} (h : DigI hi below y) : W y := ⟨by have := h.y0; omega, h.y1⟩
theorem DigI.Wh {hi below y : Int} (h : DigI hi below y) : W hi := ⟨h.hi0, by have := h.hi1; have := h.y1; omega⟩
theorem DigI.y1pos {hi below y : Int} (h : DigI hi below y) : 0 < y / 4294967296 := by have := h.y0; omega
theorem le_of_dec {q : Int} (h : decide (q ≥ 4294967296) = true) : 4294967296 ≤ q := by simpa using h
theorem lt_of_dec {q : Int} (h : decide (q ≥ 4294967296) = false) : q < 4294967296 := by simpa using h
theorem nlt_of_dec {a b : Int} (h : decide (a < b) = false) : ¬ a < b := by simpa using h
theorem of_dec {hi below y q l : Int} (h : DigI hi below y) (j : DigJ hi below y q l) (hq : q < 4294967296)
    (hc : decide (IntKind.u64.wrap (q * (y % 4294967296)) > IntKind.u64.wrap (IntKind.u64.wrap (l * 4294967296) + below)) = true) : q * (y % 4294967296) > l * 4294967296 + below :=
  (dig_test h j hq).1 (of_decide_eq_true hc)
theorem not_of_dec {hi below y q l : Int} (h : DigI hi below y) (j : DigJ hi below y q l) (hq : q < 4294967296)
    (hc : decide (IntKind.u64.wrap (q * (y % 4294967296)) > IntKind.u64.wrap (IntKind.u64.wrap (l * 4294967296) + below)) = false) : ¬ q * (y % 4294967296) > l * 4294967296 + below :=
  fun h' => of_decide_eq_false hc ((dig_test h j hq).2 h')
theorem dig_jump0 {hi below y q l : Int} (h : DigI hi below y) (j : DigJ hi below y q l) (hc : 4294967296 ≤ q ∨ (q < 4294967296 ∧ q * (y % 4294967296) > l * 4294967296 + below))
    (hl : decide (IntKind.u64.wrap (l + y / 4294967296) < 4294967296) = true) : DigJ hi below y (IntKind.u64.wrap (q - 1)) (IntKind.u64.wrap (l + y / 4294967296)) ∧ (IntKind.u64.wrap (q - 1)).toNat < q.toNat :=
  dig_step h j hc (of_decide_eq_true hl)
end Go.Sx

namespace Go.Sx
theorem bor_add (k : Nat) (hk : k ≤ 64) {a b : Int} (ha : 0 ≤ a) (hb : 0 ≤ b) (hb' : b < 2 ^ k) (h : a * 2 ^ k < 18446744073709551616) :
    IntKind.u64.wrap (((BitVec.ofInt 64 (a * 2 ^ k) ||| BitVec.ofInt 64 b : BitVec 64).toNat : Nat) : Int) = a * 2 ^ k + b := by
  obtain ⟨a, rfl⟩ := Int.eq_ofNat_of_zero_le ha
  obtain ⟨b, rfl⟩ := Int.eq_ofNat_of_zero_le hb
  have e2 : ((a : Int) * 2 ^ k) = ((a * 2 ^ k : Nat) : Int) := by simp
  rw [e2] at h ⊢
  have hb2 : b < 2 ^ k := by
    have : ((b : Nat) : Int) < ((2 ^ k : Nat) : Int) := by simpa using hb'
    exact Int.ofNat_lt.1 this
  have h2 : a * 2 ^ k < 2 ^ 64 := by omega
  have hle : 2 ^ k ≤ 2 ^ 64 := Nat.pow_le_pow_right (by decide) hk
  have hor : a * 2 ^ k ||| b = a * 2 ^ k + b := by
    have := Nat.shiftLeft_add_eq_or_of_lt hb2 a
    rw [Nat.shiftLeft_eq] at this
    exact this.symm
  have hsum : a * 2 ^ k + b < 2 ^ 64 := by
    rw [← hor]; exact Nat.or_lt_two_pow h2 (by omega)
  simp only [BitVec.toNat_or, BitVec.ofInt_natCast, BitVec.toNat_ofNat]
  rw [Nat.mod_eq_of_lt h2, Nat.mod_eq_of_lt (by omega : b < 2 ^ 64), hor, wrap_u64]
  omega
def nrm (y : Int) : Nat := 64 - blen y.toNat
theorem nrm_spec {y : Int} (h0 : 0 < y) (h1 : y < 18446744073709551616) :
    9223372036854775808 ≤ y * 2 ^ nrm y ∧ y * 2 ^ nrm y < 18446744073709551616 ∧ nrm y ≤ 63 ∧ (2 : Int) ^ nrm y * 2 ^ (64 - nrm y) = 18446744073709551616 ∧ ((nrm y : Nat) : Int) = 64 - (blen y.toNat : Nat) := by
  obtain ⟨n, rfl⟩ := Int.eq_ofNat_of_zero_le (Int.le_of_lt h0)
  have hn : n ≠ 0 := by omega
  have hle := blen_le (x := n) (by omega)
  unfold nrm
  rw [Int.toNat_natCast]
  have hb : blen n = Nat.log2 n + 1 := by unfold blen; rw [if_neg hn]
  have l1 := Nat.log2_self_le hn
  have l2 := Nat.lt_log2_self (n := n)
  obtain ⟨m, hm⟩ : ∃ m, m = Nat.log2 n := ⟨_, rfl⟩
  rw [← hm] at hb l1 l2
  rw [hb] at hle ⊢
  obtain ⟨k, hk⟩ : ∃ k, k = 64 - (m + 1) := ⟨_, rfl⟩
  rw [← hk]
  have e1 : 2 ^ m * 2 ^ k = 9223372036854775808 := by rw [← Nat.pow_add, show m + k = 63 from by omega]
  have e2 : 2 ^ (m + 1) * 2 ^ k = 18446744073709551616 := by rw [← Nat.pow_add, show m + 1 + k = 64 from by omega]
  have a1 : 2 ^ m * 2 ^ k ≤ n * 2 ^ k := Nat.mul_le_mul_right _ l1
  have a2 : n * 2 ^ k < 2 ^ (m + 1) * 2 ^ k := (Nat.mul_lt_mul_right (Nat.two_pow_pos k)).2 l2
  have c : ((n : Int) * 2 ^ k) = ((n * 2 ^ k : Nat) : Int) := by simp
  have e3 : (2 : Int) ^ k * 2 ^ (64 - k) = ((2 ^ k * 2 ^ (64 - k) : Nat) : Int) := by simp
  have e4 : 2 ^ k * 2 ^ (64 - k) = 18446744073709551616 := by rw [← Nat.pow_add, show k + (64 - k) = 64 from by omega]
  rw [c, e3, e4]
  refine ⟨by omega, by omega, by omega, by rfl, by omega⟩

structure DivR (hi lo y q r e : Int) : Prop where
  zero : y = 0 → q = 0 ∧ r = 0 ∧ e = 3
  over : y ≠ 0 → y ≤ hi → q = 0 ∧ r = 0 ∧ e = 2
  ok : hi < y → e = 0 ∧ q * y + r = hi * 18446744073709551616 + lo ∧ 0 ≤ r ∧ r < y ∧ 0 ≤ q ∧ q < 18446744073709551616
structure DivI (hi lo y : Int) : Prop where
  hi : W hi
  lo : W lo
  y : W y
section
variable {hi lo y : Int} (h : DivI hi lo y) (hlt : hi < y)
include h hlt
theorem DivI.ypos : 0 < y := by have := h.hi.1; omega
theorem div_s : IntKind.i64.wrap (64 - ((blen y.toNat : Nat) : Int)) = ((nrm y : Nat) : Int) := by
  obtain ⟨_, _, h3, _, h5⟩ := nrm_spec (DivI.ypos h hlt) h.y.2
  rw [wrap_i64 _ (by omega) (by omega), h5]
theorem div_y : IntKind.u64.wrap (y * 2 ^ min (Int.toNat ((nrm y : Nat) : Int)) 64) = y * 2 ^ nrm y := by
  obtain ⟨h1, h2, h3, _, _⟩ := nrm_spec (DivI.ypos h hlt) h.y.2
  rw [Int.toNat_natCast, Nat.min_eq_left (by omega)]
  exact wrap_W ⟨by omega, h2⟩
omit h hlt in
theorem pw_pos (k : Nat) : (0 : Int) < 2 ^ k := by
  have := Nat.two_pow_pos k
  have e : ((2 ^ k : Nat) : Int) = (2 : Int) ^ k := by simp
  omega
theorem div_hi : IntKind.u64.wrap (hi * 2 ^ min (Int.toNat ((nrm y : Nat) : Int)) 64) = hi * 2 ^ nrm y := by
  obtain ⟨h1, h2, h3, _, _⟩ := nrm_spec (DivI.ypos h hlt) h.y.2
  rw [Int.toNat_natCast, Nat.min_eq_left (by omega)]
  have hp := pw_pos (nrm y)
  have a1 : hi * 2 ^ nrm y ≤ y * 2 ^ nrm y := Int.mul_le_mul_of_nonneg_right (by omega) (by omega)
  exact wrap_W ⟨Int.mul_nonneg h.hi.1 (by omega), by omega⟩
theorem div_t : IntKind.i64.wrap (64 - ((nrm y : Nat) : Int)) = ((64 - nrm y : Nat) : Int) := by
  obtain ⟨_, _, h3, _, _⟩ := nrm_spec (DivI.ypos h hlt) h.y.2
  rw [wrap_i64 _ (by omega) (by omega)]; omega
omit h hlt in
theorem div_lo1 : Int.fdiv lo (2 ^ min (Int.toNat ((64 - nrm y : Nat) : Int)) 64) = lo / 2 ^ (64 - nrm y) := by
  rw [Int.toNat_natCast, Nat.min_eq_left (by omega)]
  exact Int.fdiv_eq_ediv_of_nonneg _ (by have := pw_pos (64 - nrm y); omega)
theorem div_lo1_lt : 0 ≤ lo / 2 ^ (64 - nrm y) ∧ lo / 2 ^ (64 - nrm y) < 2 ^ nrm y := by
  obtain ⟨_, _, h3, h4, _⟩ := nrm_spec (DivI.ypos h hlt) h.y.2
  have hp := pw_pos (64 - nrm y)
  refine ⟨Int.ediv_nonneg h.lo.1 (by omega), ?_⟩
  rw [Int.ediv_lt_iff_lt_mul hp, h4]
  exact h.lo.2
theorem div_or : IntKind.u64.wrap (((BitVec.ofInt 64 (hi * 2 ^ nrm y) ||| BitVec.ofInt 64 (lo / 2 ^ (64 - nrm y)) : BitVec 64).toNat : Nat) : Int) = hi * 2 ^ nrm y + lo / 2 ^ (64 - nrm y) := by
  obtain ⟨h1, h2, h3, h4, _⟩ := nrm_spec (DivI.ypos h hlt) h.y.2
  obtain ⟨l0, l1⟩ := div_lo1_lt h hlt
  have hp := pw_pos (nrm y)
  have a1 : hi * 2 ^ nrm y ≤ y * 2 ^ nrm y := Int.mul_le_mul_of_nonneg_right (by omega) (by omega)
  exact bor_add (nrm y) (by omega) h.hi.1 l0 l1 (by omega)
theorem div_lo : IntKind.u64.wrap (lo * 2 ^ min (Int.toNat ((nrm y : Nat) : Int)) 64) = lo * 2 ^ nrm y % 18446744073709551616 := by
  obtain ⟨_, _, h3, _, _⟩ := nrm_spec (DivI.ypos h hlt) h.y.2
  rw [Int.toNat_natCast, Nat.min_eq_left (by omega), wrap_u64]
omit h hlt in
theorem div_loW : W (lo * 2 ^ nrm y % 18446744073709551616) := ⟨by omega, by omega⟩
theorem div_i1 : DigI (hi * 2 ^ nrm y + lo / 2 ^ (64 - nrm y)) (lo * 2 ^ nrm y % 18446744073709551616 / 4294967296) (y * 2 ^ nrm y) := by
  obtain ⟨h1, h2, h3, h4, _⟩ := nrm_spec (DivI.ypos h hlt) h.y.2
  obtain ⟨l0, l1⟩ := div_lo1_lt h hlt
  have hp := pw_pos (nrm y)
  have a0 : 0 ≤ hi * 2 ^ nrm y := Int.mul_nonneg h.hi.1 (by omega)
  have a1 : (hi + 1) * 2 ^ nrm y ≤ y * 2 ^ nrm y := Int.mul_le_mul_of_nonneg_right (by omega) (by omega)
  rw [Int.add_mul] at a1
  exact ⟨by omega, by omega, by omega, by omega, h1, h2⟩
theorem div_i0 {q r : Int} (d : DigR (hi * 2 ^ nrm y + lo / 2 ^ (64 - nrm y)) (lo * 2 ^ nrm y % 18446744073709551616 / 4294967296) (y * 2 ^ nrm y) q r) :
    DigI r (lo * 2 ^ nrm y % 18446744073709551616 % 4294967296) (y * 2 ^ nrm y) := by
  obtain ⟨h1, h2, h3, h4, _⟩ := nrm_spec (DivI.ypos h hlt) h.y.2
  exact ⟨d.r0, d.r1, by omega, by omega, h1, h2⟩
theorem div_fin {q1 r1 q0 r0 : Int} (d1 : DigR (hi * 2 ^ nrm y + lo / 2 ^ (64 - nrm y)) (lo * 2 ^ nrm y % 18446744073709551616 / 4294967296) (y * 2 ^ nrm y) q1 r1)
    (d0 : DigR r1 (lo * 2 ^ nrm y % 18446744073709551616 % 4294967296) (y * 2 ^ nrm y) q0 r0) :
    DivR hi lo y (IntKind.u64.wrap (IntKind.u64.wrap (q1 * 4294967296) + q0)) (Int.fdiv r0 (2 ^ min (Int.toNat ((nrm y : Nat) : Int)) 64)) 0 := by
  obtain ⟨h1, h2, h3, h4, _⟩ := nrm_spec (DivI.ypos h hlt) h.y.2
  obtain ⟨l0, l1⟩ := div_lo1_lt h hlt
  have hp := pw_pos (nrm y)
  have hp2 := pw_pos (64 - nrm y)
  rw [Int.toNat_natCast, Nat.min_eq_left (by omega), Int.fdiv_eq_ediv_of_nonneg _ (by omega)]
  have b1 := d1.q0; have b2 := d1.q1; have b3 := d0.q0; have b4 := d0.q1
  rw [wrap_W (a := q1 * 4294967296) ⟨by omega, by omega⟩, wrap_W ⟨by omega, by omega⟩]
  have e1 := d1.eq; have e0 := d0.eq; have r0' := d0.r0; have r1' := d0.r1
  clear d1 d0
  generalize (2 : Int) ^ nrm y = p at *
  generalize (2 : Int) ^ (64 - nrm y) = p2 at *
  -- lo * p parts at 2^64
  have hlo : lo * p = lo / p2 * 18446744073709551616 + lo * p % 18446744073709551616 := by
    have h5 : lo * p / 18446744073709551616 = lo / p2 := by
      rw [← h4, Int.mul_comm p p2]
      exact Int.mul_ediv_mul_of_pos_left _ _ hp
    omega
  have hL : lo * p % 18446744073709551616 = lo * p % 18446744073709551616 / 4294967296 * 4294967296 + lo * p % 18446744073709551616 % 4294967296 := by omega
  have key : (q1 * 4294967296 + q0) * (y * p) + r0 = (hi * 18446744073709551616 + lo) * p := by
    rw [Int.add_mul, Int.mul_assoc q1 4294967296, Int.mul_comm 4294967296 (y * p), ← Int.mul_assoc q1, Int.add_mul (hi * 18446744073709551616), Int.mul_assoc hi, Int.mul_comm 18446744073709551616 p, ← Int.mul_assoc hi]
    generalize q1 * (y * p) = A at *
    generalize q0 * (y * p) = C at *
    generalize hi * p = Hp at *
    generalize lo * p = Lp at *
    omega
  have hr : r0 = (hi * 18446744073709551616 + lo - (q1 * 4294967296 + q0) * y) * p := by
    rw [Int.sub_mul, Int.mul_assoc (q1 * 4294967296 + q0)]; omega
  have hr2 : r0 / p = hi * 18446744073709551616 + lo - (q1 * 4294967296 + q0) * y := by
    rw [hr]; exact Int.mul_ediv_cancel _ (by omega)
  have hr3 : 0 ≤ r0 / p := Int.ediv_nonneg r0' (by omega)
  have hr4 : r0 / p < y := by rw [Int.ediv_lt_iff_lt_mul hp]; exact r1'
  refine ⟨fun hz => by have := h.hi.1; omega, fun _ hle => by omega, fun _ => ⟨rfl, ?_, hr3, hr4, by omega, by omega⟩⟩
  omega
end
end Go.Sx
namespace Go.Sx
theorem wit_dig {hi below y : Int} (h : DigI hi below y) : ∃ x : Int × Int, (fun zx => DigR hi below y zx.1 zx.2) x := by
  have hy := h.y0
  have hpos : 0 < y := by omega
  refine ⟨((hi * 4294967296 + below) / y, (hi * 4294967296 + below) % y), ?_, Int.emod_nonneg _ (by omega), Int.emod_lt_of_pos _ hpos, Int.ediv_nonneg (by have := h.hi0; have := h.b0; omega) (by omega), ?_⟩
  · show (hi * 4294967296 + below) / y * y + (hi * 4294967296 + below) % y = _
    rw [Int.mul_comm]; exact Int.mul_ediv_add_emod _ _
  · show (hi * 4294967296 + below) / y < 4294967296
    rw [Int.ediv_lt_iff_lt_mul hpos]
    have := h.hi1; have := h.b1; omega
end Go.Sx
namespace Go.Sx
theorem div_zero {hi lo y : Int} (h : DivI hi lo y) (hy : (y == (0 : Int)) = true) : DivR hi lo y 0 0 3 := by
  have e : y = 0 := by simpa using hy
  have := h.hi.1
  exact ⟨fun _ => ⟨rfl, rfl, rfl⟩, fun h => absurd e h, fun h => by omega⟩
theorem div_over {hi lo y : Int} (h : DivI hi lo y) (hy : (y == (0 : Int)) = false) (hle : decide (hi ≥ y) = true) : DivR hi lo y 0 0 2 := by
  have e0 : y ≠ 0 := by simpa using hy
  have e : y ≤ hi := by simpa using hle
  exact ⟨fun h => absurd h e0, fun _ _ => ⟨rfl, rfl, rfl⟩, fun h => by omega⟩
theorem wit_div {hi lo y : Int} (h : DivI hi lo y) : ∃ x : Int × Int × Int, (fun zx => DivR hi lo y zx.1 zx.2.1 zx.2.2) x := by
  by_cases h0 : y = 0
  · exact ⟨(0, 0, 3), div_zero h (by simp [h0])⟩
  · by_cases h1 : y ≤ hi
    · exact ⟨(0, 0, 2), div_over h (by simp [h0]) (by simp [h1])⟩
    · have hpos : 0 < y := by have := h.hi.1; omega
      refine ⟨((hi * 18446744073709551616 + lo) / y, (hi * 18446744073709551616 + lo) % y, 0), ⟨fun h => absurd h h0, fun _ h => absurd h h1, fun _ => ⟨rfl, ?_, Int.emod_nonneg _ (by omega), Int.emod_lt_of_pos _ hpos, Int.ediv_nonneg (by have := h.hi.1; have := h.lo.1; omega) (by omega), ?_⟩⟩⟩
      · show (hi * 18446744073709551616 + lo) / y * y + (hi * 18446744073709551616 + lo) % y = _
        rw [Int.mul_comm]; exact Int.mul_ediv_add_emod _ _
      · show (hi * 18446744073709551616 + lo) / y < 18446744073709551616
        rw [Int.ediv_lt_iff_lt_mul hpos]
        have := h.lo.2
        omega
end Go.Sx
