/- A symbolic executor for the model's code, part 5: regions. -/
import Derived.Test.YtohkmdnelbajiaaDoorSx4
set_option linter.unusedVariables false
set_option linter.unusedSimpArgs false
namespace Go.Sx
open Go.RowKit

/-! ### An operation looks at its operands alone -/
theorem map_congr_arr {α β : Type} {f g : α → β} {xs : Array α} (h : ∀ x ∈ xs, f x = g x) : xs.map f = xs.map g := by
  apply Array.ext'
  simp only [Array.toList_map]
  exact List.map_congr_left fun x hx => h x (Array.mem_toList_iff.1 hx)

theorem resolve_congr {ρ ρ' : Operand → Value} {c : Call} (t : TypeId) (h : ∀ x ∈ c.operands, ρ x = ρ' x) : resolve ρ c t = resolve ρ' c t := by
  obtain ⟨callee, args, ats⟩ := c
  simp only [Call.operands] at h
  have ha : args.map ρ = args.map ρ' := map_congr_arr fun x hx => h x (Array.mem_append.2 (.inr hx))
  unfold resolve
  simp only [ha]
  cases callee with
  | value f => simp only; rw [h f (Array.mem_append.2 (.inl (by simp)))]
  | invoke r m => simp only; rw [h r (Array.mem_append.2 (.inl (by simp)))]
  | builtin b => rfl

def isSel : Op → Bool
  | .select .. => true
  | _ => false

theorem execOp_congr {ρ ρ' : Operand → Value} (o : Oper) (hs : isSel o.op = false) (h : ∀ x ∈ o.op.operands, ρ x = ρ' x) : execOp ρ o = execOp ρ' o := by
  unfold execOp
  cases ho : o.op with
  | call c => rw [ho] at h; simp only; rw [resolve_congr _ h]
  | go c => rw [ho] at h; simp only; rw [resolve_congr _ h]
  | defer c => rw [ho] at h; simp only; rw [resolve_congr _ h]
  | build t parts =>
    rw [ho] at h
    have : (parts.map fun (i, x) => (i, ρ x)) = parts.map fun (i, x) => (i, ρ' x) := map_congr_arr fun x hx => by
      simp only [Op.operands] at h
      show (x.1, ρ x.2) = (x.1, ρ' x.2)
      rw [h x.2 (by simp; exact ⟨x.1, hx⟩)]
    simp only [this]
  | buildSlice t n parts =>
    rw [ho] at h
    have : (parts.map fun (i, x) => (i, ρ x)) = parts.map fun (i, x) => (i, ρ' x) := map_congr_arr fun x hx => by
      simp only [Op.operands] at h
      show (x.1, ρ x.2) = (x.1, ρ' x.2)
      rw [h x.2 (by simp; exact ⟨x.1, hx⟩)]
    simp only [this]
  | makeFunc fn first captured =>
    rw [ho] at h
    simp only [Op.operands] at h
    have h1 : first.map ρ = first.map ρ' := map_congr_arr fun x hx => h x (Array.mem_append.2 (.inl hx))
    have h2 : captured.map ρ = captured.map ρ' := map_congr_arr fun x hx => h x (Array.mem_append.2 (.inr hx))
    simp only [h1, h2]
  | makeMap t r =>
    rw [ho] at h
    simp only [Op.operands] at h
    cases r with
    | none => rfl
    | some x => simp only [Option.map_some]; rw [h x (by simp)]
  | slice t x lo hi mx =>
    rw [ho] at h
    simp only [Op.operands] at h
    have h0 : ρ x = ρ' x := h x (by simp)
    have h1 : lo.map ρ = lo.map ρ' := by
      cases lo with
      | none => rfl
      | some y => simp only [Option.map_some]; rw [h y (by simp)]
    have h2 : hi.map ρ = hi.map ρ' := by
      cases hi with
      | none => rfl
      | some y => simp only [Option.map_some]; rw [h y (by simp)]
    have h3 : mx.map ρ = mx.map ρ' := by
      cases mx with
      | none => rfl
      | some y => simp only [Option.map_some]; rw [h y (by simp)]
    simp only [h0, h1, h2, h3]
  | select cases blocking => rw [ho] at hs; cases hs
  | _ => first | rfl | (rw [ho] at h; simp only [Op.operands] at h; simp_all)

theorem callOf_congr {ρ ρ' : Operand → Value} (o : Op) (h : ∀ x ∈ o.operands, ρ x = ρ' x) : callOf ρ o = callOf ρ' o := by
  unfold callOf
  cases o with
  | call c =>
    obtain ⟨callee, args, ats⟩ := c
    cases callee with
    | value f =>
      simp only [Op.operands, Call.operands] at h
      have ha : args.map ρ = args.map ρ' := map_congr_arr fun x hx => h x (Array.mem_append.2 (.inr hx))
      simp only [ha, h f (Array.mem_append.2 (.inl (by simp)))]
    | _ => rfl
  | _ => rfl

/-! ### Footprints -/
def rdS : Ann → List Nat
  | .sem acc | .gen acc _ => rdA acc
  | .specr ins _ | .callr ins _ => ins
  | .specw ins _ _ | .callw ins _ _ => ins
  | _ => []
def wrS : Ann → List Nat
  | .sem acc | .gen acc _ => wrA acc
  | .specw ins outs _ | .callw ins outs _ => ins ++ outs
  | _ => []

theorem updL_set {H : Hp} {ins outs : List Nat} {ss : List Slot} {i : Nat} {sl : Slot} (ho : outs.Nodup) (h1 : i ∉ ins) (h2 : i ∉ outs) :
    updL (clears (upd H i sl) ins) outs ss = upd (updL (clears H ins) outs ss) i sl := by
  funext j
  by_cases e : j = i
  · subst e; rw [upd_same, updL_out _ _ _ _ h2, clears_out _ _ _ h1, upd_same]
  · rw [upd_other _ _ e]
    by_cases hj : j ∈ outs
    · obtain ⟨k, hk⟩ := List.getElem?_of_mem hj
      rw [updL_in outs ss _ k j ho hk, updL_in outs ss _ k j ho hk]
    · rw [updL_out _ _ _ _ hj, updL_out _ _ _ _ hj]
      by_cases hi : j ∈ ins
      · rw [clears_in _ _ _ hi, clears_in _ _ _ hi]
      · rw [clears_out _ _ _ hi, clears_out _ _ _ hi, upd_other _ _ e]

theorem map_upd {H : Hp} {ins : List Nat} {i : Nat} {sl : Slot} (h : i ∉ ins) : ins.map (upd H i sl) = ins.map H :=
  List.map_congr_left fun _ hx => upd_other _ _ (fun e => h (e ▸ hx))

theorem opVals_congr {ρ ρ' : Operand → Value} (o : Op) (h : ∀ x ∈ o.operands, ρ x = ρ' x) : opVals ρ o = opVals ρ' o :=
  List.map_congr_left fun x hx => h x (Array.mem_toList_iff.1 hx)

theorem good_specR {C : List Slot → Ctr} {T : List Slot → (X : Type) → (X → Value) → (X → List Slot) → (X → Prop) → Prop} {ins : List Nat} :
    Good (fun K H => onB (nodB ins) (specR (T (ins.map H)) (C (ins.map H)) (ins.map H) K H)) ins [] := by
  refine ⟨fun K K' H h hk => ?_, fun K H i sl h1 _ h => ?_, fun β ⟨b0⟩ K H h => ?_⟩
  · obtain ⟨hn, h1, h2, h3⟩ := onB_iff.1 h
    exact onB_iff.2 ⟨hn, h1, h2, fun x hx => hk _ _ (fun _ _ => rfl) (h3 x hx)⟩
  · rw [map_upd (ins := ins) h1] at h
    exact h
  · obtain ⟨hn, h1, h2, -⟩ := onB_iff.1 (h b0)
    exact onB_iff.2 ⟨hn, h1, h2, fun x hx b => (onB_iff.1 (h b)).2.2.2 x hx⟩

theorem good_specX {C : List Slot → Ctr} {T : List Slot → (X : Type) → (X → Value) → (X → List Slot) → (X → Prop) → Prop} {ins outs : List Nat} :
    Good (fun K H => onB (nodB ins) (onB (nodB outs) (specX (T (ins.map H)) (C (ins.map H)) ins outs K H))) ins (ins ++ outs) := by
  refine ⟨fun K K' H h hk => ?_, fun K H i sl h1 h2 h => ?_, fun β ⟨b0⟩ K H h => ?_⟩
  · obtain ⟨hn, h⟩ := onB_iff.1 h
    obtain ⟨hu, h1, h2, h3⟩ := onB_iff.1 h
    refine onB_iff.2 ⟨hn, onB_iff.2 ⟨hu, h1, h2, fun x hx => hk _ _ (fun i hi => ?_) (h3 x hx)⟩⟩
    simp only [List.mem_append, not_or] at hi
    rw [updL_out _ _ _ _ hi.2, clears_out _ _ _ hi.1]
  · obtain ⟨hn, h⟩ := onB_iff.1 h
    obtain ⟨hu, h3, h4, h5⟩ := onB_iff.1 h
    simp only [List.mem_append, not_or] at h2
    rw [map_upd (ins := ins) h1] at h3 h4 h5
    refine onB_iff.2 ⟨hn, onB_iff.2 ⟨hu, h3, h4, fun x hx => ?_⟩⟩
    have := h5 x hx
    rw [updL_set (nodB_iff.1 hu) h2.1 h2.2] at this
    exact this
  · obtain ⟨hn, h'⟩ := onB_iff.1 (h b0)
    obtain ⟨hu, h1, h2, -⟩ := onB_iff.1 h'
    exact onB_iff.2 ⟨hn, onB_iff.2 ⟨hu, h1, h2, fun x hx b => (onB_iff.1 (onB_iff.1 (h b)).2).2.2.2 x hx⟩⟩

theorem good_core {P : Program} {ρ : Operand → Value} {o : Oper} (a : Ann) : Good (coreW P ρ o a) (rdS a) (wrS a) := by
  cases a with
  | sem acc =>
    refine ⟨fun K K' H h hk => symW_step _ acc H _ _ h fun nx H' r hH hn => ?_, fun K H i sl h1 h2 h => ?_, fun β hne K H h => ?_⟩
    · cases nx <;> first | exact hk _ _ hH hn | exact hn
    · refine symW_step _ acc H _ _ (symW_set _ acc H _ i sl h1 h2 h) fun nx H' r _ hn => ?_
      cases nx <;> exact hn
    · refine symW_step _ acc H _ _ (symW_all _ acc H β hne _ h) fun nx H' r _ hn => ?_
      obtain ⟨b0⟩ := hne
      cases nx <;> first | exact hn | exact hn b0
  | gen acc C =>
    refine ⟨fun K K' H h hk => symW_step _ acc H _ _ h fun nx H' r hH hn => ?_, fun K H i sl h1 h2 h => ?_, fun β hne K H h => ?_⟩
    · cases nx <;> first | exact ⟨hn.1, fun x hx => hk _ _ hH (hn.2 x hx)⟩ | exact hn
    · refine symW_step _ acc H _ _ (symW_set _ acc H _ i sl h1 h2 h) fun nx H' r _ hn => ?_
      cases nx <;> exact hn
    · refine symW_step _ acc H _ _ (symW_all _ acc H β hne _ h) fun nx H' r _ hn => ?_
      obtain ⟨b0⟩ := hne
      cases nx <;> first | exact ⟨(hn b0).1, fun x hx b => (hn b).2 x hx⟩ | exact hn b0
  | eq v =>
    exact ⟨fun K K' H h hk => ⟨h.1, hk _ _ (fun _ _ => rfl) h.2⟩, fun K H i sl _ _ h => h, fun β ⟨b0⟩ K H h => ⟨(h b0).1, fun b => (h b).2⟩⟩
  | specr ins C => exact good_specR (T := OpT P (execOp ρ o)) (C := C (opVals ρ o.op))
  | specw ins outs C => exact good_specX (T := OpT P (execOp ρ o)) (C := C (opVals ρ o.op))
  | callr ins C =>
    unfold coreW
    simp only
    cases hc : callOf ρ o.op with
    | none => exact ⟨fun K K' H h => h.elim, fun K H i sl _ _ h => h.elim, fun β ⟨b0⟩ K H h => (h b0).elim⟩
    | some fa => exact good_specR (T := TgtT P fa.1 fa.2) (C := C (opVals ρ o.op))
  | callw ins outs C =>
    unfold coreW
    simp only
    cases hc : callOf ρ o.op with
    | none => exact ⟨fun K K' H h => h.elim, fun K H i sl _ _ h => h.elim, fun β ⟨b0⟩ K H h => (h b0).elim⟩
    | some fa => exact good_specX (T := TgtT P fa.1 fa.2) (C := C (opVals ρ o.op))
  | dfr => exact ⟨fun K K' H h => h.elim, fun K H i sl _ _ h => h.elim, fun β ⟨b0⟩ K H h => (h b0).elim⟩
  | no => exact ⟨fun K K' H h => h.elim, fun K H i sl _ _ h => h.elim, fun β ⟨b0⟩ K H h => (h b0).elim⟩

/-- An annotated operation and a transformer that touches other slots. -/
theorem core_comm {P : Program} {ρ : Operand → Value} {o : Oper} (a : Ann) {T : (Value → Hp → Prop) → Hp → Prop} {rd wr : List Nat} (hT : Good T rd wr)
    (hw : ∀ x ∈ wrS a, x ∉ rd ∧ x ∉ wr) (hr : ∀ x ∈ wr, x ∉ rdS a) (H : Hp) (K : Value → Value → Hp → Prop)
    (h : coreW P ρ o a (fun v1 H1 => T (fun v2 H2 => K v1 v2 H2) H1) H) : T (fun v2 H2 => coreW P ρ o a (fun v1 H1 => K v1 v2 H1) H2) H := by
  have same : ∀ {ins : List Nat} {H2 : Hp}, (∀ i, i ∉ wr → H2 i = H i) → (∀ x ∈ wr, x ∉ ins) → ins.map H2 = ins.map H := fun hH hx =>
    List.map_congr_left fun x hxi => hH x fun hw => hx x hw hxi
  have sets : ∀ (l : List Nat) (ss : List Slot) (H0 : Hp) (K : Value → Hp → Prop), (∀ x ∈ l, x ∉ rd ∧ x ∉ wr) → T K (updL H0 l ss) → T (fun v H2 => K v (updL H2 l ss)) H0 := by
    intro l
    induction l with
    | nil => exact fun ss H0 K _ h => h
    | cons x l ih =>
      intro ss H0 K hx h
      exact hT.set _ _ x _ (hx x (by simp)).1 (hx x (by simp)).2 (ih ss.tail _ K (fun y hy => hx y (by simp [hy])) h)
  have clrs : ∀ (l : List Nat) (H0 : Hp) (K : Value → Hp → Prop), (∀ x ∈ l, x ∉ rd ∧ x ∉ wr) → T K (clears H0 l) → T (fun v H2 => K v (clears H2 l)) H0 := by
    intro l
    induction l with
    | nil => exact fun H0 K _ h => h
    | cons x l ih =>
      intro H0 K hx h
      exact hT.set _ _ x _ (hx x (by simp)).1 (hx x (by simp)).2 (ih _ K (fun y hy => hx y (by simp [hy])) h)
  have readC : ∀ {S : List Slot → (X : Type) → (X → Value) → (X → List Slot) → (X → Prop) → Prop} {C : List Slot → Ctr} {ins : List Nat}, (∀ x ∈ wr, x ∉ ins) →
      onB (nodB ins) (specR (S (ins.map H)) (C (ins.map H)) (ins.map H) (fun v1 H1 => T (fun v2 H2 => K v1 v2 H2) H1) H) →
      T (fun v2 H2 => onB (nodB ins) (specR (S (ins.map H2)) (C (ins.map H2)) (ins.map H2) (fun v1 H1 => K v1 v2 H1) H2)) H := by
    intro S C ins hr h
    obtain ⟨hn, h1, ⟨x0, hx0⟩, h3⟩ := onB_iff.1 h
    refine hT.step _ _ _ (hT.all { x : (C (ins.map H)).X // (C (ins.map H)).Φ x } ⟨⟨x0, hx0⟩⟩ (fun x v H' => K ((C (ins.map H)).val x.1) v H') H fun x => h3 x.1 x.2) fun v2 H2 hH hk => onB_iff.2 ⟨hn, ?_⟩
    rw [same (ins := ins) hH hr]
    exact ⟨h1, ⟨x0, hx0⟩, fun x hx => hk ⟨x, hx⟩⟩
  have writeC : ∀ {S : List Slot → (X : Type) → (X → Value) → (X → List Slot) → (X → Prop) → Prop} {C : List Slot → Ctr} {ins outs : List Nat}, (∀ x ∈ wr, x ∉ ins) → (∀ x ∈ ins ++ outs, x ∉ rd ∧ x ∉ wr) →
      onB (nodB ins) (onB (nodB outs) (specX (S (ins.map H)) (C (ins.map H)) ins outs (fun v1 H1 => T (fun v2 H2 => K v1 v2 H2) H1) H)) →
      T (fun v2 H2 => onB (nodB ins) (onB (nodB outs) (specX (S (ins.map H2)) (C (ins.map H2)) ins outs (fun v1 H1 => K v1 v2 H1) H2))) H := by
    intro S C ins outs hr hw h
    obtain ⟨hn, h⟩ := onB_iff.1 h
    obtain ⟨hu, h1, ⟨x0, hx0⟩, h3⟩ := onB_iff.1 h
    refine hT.step _ _ _ (hT.all { x : (C (ins.map H)).X // (C (ins.map H)).Φ x } ⟨⟨x0, hx0⟩⟩ (fun x v H2 => K ((C (ins.map H)).val x.1) v (updL (clears H2 ins) outs ((C (ins.map H)).us x.1))) H fun x =>
      clrs ins _ (fun v H2 => K ((C (ins.map H)).val x.1) v (updL H2 outs ((C (ins.map H)).us x.1))) (fun y hy => hw y (by simp [hy])) (sets outs _ _ _ (fun y hy => hw y (by simp [hy])) (h3 x.1 x.2))) fun v2 H2 hH hk => onB_iff.2 ⟨hn, onB_iff.2 ⟨hu, ?_⟩⟩
    rw [same (ins := ins) hH hr]
    exact ⟨h1, ⟨x0, hx0⟩, fun x hx => hk ⟨x, hx⟩⟩
  cases a with
  | sem acc =>
    have h' : symW P (execOp ρ o) acc H (fun nx H1 _ => T (fun v2 H2 => (match nx with | .value v => K v v2 H2 | .skip => K undef v2 H2 | _ => False)) H1) :=
      symW_step _ acc H _ _ h fun nx H1 r _ hn => by cases nx <;> first | exact hn | exact hn.elim
    exact symW_comm hT _ acc H _ hw hr h'
  | eq v => exact hT.step _ _ _ h.2 fun v2 H2 _ hk => ⟨h.1, hk⟩
  | gen acc C =>
    have h' : symW P (execOp ρ o) acc H (fun nx H1 _ => T (fun v2 H2 => (match nx with | .value u => (∃ x, (C (opVals ρ o.op)).Φ x ∧ u = (C (opVals ρ o.op)).val x) ∧ ∀ x, (C (opVals ρ o.op)).Φ x → K ((C (opVals ρ o.op)).val x) v2 H2 | _ => False)) H1) := by
      refine symW_step _ acc H _ _ h fun nx H1 r _ hn => ?_
      cases nx with
      | value u =>
        obtain ⟨hex, hn⟩ := hn
        obtain ⟨x0, hx0, hu⟩ := hex
        exact hT.step _ _ _ (hT.all { x : (C (opVals ρ o.op)).X // (C (opVals ρ o.op)).Φ x } ⟨⟨x0, hx0⟩⟩ (fun x v H => K ((C (opVals ρ o.op)).val x.1) v H) H1 fun x => hn x.1 x.2) fun v2 H2 _ hk => ⟨⟨x0, hx0, hu⟩, fun x hx => hk ⟨x, hx⟩⟩
      | _ => exact hn.elim
    exact symW_comm hT _ acc H _ hw hr h'
  | specr ins C => exact readC (S := OpT P (execOp ρ o)) (C := C (opVals ρ o.op)) hr h
  | specw ins outs C => exact writeC (S := OpT P (execOp ρ o)) (C := C (opVals ρ o.op)) hr hw h
  | callr ins C =>
    unfold coreW at h ⊢
    simp only at h ⊢
    cases hc : callOf ρ o.op with
    | none => rw [hc] at h; exact h.elim
    | some fa => rw [hc] at h; exact readC (S := TgtT P fa.1 fa.2) (C := C (opVals ρ o.op)) hr h
  | callw ins outs C =>
    unfold coreW at h ⊢
    simp only at h ⊢
    cases hc : callOf ρ o.op with
    | none => rw [hc] at h; exact h.elim
    | some fa => rw [hc] at h; exact writeC (S := TgtT P fa.1 fa.2) (C := C (opVals ρ o.op)) hr hw h
  | dfr => exact h.elim
  | no => exact h.elim
end Go.Sx
