/- A symbolic executor for the model's code, part 3: an operation with its annotation; its soundness; operations that commute. -/
import Derived.Test.YtohkmdnelbajiaaDoorSx2
set_option linter.unusedVariables false
set_option linter.unusedSimpArgs false
namespace Go.Sx
open Go.RowKit

/-- What a call or an operation comes to: some x of X with Φ x: the value val x, the slots us x. -/
structure Ctr : Type 1 where
  X : Type
  val : X → Value
  us : X → List Slot
  Φ : X → Prop

/-- How an operation is walked. What is open hangs on the operands' values and on the slots that are named. -/
inductive Ann : Type 1 where
  | sem (acc : List Acc)
  | eq (v : List Value → Value)
  | gen (acc : List Acc) (C : List Value → Ctr)
  | specr (ins : List Nat) (C : List Value → List Slot → Ctr)
  | specw (ins outs : List Nat) (C : List Value → List Slot → Ctr)
  | callr (ins : List Nat) (C : List Value → List Slot → Ctr)
  | callw (ins outs : List Nat) (C : List Value → List Slot → Ctr)
  | dfr
  | no

def memB (x : Nat) : List Nat → Bool
  | [] => false
  | y :: l => bif Nat.beq x y then true else memB x l
theorem memB_iff {x : Nat} {l : List Nat} : memB x l = true ↔ x ∈ l := by
  induction l with
  | nil => simp [memB]
  | cons y l ih =>
    simp only [memB, List.mem_cons]
    cases h : Nat.beq x y with
    | true => simp [Nat.eq_of_beq_eq_true h]
    | false => simp [ih, Nat.ne_of_beq_eq_false h]
def nodB : List Nat → Bool
  | [] => true
  | x :: l => bif memB x l then false else nodB l
theorem nodB_iff {l : List Nat} : nodB l = true ↔ l.Nodup := by
  induction l with
  | nil => simp [nodB]
  | cons x l ih =>
    simp only [nodB, List.nodup_cons, ← ih]
    cases h : memB x l with
    | true => simp [memB_iff.1 h]
    | false =>
      have : x ∉ l := fun hx => by rw [memB_iff.2 hx] at h; cases h
      simp [this]
def disjB : List Nat → List Nat → Bool
  | [], _ => true
  | x :: l, m => bif memB x m then false else disjB l m
theorem disjB_iff {l m : List Nat} : disjB l m = true ↔ ∀ x ∈ l, x ∉ m := by
  induction l with
  | nil => simp [disjB]
  | cons x l ih =>
    simp only [disjB, List.mem_cons, forall_eq_or_imp, ← ih]
    cases h : memB x m with
    | true => simp [memB_iff.1 h]
    | false =>
      have : x ∉ m := fun hx => by rw [memB_iff.2 hx] at h; cases h
      simp [this]

/-- What a call leads to: a function, or a round of a range over a function. -/
inductive Tgt where
  | fn (f : FuncId)
  | yld (l : Nat)
/-- The contract of a call of yield. -/
def RoundT (P : Program) (l : Nat) (args : Array Value) (Hs : List Slot) (X : Type) (val : X → Value) (us : X → List Slot) (Φ : X → Prop) : Prop :=
  ∀ (R : HP) (w : World), Own (ofList Hs) R w → ∃ fn tmps assign body, (Instr.yield l args).run P w = .ok (.round l fn tmps assign body) w ∧
    RoundIn Fence.wide 0 P l fn tmps assign body w fun e w' => ∃ x, Φ x ∧ e = .returned (val x) ∧ Own (ofList (us x)) R w' ∧ Ext w w'
def TgtT (P : Program) (g : Tgt) (args : Array Value) (Hs : List Slot) (X : Type) (val : X → Value) (us : X → List Slot) (Φ : X → Prop) : Prop :=
  match g with
  | .fn f => CallT P f args Hs X val us Φ
  | .yld l => RoundT P l args Hs X val us Φ
def callOf (ρ : Operand → Value) (o : Op) : Option (Tgt × Array Value) :=
  match o with
  | .call { callee := .value f, args, .. } =>
    match ρ f with
    | .func (.func g) first cap => some (.fn g, first ++ args.map ρ ++ cap)
    | .func (.yield l) first _ => some (.yld l, first ++ args.map ρ)
    | _ => none
  | _ => none

def onB (b : Bool) (X : Prop) : Prop := match b with | true => X | false => False
theorem onB_iff {b : Bool} {X : Prop} : onB b X ↔ b = true ∧ X := by cases b <;> simp [onB]

def opVals (ρ : Operand → Value) (o : Op) : List Value := o.operands.toList.map ρ

def specR (T : (X : Type) → (X → Value) → (X → List Slot) → (X → Prop) → Prop) (C : Ctr) (Hs : List Slot) (K : Value → Hp → Prop) (H : Hp) : Prop :=
  T C.X C.val (fun _ => Hs) C.Φ ∧ (∃ x, C.Φ x) ∧ ∀ x, C.Φ x → K (C.val x) H
def specX (T : (X : Type) → (X → Value) → (X → List Slot) → (X → Prop) → Prop) (C : Ctr) (ins outs : List Nat) (K : Value → Hp → Prop) (H : Hp) : Prop :=
  T C.X C.val C.us C.Φ ∧ (∃ x, C.Φ x) ∧ ∀ x, C.Φ x → K (C.val x) (updL (clears H ins) outs (C.us x))

def coreW (P : Program) (ρ : Operand → Value) (o : Oper) (a : Ann) (K : Value → Hp → Prop) (H : Hp) : Prop :=
  match a with
  | .sem acc => symW P (execOp ρ o) acc H fun nx H' _ => match nx with | .value v => K v H' | .skip => K undef H' | _ => False
  | .eq v => PureRun P (execOp ρ o) (v (opVals ρ o.op)) ∧ K (v (opVals ρ o.op)) H
  | .gen acc C => symW P (execOp ρ o) acc H fun nx H' _ => match nx with | .value u => (∃ x, (C (opVals ρ o.op)).Φ x ∧ u = (C (opVals ρ o.op)).val x) ∧ ∀ x, (C (opVals ρ o.op)).Φ x → K ((C (opVals ρ o.op)).val x) H' | _ => False
  | .specr ins C => onB (nodB ins) (specR (OpT P (execOp ρ o) (ins.map H)) (C (opVals ρ o.op) (ins.map H)) (ins.map H) K H)
  | .specw ins outs C => onB (nodB ins) (onB (nodB outs) (specX (OpT P (execOp ρ o) (ins.map H)) (C (opVals ρ o.op) (ins.map H)) ins outs K H))
  | .callr ins C =>
    match callOf ρ o.op with
    | some (f, args) => onB (nodB ins) (specR (TgtT P f args (ins.map H)) (C (opVals ρ o.op) (ins.map H)) (ins.map H) K H)
    | none => False
  | .callw ins outs C =>
    match callOf ρ o.op with
    | some (f, args) => onB (nodB ins) (onB (nodB outs) (specX (TgtT P f args (ins.map H)) (C (opVals ρ o.op) (ins.map H)) ins outs K H))
    | none => False
  | .dfr => False
  | .no => False

def guardW (ops : Array Oper) (o : Oper) (fr : Nat → Value) (X : Prop) : Prop :=
  match o.guard with
  | none => X
  | some (j, b) =>
    match (ops[j]?).bind (·.dst) with
    | some d => match fr d with | .bool c => c = b ∧ X | _ => False
    | none => False
def unguardW (ops : Array Oper) (o : Oper) (fr : Nat → Value) (X : Prop) : Prop :=
  match o.guard with
  | none => False
  | some (j, b) =>
    match (ops[j]?).bind (·.dst) with
    | some d => match fr d with | .bool c => c = !b ∧ X | .tuple _ => X | _ => False
    | none => False

def dfrW (ρ : Operand → Value) (o : Op) (K : Deferred → Prop) : Prop :=
  match o with
  | .defer { callee := .value f, args, .. } =>
    match ρ f with
    | .func fn first cap => K { target := .fn fn cap, args := first ++ args.map ρ }
    | _ => False
  | _ => False

def opW (P : Program) (n : Nat) (ops : Array Oper) (o : Oper) (a : Ann) (s : St) (K : St → Prop) : Prop :=
  match a with
  | .no => unguardW ops o s.fr (putW n o.dst undef s.fr fun fr' => K ⟨fr', s.H, s.df⟩)
  | .dfr => guardW ops o s.fr (dfrW (evalF s.fr) o.op fun d => putW n o.dst undef s.fr fun fr' => K ⟨fr', s.H, d :: s.df⟩)
  | a => guardW ops o s.fr (coreW P (evalF s.fr) o a (fun v H' => putW n o.dst v s.fr fun fr' => K ⟨fr', H', s.df⟩) s.H)

/-! ### Soundness of one operation -/
def FrR (r : Option Nat) : Fence := { fn := fun _ => True, depth := none, alive := false, round := r }

theorem callsIn_of_calls {r : Option Nat} {n : Nat} {P : Program} {f : FuncId} {args : Array Value} {w : World} {R : Ending → World → Prop} (h : Calls P f args w R) : CallsIn (FrR r) n P f args w R := by
  have h1 : CallsIn Fence.wide n P f args w R := callsIn_wide.2 h
  cases r with
  | none => exact h1
  | some l => exact h1.inRound l

theorem yielded_rel {n : Nat} {s : St} {a : Act} (hr : Rel n s a) {ops : Array Oper} {j d : Nat} {c : Bool} (hd : (ops[j]?).bind (·.dst) = some d) (hc : s.fr d = .bool c) : yielded ops a.tmps j = some c := by
  have h := hr.at_ d
  rw [hc] at h
  have : a.tmps[d]? = some (.bool c) := by
    rw [Array.getD_eq_getD_getElem?] at h
    cases hx : a.tmps[d]? with
    | none => rw [hx] at h; simp [undef] at h
    | some v => rw [hx] at h; simpa using h
  simp [yielded, hd, this]

theorem run_callOf {P : Program} {ρ : Operand → Value} {o : Oper} {f : FuncId} {args : Array Value} (h : callOf ρ o.op = some (.fn f, args)) (he : EnterOK P f) (w : World) :
    (execOp ρ o).run P w = .ok (.enter f args) w := by
  unfold callOf at h
  unfold execOp
  split at h
  · rename_i g as ts heq
    rw [heq]
    split at h
    · rename_i k first cap hf
      cases h
      simp only [resolve, hf, Deferred.ofValue]
      exact he _ w
    · cases h
    · cases h
  · cases h
theorem run_yldOf {P : Program} {ρ : Operand → Value} {o : Oper} {l : Nat} {args : Array Value} (h : callOf ρ o.op = some (.yld l, args)) (w : World) :
    (execOp ρ o).run P w = (Instr.yield l args).run P w := by
  unfold callOf at h
  unfold execOp
  split at h
  · rename_i g as ts heq
    rw [heq]
    split at h
    · cases h
    · rename_i k first cap hf
      cases h
      simp only [resolve, hf, Deferred.ofValue]
      rfl
    · cases h
  · cases h
theorem RoundT.use {P : Program} {l : Nat} {args : Array Value} {H : Hp} {ins outs : List Nat} {X : Type} {val : X → Value} {us : X → List Slot} {Φ : X → Prop} {R : HP} {w : World}
    (h : RoundT P l args (ins.map H) X val us Φ) (hi : ins.Nodup) (ho : outs.Nodup) (hw : Own H R w) :
    ∃ fn tmps assign body, (Instr.yield l args).run P w = .ok (.round l fn tmps assign body) w ∧
      RoundIn Fence.wide 0 P l fn tmps assign body w fun e w' => ∃ x, Φ x ∧ e = .returned (val x) ∧ Own (updL (clears H ins) outs (us x)) R w' ∧ Ext w w' :=
  let ⟨fn, tmps, as, b, h1, h2⟩ := h _ w (own_split hi hw)
  ⟨fn, tmps, as, b, h1, h2.mono fun _ _ ⟨x, hx, he, ho', hext⟩ => ⟨x, hx, he, own_join ho ho', hext⟩⟩
theorem roundIn_of_wide {r : Option Nat} {P : Program} {l : Nat} {f : FuncId} {tmps : Array Value} {assign body : Code} {w : World} {R : Ending → World → Prop} (h : RoundIn Fence.wide 0 P l f tmps assign body w R) : RoundIn (FrR r) 0 P l f tmps assign body w R := by
  cases r with
  | none => exact h
  | some l => exact h

theorem OpT.use {P : Program} {m : Sem Next} {H : Hp} {ins outs : List Nat} {X : Type} {val : X → Value} {us : X → List Slot} {Φ : X → Prop} {R : HP} {w : World}
    (h : OpT P m (ins.map H) X val us Φ) (hi : ins.Nodup) (ho : outs.Nodup) (hw : Own H R w) :
    ∃ x w', Φ x ∧ Yields (m.run P w) (val x) w' ∧ Own (updL (clears H ins) outs (us x)) R w' ∧ Ext w w' := by
  obtain ⟨x, w', hx, hr, ho', he⟩ := h _ w (own_split hi hw)
  exact ⟨x, w', hx, hr, own_join ho ho', he⟩

theorem updL_back {H : Hp} : ∀ {ins : List Nat}, ins.Nodup → updL (clears H ins) ins (ins.map H) = H := by
  intro ins hn
  funext i
  by_cases hi : i ∈ ins
  · obtain ⟨k, hk⟩ := List.getElem?_of_mem hi
    rw [updL_in ins _ _ k i hn hk]
    simp [ofList, List.getD_eq_getElem?_getD, hk]
  · rw [updL_out _ _ _ _ hi, clears_out _ _ _ hi]

theorem CallT.use {P : Program} {f : FuncId} {args : Array Value} {H : Hp} {ins outs : List Nat} {X : Type} {val : X → Value} {us : X → List Slot} {Φ : X → Prop} {R : HP} {w : World}
    (h : CallT P f args (ins.map H) X val us Φ) (hi : ins.Nodup) (ho : outs.Nodup) (hw : Own H R w) :
    Calls P f args w fun e w' => ∃ x, Φ x ∧ e = .returned (val x) ∧ Own (updL (clears H ins) outs (us x)) R w' ∧ Ext w w' :=
  (h.calls _ w (own_split hi hw)).mono fun _ _ ⟨x, hx, he, ho', hext⟩ => ⟨x, hx, he, own_join ho ho', hext⟩

def After (n : Nat) (K : St → Prop) (R : HP) (w : World) (a' : Act) (w' : World) : Prop :=
  ∃ s', K s' ∧ Rel n s' a' ∧ Own s'.H R w' ∧ Ext w w'

theorem core_sound {P : Program} {n : Nat} {r : Option Nat} {o : Oper} {a : Ann} {s : St} {K : Value → Hp → Prop} {act : Act} {R : HP} {w : World} {next : Act → World → Prop} {Q : Exit → Act → World → Prop}
    (h : coreW P (evalF s.fr) o a K s.H) (hr : Rel n s act) (ho : Own s.H R w)
    (hn : ∀ v H' w', K v H' → Own H' R w' → Ext w w' → next (act.put o.dst v) w') : o.wpIn (FrR r) 0 P act w next Q := by
  refine ⟨fun _ _ => trivial, ?_⟩
  have hev := hr.eval
  rw [← hev] at h
  have sem : ∀ (nx : Next) (w' : World), (execOp act.eval o).run P w = .ok nx w' → (∀ d, nx ≠ .defer d) → (o.semAt (FrR r).round act.eval).run P w = .ok nx w' := by
    intro nx w' hrun hnd
    rw [Oper.semAt_eq _ _ _ ?_]
    · exact hrun
    · intro c hc
      unfold execOp at hrun
      rw [hc] at hrun
      simp only [Sem.run_bind] at hrun
      cases hx : Sem.run P (resolve act.eval c o.type) w with
      | ok d w'' => rw [hx] at hrun; simp [pure] at hrun; exact hnd _ hrun.1.symm
      | halt _ _ => rw [hx] at hrun; simp at hrun
  cases a with
  | sem acc =>
    obtain ⟨nx, w', H', acc', hrun, hk, ho', he⟩ := symW_sound _ acc s.H _ R w h ho
    cases nx <;> first
      | (rw [sem _ _ hrun (by intro d; simp)]; exact hn _ _ _ hk ho' he)
      | exact hk.elim
  | eq v => rw [sem _ _ (h.1 w) (by intro d; simp)]; exact hn _ _ _ h.2 ho (.refl _)
  | gen acc C =>
    obtain ⟨nx, w', H', acc', hrun, hk, ho', he⟩ := symW_sound _ acc s.H _ R w h ho
    cases nx <;> first
      | (rw [sem _ _ hrun (by intro d; simp)]
         obtain ⟨⟨x, hx, rfl⟩, hk⟩ := hk
         exact hn _ _ _ (hk x hx) ho' he)
      | exact hk.elim
  | specr ins C =>
    obtain ⟨hi, h, _, hk⟩ := onB_iff.1 h
    have hi := nodB_iff.1 hi
    obtain ⟨x, w', hx, hrun, ho', he⟩ := h.use hi hi ho
    rw [updL_back hi] at ho'
    have hk := hk x hx
    rcases hrun with hrun | ⟨hrun, hv⟩
    · rw [sem _ _ hrun (by intro d; simp)]; exact hn _ _ _ hk ho' he
    · rw [hv] at hk; rw [sem _ _ hrun (by intro d; simp)]; exact hn _ _ _ hk ho' he
  | specw ins outs C =>
    obtain ⟨hi, h⟩ := onB_iff.1 h
    obtain ⟨hu, h, _, hk⟩ := onB_iff.1 h
    obtain ⟨x, w', hx, hrun, ho', he⟩ := h.use (nodB_iff.1 hi) (nodB_iff.1 hu) ho
    have hk := hk x hx
    rcases hrun with hrun | ⟨hrun, hv⟩
    · rw [sem _ _ hrun (by intro d; simp)]; exact hn _ _ _ hk ho' he
    · rw [hv] at hk; rw [sem _ _ hrun (by intro d; simp)]; exact hn _ _ _ hk ho' he
  | callr ins C =>
    simp only [coreW] at h
    cases hc : callOf act.eval o.op with
    | none => rw [hc] at h; exact h.elim
    | some fa =>
      obtain ⟨g, args⟩ := fa
      rw [hc] at h
      obtain ⟨hi, h, _, hk⟩ := onB_iff.1 h
      have hi := nodB_iff.1 hi
      cases g with
      | fn f =>
        have h : CallT P f args _ _ _ _ _ := h
        rw [sem _ _ (run_callOf hc h.enter w) (by intro d; simp), Oper.uponIn_enter]
        refine ⟨fun h => by simp [FrR] at h, (callsIn_of_calls (h.use hi hi ho)).mono ?_⟩
        rintro e w' ⟨x, hx, rfl, ho', he⟩
        rw [updL_back hi] at ho'
        exact hn _ _ _ (hk x hx) ho' he
      | yld l =>
        have h : RoundT P l args _ _ _ _ _ := h
        obtain ⟨fn, tmps, as, bd, hrun, hrd⟩ := h.use hi hi ho
        rw [sem _ _ ((run_yldOf hc w).trans hrun) (by intro d; simp), Oper.uponIn_round]
        refine ⟨fun h => by simp [FrR] at h, (roundIn_of_wide hrd).mono ?_⟩
        rintro e w' ⟨x, hx, rfl, ho', he⟩
        rw [updL_back hi] at ho'
        exact hn _ _ _ (hk x hx) ho' he
  | callw ins outs C =>
    simp only [coreW] at h
    cases hc : callOf act.eval o.op with
    | none => rw [hc] at h; exact h.elim
    | some fa =>
      obtain ⟨g, args⟩ := fa
      rw [hc] at h
      obtain ⟨hi, h⟩ := onB_iff.1 h
      obtain ⟨hu, h, _, hk⟩ := onB_iff.1 h
      cases g with
      | fn f =>
        have h : CallT P f args _ _ _ _ _ := h
        rw [sem _ _ (run_callOf hc h.enter w) (by intro d; simp), Oper.uponIn_enter]
        refine ⟨fun h => by simp [FrR] at h, (callsIn_of_calls (h.use (nodB_iff.1 hi) (nodB_iff.1 hu) ho)).mono ?_⟩
        rintro e w' ⟨x, hx, rfl, ho', he⟩
        exact hn _ _ _ (hk x hx) ho' he
      | yld l =>
        have h : RoundT P l args _ _ _ _ _ := h
        obtain ⟨fn, tmps, as, bd, hrun, hrd⟩ := h.use (nodB_iff.1 hi) (nodB_iff.1 hu) ho
        rw [sem _ _ ((run_yldOf hc w).trans hrun) (by intro d; simp), Oper.uponIn_round]
        refine ⟨fun h => by simp [FrR] at h, (roundIn_of_wide hrd).mono ?_⟩
        rintro e w' ⟨x, hx, rfl, ho', he⟩
        exact hn _ _ _ (hk x hx) ho' he
  | dfr => exact h.elim
  | no => exact h.elim

theorem guard_wanted {n : Nat} {ops : Array Oper} {o : Oper} {s : St} {X : Prop} {a : Act} (hr : Rel n s a) (h : guardW ops o s.fr X) : Region.wanted o (yielded ops a.tmps) = true ∧ X := by
  unfold guardW at h
  unfold Region.wanted
  cases hg : o.guard with
  | none => rw [hg] at h; exact ⟨rfl, h⟩
  | some jb =>
    obtain ⟨j, b⟩ := jb
    rw [hg] at h
    simp only at h ⊢
    split at h
    · rename_i d hd
      split at h
      · rename_i c hc
        obtain ⟨rfl, h⟩ := h
        exact ⟨by rw [yielded_rel hr hd hc]; simp, h⟩
      · exact h.elim
    · exact h.elim
theorem yielded_none {n : Nat} {s : St} {a : Act} (hr : Rel n s a) {ops : Array Oper} {j d : Nat} {c : Array Value} (hd : (ops[j]?).bind (·.dst) = some d) (hc : s.fr d = .tuple c) : yielded ops a.tmps j = none := by
  have h := hr.at_ d
  rw [hc] at h
  rw [Array.getD_eq_getD_getElem?] at h
  cases hx : a.tmps[d]? with
  | none => simp [yielded, hd, hx]
  | some v =>
    rw [hx] at h
    simp at h; subst h
    simp [yielded, hd, hx]
theorem unguard_wanted {n : Nat} {ops : Array Oper} {o : Oper} {s : St} {X : Prop} {a : Act} (hr : Rel n s a) (h : unguardW ops o s.fr X) : Region.wanted o (yielded ops a.tmps) = false ∧ X := by
  unfold unguardW at h
  unfold Region.wanted
  cases hg : o.guard with
  | none => rw [hg] at h; exact h.elim
  | some jb =>
    obtain ⟨j, b⟩ := jb
    rw [hg] at h
    simp only at h ⊢
    split at h
    · rename_i d hd
      split at h
      · rename_i c hc
        obtain ⟨rfl, h⟩ := h
        exact ⟨by rw [yielded_rel hr hd hc]; simp, h⟩
      · rename_i c hc
        exact ⟨by rw [yielded_none hr hd hc]; simp, h⟩
      · exact h.elim
    · exact h.elim

/-- May an annotation stand in a round (of a range over a function)? -/
def isDfr : Ann → Bool
  | .dfr => true
  | _ => false

theorem op_sound {P : Program} {n : Nat} {r : Option Nat} {ops : Array Oper} {o : Oper} {a : Ann} {s : St} {K : St → Prop} {act : Act} {R : HP} {w : World} {next : Act → World → Prop} {Q : Exit → Act → World → Prop}
    (hd : r = none ∨ isDfr a = false) (h : opW P n ops o a s K) (hr : Rel n s act) (ho : Own s.H R w) (hn : ∀ a' w', After n K R w a' w' → next a' w') :
    if Region.wanted o (yielded ops act.tmps) = true then o.wpIn (FrR r) 0 P act w next Q
    else (∀ f, o.about P w act.eval = some f → (FrR r).fn f) ∧ next (act.put o.dst undef) w := by
  have fin : ∀ v H' w', putW n o.dst v s.fr (fun fr' => K ⟨fr', H', s.df⟩) → Own H' R w' → Ext w w' → next (act.put o.dst v) w' := by
    intro v H' w' hk ho' he
    obtain ⟨fr', hk, hrel⟩ := putW_sound hr hk H'
    exact hn _ _ ⟨_, hk, hrel, ho', he⟩
  cases a with
  | no =>
    obtain ⟨hw, hk⟩ := unguard_wanted hr h
    rw [if_neg (by rw [hw]; simp)]
    exact ⟨fun _ _ => trivial, fin undef s.H w hk ho (.refl _)⟩
  | dfr =>
    obtain ⟨hw, hk⟩ := guard_wanted hr h
    rw [if_pos hw]
    refine ⟨fun _ _ => trivial, ?_⟩
    rcases hd with rfl | hd
    · have hev := hr.eval
      rw [← hev] at hk
      unfold dfrW at hk
      split at hk
      · rename_i f args ts heq
        split at hk
        · rename_i fn first cap hf
          have hrun : (o.semAt (FrR none).round act.eval).run P w = .ok (.defer { target := .fn fn cap, args := first ++ args.map act.eval }) w := by
            show (execOp act.eval o).run P w = _
            unfold execOp
            rw [heq]
            simp only [resolve, hf, Deferred.ofValue]
            rfl
          rw [hrun, Oper.uponIn_defer]
          obtain ⟨fr', hk, hrel⟩ := putW_sound (v := undef) hr hk s.H
          refine hn _ _ ⟨_, hk, ⟨?_, ?_, ?_⟩, ho, .refl _⟩
          · have := hrel.size
            cases hx : o.dst <;> rw [hx] at this <;> simpa [Act.put] using this
          · have := hrel.at_
            cases hx : o.dst <;> rw [hx] at this <;> simpa [Act.put] using this
          · have := hr.df
            cases hx : o.dst <;> simp [Act.put, this]
        · exact hk.elim
      · exact hk.elim
    · cases hd
  | sem acc =>
    obtain ⟨hw, hk⟩ := guard_wanted hr h
    rw [if_pos hw]
    exact core_sound hk hr ho fin
  | eq v =>
    obtain ⟨hw, hk⟩ := guard_wanted hr h
    rw [if_pos hw]
    exact core_sound hk hr ho fin
  | gen acc C =>
    obtain ⟨hw, hk⟩ := guard_wanted hr h
    rw [if_pos hw]
    exact core_sound hk hr ho fin
  | specr ins C =>
    obtain ⟨hw, hk⟩ := guard_wanted hr h
    rw [if_pos hw]
    exact core_sound hk hr ho fin
  | specw ins outs C =>
    obtain ⟨hw, hk⟩ := guard_wanted hr h
    rw [if_pos hw]
    exact core_sound hk hr ho fin
  | callr ins C =>
    obtain ⟨hw, hk⟩ := guard_wanted hr h
    rw [if_pos hw]
    exact core_sound hk hr ho fin
  | callw ins outs C =>
    obtain ⟨hw, hk⟩ := guard_wanted hr h
    rw [if_pos hw]
    exact core_sound hk hr ho fin
end Go.Sx
