/- A symbolic executor for the model's code, part 9: a function's contract out of the conditions on its body. -/
import Derived.Test.YtohkmdnelbajiaaDoorSx8
set_option linter.unusedVariables false
set_option linter.unusedSimpArgs false
namespace Go.Sx
open Go.RowKit

/-! ### What a function hands back -/
def symR (P : Program) {α : Type} : Sem α → List Acc → Hp → (α → Prop) → Prop
  | .pure a, _, _, K => K a
  | .load _ a k, .rd i :: acc, H, K =>
    match H i with
    | .blk b (.cells c _ _) => a.block = b ∧ a.spot = none ∧ (match c[a.off]? with | some v => symR P (k v) acc H K | none => False)
    | _ => False
  | .load _ a k, .rv i f :: acc, H, K =>
    match H i with
    | .blk b (.cells c _ _) => a.block = b ∧ a.spot = none ∧ c[a.off]? = some (f a c) ∧ symR P (k (f a c)) acc H K
    | _ => False
  | .program k, acc, H, K => symR P (k P) acc H K
  | .mark _ k, acc, H, K => symR P k acc H K
  | _, _, _, _ => False

theorem symR_sound {P : Program} {α : Type} (m : Sem α) : ∀ (acc : List Acc) (H : Hp) (K : α → Prop) (R : HP) (w : World), symR P m acc H K → Own H R w → ∃ a, m.run P w = .ok a w ∧ K a := by
  induction m with
  | pure a => intro acc H K R w h _; cases acc <;> exact ⟨a, rfl, h⟩
  | load m a k ih =>
    intro acc H K R w h ho
    match acc, h with
    | .rd i :: acc, h =>
      simp only [symR] at h
      cases hs : H i with
      | blk b o =>
        rw [hs] at h
        cases o with
        | cells c t f =>
          obtain ⟨hb, hsp, h⟩ := h
          have hc := cell_of_block (w := w) (a := a) (by rw [hb]; exact ho.block hs) hsp
          cases hv : c[a.off]? with
          | none => rw [hv] at h; exact h.elim
          | some v =>
            rw [hv] at h
            obtain ⟨x, hr, hk⟩ := ih v acc H K R w h ho
            exact ⟨x, by simp only [Sem.run, hc, hv]; exact hr, hk⟩
        | _ => exact h.elim
      | _ => rw [hs] at h; exact h.elim
    | .rv i g :: acc, h =>
      simp only [symR] at h
      cases hs : H i with
      | blk b o =>
        rw [hs] at h
        cases o with
        | cells c t f =>
          obtain ⟨hb, hsp, hv, h⟩ := h
          have hc := cell_of_block (w := w) (a := a) (by rw [hb]; exact ho.block hs) hsp
          obtain ⟨x, hr, hk⟩ := ih _ acc H K R w h ho
          exact ⟨x, by simp only [Sem.run, hc, hv]; exact hr, hk⟩
        | _ => exact h.elim
      | _ => rw [hs] at h; exact h.elim
    | .wr _ :: _, h | .ws _ :: _, h | .nw _ :: _, h | .ch :: _, h | [], h => exact h.elim
  | program k ih =>
    intro acc H K R w h ho
    have h' : symR P (k P) acc H K := by cases acc <;> exact h
    obtain ⟨x, hr, hk⟩ := ih P acc H K R w h' ho
    exact ⟨x, by simp only [Sem.run]; exact hr, hk⟩
  | mark m k ih =>
    intro acc H K R w h ho
    have h' : symR P k acc H K := by cases acc <;> exact h
    obtain ⟨x, hr, hk⟩ := ih acc H K R w h' ho
    exact ⟨x, by simp only [Sem.run]; exact hr, hk⟩
  | _ => intro acc H K R w h ho; cases acc <;> exact h.elim

def resF (fn : Func) (fr : Nat → Value) : Sem Value := do
  let vs ← fn.results.mapM fun
    | .tmp t => pure (fr t)
    | .cell a t => do loadVar t (← asAddr (fr a))
  pure (if h : vs.size = 1 then vs[0] else .tuple vs)

theorem resF_eq {n : Nat} {fn : Func} {s : St} {a : Act} (h : Rel n s a) : results fn a.tmps = resF fn s.fr := by
  have : s.fr = fun i => a.tmps.getD i undef := funext fun i => (h.at_ i).symm
  rw [this]
  rfl

def outW (outs : List Nat) (ss : List Slot) (H : Hp) (Y : Prop) : Prop :=
  match ss with
  | [] => Y
  | s :: ss => match outs with | i :: outs => H i = s ∧ outW outs ss H Y | [] => False

theorem outW_use : ∀ {outs : List Nat} {ss : List Slot} {H : Hp} {Y : Prop}, outW outs ss H Y → Y ∧ ∀ k, ofList ss k = .free ∨ ofList ss k = ofList (outs.map H) k
  | _, [], _, _, h => by
    unfold outW at h
    exact ⟨h, fun k => .inl (by simp [ofList])⟩
  | [], _ :: _, _, _, h => h.elim
  | i :: outs, s :: ss, H, Y, h => by
    obtain ⟨h1, h2⟩ := h
    obtain ⟨hy, hk⟩ := outW_use h2
    refine ⟨hy, fun k => ?_⟩
    cases k with
    | zero => exact .inr (by simp [ofList, h1])
    | succ k => simpa [ofList] using hk k

def finW (P : Program) (fn : Func) (acc : List Acc) (outs : List Nat) {X : Type} (val : X → Value) (us : X → List Slot) (Φ : X → Prop) (e : Exit) (s : St) (_ : Script) : Prop :=
  match e with
  | .normal | .ret => symR P (resF fn s.fr) acc s.H fun v => ∃ x, Φ x ∧ v = val x ∧ outW outs (us x) s.H (dfW s.df [] True)
  | _ => False

def bodyOf (fn : Func) : Code := fn.body.getD .skip

def init (args : Array Value) (Hs : List Slot) : St := { fr := fun i => args.getD i undef, H := ofList Hs, df := [] }

theorem init_rel {args : Array Value} {Hs : List Slot} {n : Nat} (h : args.size ≤ n) : Rel n (init args Hs) { tmps := args ++ Array.replicate (n - args.size) undef, defers := [] } := by
  refine ⟨by simp; omega, fun i => ?_, rfl⟩
  simp only [init, Array.getD_eq_getD_getElem?, Array.getElem?_append]
  split
  · rfl
  · rename_i hlt
    rw [Array.getElem?_eq_none (xs := args) (by omega)]
    simp only [Array.getElem?_replicate]
    split <;> rfl

theorem enterOK {P : Program} {f : FuncId} {fn : Func} {c : Code} (hf : P.funcs[f]? = some fn) (hb : fn.body = some c) (hname : (fn.name == "runtime.NumGoroutine") = false) : EnterOK P f := by
  intro args w
  have hs : fn.body.isNone = false := by rw [hb]; rfl
  unfold callFunc
  simp only [Sem.run_bind, program, Sem.run, Result.andThen_ok, hf, hname, hs, Bool.false_eq_true, if_false]
  rfl

/-- **A contract out of the conditions on the body.** -/
theorem call_of {P : Program} {f : FuncId} {fn : Func} {c : Code} {n : Nat} {args : Array Value} {Hs : List Slot} {X : Type} {val : X → Value} {us : X → List Slot} {Φ : X → Prop}
    (hP : P.follows .mixedOrders = true) (hf : P.funcs[f]? = some fn) (hb : fn.body = some c) (hn : fn.ntmps = n) (hname : (fn.name == "runtime.NumGoroutine") = false)
    (fuel : Nat) (k : Script) (acc : List Acc) (outs : List Nat) (hsz : Nat.ble args.size n = true) (ho : nodB outs = true)
    (h : codeW P n none fuel none c k (init args Hs) (finW P fn acc outs val us Φ)) : CallT P f args Hs X val us Φ := by
  refine ⟨enterOK hf hb hname, fun R w hw => ?_⟩
  subst hn
  have go : CallsIn Fence.wide 0 P f args w fun e w' => ∃ x, Φ x ∧ e = .returned (val x) ∧ Own (ofList (us x)) R w' ∧ Ext w w' := ?_
  · exact callsIn_wide.1 go
  refine callsIn_of_wp hf hb trivial ?_
  have hc := (code_sound hP fuel).1 c k (init args Hs) _ R _ w h (init_rel (Nat.le_of_ble_eq_true hsz)) hw
  refine wpIn_mono hc ?_
  have fin : ∀ (a' : Act) (w' : World) (s' : St), Rel fn.ntmps s' a' → Own s'.H R w' → Ext w w' → (symR P (resF fn s'.fr) acc s'.H fun v => ∃ x, Φ x ∧ v = val x ∧ outW outs (us x) s'.H (dfW s'.df [] True)) →
      a'.defers = [] ∧ ∃ v, (results fn a'.tmps).run P w' = .ok v w' ∧ ∃ x, Φ x ∧ Ending.returned v = .returned (val x) ∧ Own (ofList (us x)) R w' ∧ Ext w w' := by
    intro a' w' s' hr ho' he hs
    obtain ⟨v, hrun, x, hx, rfl, hout⟩ := symR_sound _ acc s'.H _ R w' hs ho'
    obtain ⟨hd, hk⟩ := outW_use hout
    refine ⟨?_, val x, by rw [resF_eq hr]; exact hrun, x, hx, rfl, (own_sub (nodB_iff.1 ho) ho').weaken fun k => (hk k).symm, he⟩
    rw [hr.df]
    cases hdf : s'.df with
    | nil => rfl
    | cons y l => rw [hdf] at hd; exact absurd hd.1 (by simp)
  rintro e a' w' ⟨s', ⟨k', hk⟩, hr, ho', he⟩
  cases e with
  | normal => exact fin a' w' s' hr ho' he hk
  | ret => exact fin a' w' s' hr ho' he hk
  | exit id => exact hk.elim
  | goto l => exact hk.elim
  | panic ch => exact hk.elim
  | outgrown => exact hk.elim

/-! ### The memory that was there -/
def old (w : World) : Slot := .par [] (.wld w) (fun h => ∀ i : Nat, h i = w.heap[i]?)
theorem own_old (w : World) : Own (ofList [old w]) (fun _ => True) w := by
  refine ⟨fun i => match i with | 0 => (fun b => w.heap[b]?) | _ + 1 => fun _ => none, fun _ => none, fun i => ?_, trivial, fun i b o h => ?_, fun b o h => (by cases h), fun i j hij => ?_, fun i b => .inr rfl⟩
  · cases i with
    | zero => exact fun _ => rfl
    | succ i => exact fun _ => rfl
  · cases i with
    | zero => exact h
    | succ i => cases h
  · cases i with
    | zero =>
      cases j with
      | zero => exact absurd rfl hij
      | succ j => exact fun _ => .inr rfl
    | succ i => exact fun _ => .inl rfl

theorem CallT.below {P : Program} {f : FuncId} {args : Array Value} {w : World} {X : Type} {val : X → Value} {Φ : X → Prop} (h : CallT P f args [old w] X val (fun _ => [old w]) Φ) :
    Calls P f args w fun e w' => ∃ x, Φ x ∧ e = .returned (val x) ∧ Below w.heap.size w w' := by
  refine (h.calls _ w (own_old w)).mono ?_
  rintro e w' ⟨x, hx, he, ⟨p, q, hs, _, hp, _⟩, hext⟩
  refine ⟨x, hx, he, hext.os, hext.tape, hext.output, hext.size, fun i hi => ?_⟩
  have h0 := hs 0
  simp only [ofList, old, List.getD_cons_zero, Slot.sat] at h0
  have := hp 0 i w.heap[i] (by rw [h0 i]; simp [hi])
  rw [this]; simp [hi]

/-! ### Using contracts -/
theorem CallT.weaken {P : Program} {f : FuncId} {args : Array Value} {Hs : List Slot} {X Y : Type} {val : X → Value} {us : X → List Slot} {Φ : X → Prop} {val' : Y → Value} {us' : Y → List Slot} {Ψ : Y → Prop}
    (h : CallT P f args Hs X val us Φ) (hk : ∀ x, Φ x → ∃ y, Ψ y ∧ val x = val' y ∧ us x = us' y) : CallT P f args Hs Y val' us' Ψ :=
  ⟨h.enter, fun R w hw => (h.calls R w hw).mono fun _ _ ⟨x, hx, he, ho, hext⟩ => let ⟨y, hy, h1, h2⟩ := hk x hx; ⟨y, hy, h1 ▸ he, h2 ▸ ho, hext⟩⟩
end Go.Sx
