/- Functions that end with one deferred call. -/
import Derived.Test.YtohkmdnelbajiaaDoorSxE1
set_option linter.unusedVariables false
set_option linter.unusedSimpArgs false
namespace Go.Sx
open Go.RowKit
/-- The contract of a function that is called behind another one's end. -/
structure CallD (P : Program) (f : FuncId) (args : Array Value) (Hs : List Slot) (X : Type) (us : X → List Slot) (Φ : X → Prop) : Prop where
  enter : EnterOK P f
  calls : ∀ (R : HP) (u : FrameMode) (w : World), Own (ofList Hs) R w →
    CallsD P f args u w fun e u' w' => u' = u ∧ ∃ x v, Φ x ∧ e = .returned v ∧ Own (ofList (us x)) R w' ∧ Ext w w'
theorem callD_of {P : Program} {f : FuncId} {fn : Func} {c : Code} {n : Nat} {args : Array Value} {Hs : List Slot} {X : Type} {val : X → Value} {us : X → List Slot} {Φ : X → Prop}
    (hP : P.follows .mixedOrders = true) (hf : P.funcs[f]? = some fn) (hb : fn.body = some c) (hn : fn.ntmps = n) (hname : (fn.name == "runtime.NumGoroutine") = false)
    (fuel : Nat) (k : Script) (acc : List Acc) (outs : List Nat) (hsz : Nat.ble args.size n = true) (ho : nodB outs = true)
    (h : codeW P n none fuel none c k (init args Hs) (finW P fn acc outs val us Φ)) : CallD P f args Hs X us Φ := by
  refine ⟨enterOK hf hb hname, fun R u w hw => ?_⟩
  subst hn
  refine (callsD_of_wp (R := fun e w' => ∃ x v, Φ x ∧ e = .returned v ∧ Own (ofList (us x)) R w' ∧ Ext w w') hf hb ?_)
  have hc := (code_sound hP fuel).1 c k (init args Hs) _ R _ w h (init_rel (Nat.le_of_ble_eq_true hsz)) hw
  have hc' := (wpIn_wide (P := P) (c := c)).1 hc
  have fin : ∀ (a' : Act) (w' : World) (s' : St), Rel fn.ntmps s' a' → Own s'.H R w' → Ext w w' → (symR P (resF fn s'.fr) acc s'.H fun v => ∃ x, Φ x ∧ v = val x ∧ outW outs (us x) s'.H (dfW s'.df [] True)) →
      a'.defers = [] ∧ ∃ v, (results fn a'.tmps).run P w' = .ok v w' ∧ ∃ x v', Φ x ∧ Ending.returned v = .returned v' ∧ Own (ofList (us x)) R w' ∧ Ext w w' := by
    intro a' w' s' hr ho' he hs
    obtain ⟨v, hrun, x, hx, rfl, hout⟩ := symR_sound _ acc s'.H _ R w' hs ho'
    obtain ⟨hd, hk⟩ := outW_use hout
    refine ⟨?_, val x, by rw [resF_eq hr]; exact hrun, x, val x, hx, rfl, (own_sub (nodB_iff.1 ho) ho').weaken fun k => (hk k).symm, he⟩
    rw [hr.df]
    cases hdf : s'.df with
    | nil => rfl
    | cons y l => rw [hdf] at hd; exact absurd hd.1 (by simp)
  refine wp_mono hc' ?_
  rintro e a' w' ⟨s', ⟨k', hk⟩, hr, ho', he⟩
  cases e with
  | normal => exact fin a' w' s' hr ho' he hk
  | ret => exact fin a' w' s' hr ho' he hk
  | exit id => exact hk.elim
  | goto l => exact hk.elim
  | panic ch => exact hk.elim
  | outgrown => exact hk.elim
def finR (P : Program) (fn : Func) (acc : List Acc) (outs : List Nat) {X : Type} (val : X → Value) (us : X → List Slot) (Φ : X → Prop) (fr : Nat → Value) (H : Hp) : Prop :=
  symR P (resF fn fr) acc H fun v => ∃ x, Φ x ∧ v = val x ∧ outW outs (us x) H True
/-- How a function ends: without a deferred call, or with one. What is left of the script says what that one does. -/
def finD (P : Program) (fn : Func) (acc : List Acc) (outs : List Nat) {X : Type} (val : X → Value) (us : X → List Slot) (Φ : X → Prop) (e : Exit) (s : St) (k : Script) : Prop :=
  match e with
  | .normal | .ret =>
    match s.df with
    | [] => finR P fn acc outs val us Φ s.fr s.H
    | [d] =>
      match d.target, k with
      | .fn (.func g) cap, .reg [.callw ins os C] _ =>
        onB (nodB ins) (onB (nodB os) (CallD P g (d.args ++ cap) (ins.map s.H) (C (undef :: (d.args ++ cap).toList) (ins.map s.H)).X (C (undef :: (d.args ++ cap).toList) (ins.map s.H)).us (C (undef :: (d.args ++ cap).toList) (ins.map s.H)).Φ ∧
          ∀ x, (C (undef :: (d.args ++ cap).toList) (ins.map s.H)).Φ x → finR P fn acc outs val us Φ s.fr (updL (clears s.H ins) os ((C (undef :: (d.args ++ cap).toList) (ins.map s.H)).us x))))
      | _, _ => False
    | _ => False
  | _ => False
theorem CallD.use {P : Program} {f : FuncId} {args : Array Value} {H : Hp} {ins outs : List Nat} {X : Type} {us : X → List Slot} {Φ : X → Prop} {R : HP} {u : FrameMode} {w : World}
    (h : CallD P f args (ins.map H) X us Φ) (hi : ins.Nodup) (ho : outs.Nodup) (hw : Own H R w) :
    CallsD P f args u w fun e u' w' => u' = u ∧ ∃ x v, Φ x ∧ e = .returned v ∧ Own (updL (clears H ins) outs (us x)) R w' ∧ Ext w w' :=
  (h.calls _ u w (own_split hi hw)).mono fun _ _ _ ⟨hu, x, v, hx, he, ho', hext⟩ => ⟨hu, x, v, hx, he, own_join ho ho', hext⟩
theorem call_of_dfr {P : Program} {f : FuncId} {fn : Func} {c : Code} {n : Nat} {args : Array Value} {Hs : List Slot} {X : Type} {val : X → Value} {us : X → List Slot} {Φ : X → Prop}
    (hP : P.follows .mixedOrders = true) (hf : P.funcs[f]? = some fn) (hb : fn.body = some c) (hn : fn.ntmps = n) (hname : (fn.name == "runtime.NumGoroutine") = false)
    (fuel : Nat) (k : Script) (acc : List Acc) (outs : List Nat) (hsz : Nat.ble args.size n = true) (ho : nodB outs = true)
    (h : codeW P n none fuel none c k (init args Hs) (finD P fn acc outs val us Φ)) : CallT P f args Hs X val us Φ := by
  refine ⟨enterOK hf hb hname, fun R w hw => ?_⟩
  subst hn
  refine calls_of_wp_defers hf hb ?_
  have hc := (code_sound hP fuel).1 c k (init args Hs) _ R _ w h (init_rel (Nat.le_of_ble_eq_true hsz)) hw
  have hc' := (wpIn_wide (P := P) (c := c)).1 hc
  have done : ∀ (a' : Act) (w' : World) (fr : Nat → Value) (H : Hp) (df : List Deferred), Rel fn.ntmps ⟨fr, H, df⟩ a' → Own H R w' → Ext w w' → finR P fn acc outs val us Φ fr H →
      ∃ v, (results fn a'.tmps).run P w' = .ok v w' ∧ ∃ x, Φ x ∧ Ending.returned v = .returned (val x) ∧ Own (ofList (us x)) R w' ∧ Ext w w' := by
    intro a' w' fr H df hr ho' he hs
    obtain ⟨v, hrun, x, hx, rfl, hout⟩ := symR_sound _ acc H _ R w' hs ho'
    obtain ⟨_, hk⟩ := outW_use hout
    exact ⟨val x, by rw [resF_eq hr]; exact hrun, x, hx, rfl, (own_sub (nodB_iff.1 ho) ho').weaken fun k => (hk k).symm, he⟩
  have fin : ∀ (a' : Act) (w' : World) (s' : St) (k' : Script), Rel fn.ntmps s' a' → Own s'.H R w' → Ext w w' → finD P fn acc outs val us Φ .ret s' k' →
      Leaves P fn a'.tmps (fun e w' => ∃ x, Φ x ∧ e = .returned (val x) ∧ Own (ofList (us x)) R w' ∧ Ext w w') a'.defers .returning w' := by
    intro a' w' s' k' hr ho' he hs
    rw [hr.df]
    unfold finD at hs
    cases hdf : s'.df with
    | nil =>
      rw [hdf] at hs
      obtain ⟨v, hrun, r⟩ := done a' w' s'.fr s'.H s'.df hr ho' he hs
      exact ⟨v, hrun, r⟩
    | cons d l =>
      rw [hdf] at hs
      cases l with
      | cons _ _ => exact hs.elim
      | nil =>
        simp only at hs
        split at hs
        · rename_i g cap ins os C k'' htg
          obtain ⟨hi, hs⟩ := onB_iff.1 hs
          obtain ⟨hu, hcd, hs⟩ := onB_iff.1 hs
          obtain ⟨tg, dargs⟩ := d
          simp only at htg; subst htg
          refine leaves_cons (by simp) (f := g) (args := dargs ++ cap) ?_ ?_
          · exact hcd.enter _ _
          · refine (hcd.use (nodB_iff.1 hi) (nodB_iff.1 hu) ho').mono ?_
            rintro e u' w'' ⟨rfl, x, v, hx, rfl, ho'', hext⟩
            obtain ⟨v2, hrun, r⟩ := done a' w'' s'.fr _ s'.df hr.heap ho'' (he.trans hext) (hs x hx)
            exact ⟨v2, hrun, r⟩
        · exact hs.elim
  refine wp_mono hc' ?_
  rintro e a' w' ⟨s', ⟨k', hk⟩, hr, ho', he⟩
  cases e with
  | normal => exact fin a' w' s' k' hr ho' he hk
  | ret => exact fin a' w' s' k' hr ho' he hk
  | exit id => exact hk.elim
  | goto l => exact hk.elim
  | panic ch => exact hk.elim
  | outgrown => exact hk.elim
end Go.Sx
