/- A part of the prover's own frame for walking code (see the claim's other texts). -/
import Derived.Test.YtmikgnjocfcekaaF3
import Derived.Test.YtmikgnjocfcekaaF4
import Derived.Maps.RangeRun
import Derived.RangeFuncLeaves
import Derived.RangeFuncRecord
import Derived.Lib.SliceRun
set_option linter.unusedVariables false
set_option linter.unusedSimpArgs false
namespace Go.Sx
open Go.RowKit
/-- The contract of a function that is called behind another one's end. -/
structure CallD (P : Program) (f : FuncId) (args : Array Value) (Hs : List Slot) (X : Type) (us : X → List Slot) (Φ : X → Prop) : Prop where
  enter : EnterOK P f
  calls : ∀ (R : HP) (u : FrameMode) (w : World), Own (ofList Hs) R w →
    CallsD P f args u w fun e u' w' => u' = u ∧ ∃ x v, Φ x ∧ e = .returned v ∧ Own (ofList (us x)) R w' ∧ Ext w w'
theorem callD_of {P : Program} {f : FuncId} {fn : Func} {c : Code} {n : Nat} {args : Array Value} {Hs : List Slot} {X : Type} {val : X → Value} {us : X → List Slot} {Φ : X → Prop}
    (hP : P.follows .mixedOrders = true) (hf : P.funcs[f]? = some fn) (hb : fn.body = some c) (hn : fn.ntmps = n) (hname : (fn.name == "runtime.NumGoroutine") = false)
    (fuel : Nat) (k : Script) (acc : List Acc) (outs : List Nat) (hsz : Nat.ble args.size n = true) (ho : nodB outs = true)
    (h : codeW P n none fuel none c k (init args Hs) (finW P fn acc outs val us Φ)) : CallD P f args Hs X us Φ := by
  refine ⟨enterOK hf hb hname, fun R u w hw => ?_⟩
  subst hn
  refine (callsD_of_wp (R := fun e w' => ∃ x v, Φ x ∧ e = .returned v ∧ Own (ofList (us x)) R w' ∧ Ext w w') hf hb ?_)
  have hc := (code_sound hP fuel).1 c k (init args Hs) _ R _ w h (init_rel (Nat.le_of_ble_eq_true hsz)) hw
  have hc' := (wpIn_wide (P := P) (c := c)).1 hc
  have fin : ∀ (a' : Act) (w' : World) (s' : St), Rel fn.ntmps s' a' → Own s'.H R w' → Ext w w' → (symR P (resF fn s'.fr) acc s'.H fun v => ∃ x, Φ x ∧ v = val x ∧ outW outs (us x) s'.H (dfW s'.df [] True)) →
      a'.defers = [] ∧ ∃ v, (results fn a'.tmps).run P w' = .ok v w' ∧ ∃ x v', Φ x ∧ Ending.returned v = .returned v' ∧ Own (ofList (us x)) R w' ∧ Ext w w' := by
    intro a' w' s' hr ho' he hs
    obtain ⟨v, hrun, x, hx, rfl, hout⟩ := symR_sound _ acc s'.H _ R w' hs ho'
    obtain ⟨hd, hk⟩ := outW_use hout
    refine ⟨?_, val x, by rw [resF_eq hr]; exact hrun, x, val x, hx, rfl, (own_sub (nodB_iff.1 ho) ho').weaken fun k => (hk k).symm, he⟩
    rw [hr.df]
    cases hdf : s'.df with
    | nil => rfl
    | cons y l => rw [hdf] at hd; exact absurd hd.1 (by simp)
  refine wp_mono hc' ?_
  rintro e a' w' ⟨s', ⟨k', hk⟩, hr, ho', he⟩
  cases e with
  | normal => exact fin a' w' s' hr ho' he hk
  | ret => exact fin a' w' s' hr ho' he hk
  | exit id => exact hk.elim
  | goto l => exact hk.elim
  | panic ch => exact hk.elim
  | outgrown => exact hk.elim
def finR (P : Program) (fn : Func) (acc : List Acc) (outs : List Nat) {X : Type} (val : X → Value) (us : X → List Slot) (Φ : X → Prop) (fr : Nat → Value) (H : Hp) : Prop :=
  symR P (resF fn fr) acc H fun v => ∃ x, Φ x ∧ v = val x ∧ outW outs (us x) H True
/-- How a function ends: without a deferred call, or with one. What is left of the script says what that one does. -/
def finD (P : Program) (fn : Func) (acc : List Acc) (outs : List Nat) {X : Type} (val : X → Value) (us : X → List Slot) (Φ : X → Prop) (e : Exit) (s : St) (k : Script) : Prop :=
  match e with
  | .normal | .ret =>
    match s.df with
    | [] => finR P fn acc outs val us Φ s.fr s.H
    | [d] =>
      match d.target, k with
      | .fn (.func g) cap, .reg [.callw ins os C] _ =>
        onB (nodB ins) (onB (nodB os) (CallD P g (d.args ++ cap) (ins.map s.H) (C (undef :: (d.args ++ cap).toList) (ins.map s.H)).X (C (undef :: (d.args ++ cap).toList) (ins.map s.H)).us (C (undef :: (d.args ++ cap).toList) (ins.map s.H)).Φ ∧
          ∀ x, (C (undef :: (d.args ++ cap).toList) (ins.map s.H)).Φ x → finR P fn acc outs val us Φ s.fr (updL (clears s.H ins) os ((C (undef :: (d.args ++ cap).toList) (ins.map s.H)).us x))))
      | _, _ => False
    | _ => False
  | _ => False
theorem CallD.use {P : Program} {f : FuncId} {args : Array Value} {H : Hp} {ins outs : List Nat} {X : Type} {us : X → List Slot} {Φ : X → Prop} {R : HP} {u : FrameMode} {w : World}
    (h : CallD P f args (ins.map H) X us Φ) (hi : ins.Nodup) (ho : outs.Nodup) (hw : Own H R w) :
    CallsD P f args u w fun e u' w' => u' = u ∧ ∃ x v, Φ x ∧ e = .returned v ∧ Own (updL (clears H ins) outs (us x)) R w' ∧ Ext w w' :=
  (h.calls _ u w (own_split hi hw)).mono fun _ _ _ ⟨hu, x, v, hx, he, ho', hext⟩ => ⟨hu, x, v, hx, he, own_join ho ho', hext⟩
theorem call_of_dfr {P : Program} {f : FuncId} {fn : Func} {c : Code} {n : Nat} {args : Array Value} {Hs : List Slot} {X : Type} {val : X → Value} {us : X → List Slot} {Φ : X → Prop}
    (hP : P.follows .mixedOrders = true) (hf : P.funcs[f]? = some fn) (hb : fn.body = some c) (hn : fn.ntmps = n) (hname : (fn.name == "runtime.NumGoroutine") = false)
    (fuel : Nat) (k : Script) (acc : List Acc) (outs : List Nat) (hsz : Nat.ble args.size n = true) (ho : nodB outs = true)
    (h : codeW P n none fuel none c k (init args Hs) (finD P fn acc outs val us Φ)) : CallT P f args Hs X val us Φ := by
  refine ⟨enterOK hf hb hname, fun R w hw => ?_⟩
  subst hn
  refine calls_of_wp_defers hf hb ?_
  have hc := (code_sound hP fuel).1 c k (init args Hs) _ R _ w h (init_rel (Nat.le_of_ble_eq_true hsz)) hw
  have hc' := (wpIn_wide (P := P) (c := c)).1 hc
  have done : ∀ (a' : Act) (w' : World) (fr : Nat → Value) (H : Hp) (df : List Deferred), Rel fn.ntmps ⟨fr, H, df⟩ a' → Own H R w' → Ext w w' → finR P fn acc outs val us Φ fr H →
      ∃ v, (results fn a'.tmps).run P w' = .ok v w' ∧ ∃ x, Φ x ∧ Ending.returned v = .returned (val x) ∧ Own (ofList (us x)) R w' ∧ Ext w w' := by
    intro a' w' fr H df hr ho' he hs
    obtain ⟨v, hrun, x, hx, rfl, hout⟩ := symR_sound _ acc H _ R w' hs ho'
    obtain ⟨_, hk⟩ := outW_use hout
    exact ⟨val x, by rw [resF_eq hr]; exact hrun, x, hx, rfl, (own_sub (nodB_iff.1 ho) ho').weaken fun k => (hk k).symm, he⟩
  have fin : ∀ (a' : Act) (w' : World) (s' : St) (k' : Script), Rel fn.ntmps s' a' → Own s'.H R w' → Ext w w' → finD P fn acc outs val us Φ .ret s' k' →
      Leaves P fn a'.tmps (fun e w' => ∃ x, Φ x ∧ e = .returned (val x) ∧ Own (ofList (us x)) R w' ∧ Ext w w') a'.defers .returning w' := by
    intro a' w' s' k' hr ho' he hs
    rw [hr.df]
    unfold finD at hs
    cases hdf : s'.df with
    | nil =>
      rw [hdf] at hs
      obtain ⟨v, hrun, r⟩ := done a' w' s'.fr s'.H s'.df hr ho' he hs
      exact ⟨v, hrun, r⟩
    | cons d l =>
      rw [hdf] at hs
      cases l with
      | cons _ _ => exact hs.elim
      | nil =>
        simp only at hs
        split at hs
        · rename_i g cap ins os C k'' htg
          obtain ⟨hi, hs⟩ := onB_iff.1 hs
          obtain ⟨hu, hcd, hs⟩ := onB_iff.1 hs
          obtain ⟨tg, dargs⟩ := d
          simp only at htg; subst htg
          refine leaves_cons (by simp) (f := g) (args := dargs ++ cap) ?_ ?_
          · exact hcd.enter _ _
          · refine (hcd.use (nodB_iff.1 hi) (nodB_iff.1 hu) ho').mono ?_
            rintro e u' w'' ⟨rfl, x, v, hx, rfl, ho'', hext⟩
            obtain ⟨v2, hrun, r⟩ := done a' w'' s'.fr _ s'.df hr.heap ho'' (he.trans hext) (hs x hx)
            exact ⟨v2, hrun, r⟩
        · exact hs.elim
  refine wp_mono hc' ?_
  rintro e a' w' ⟨s', ⟨k', hk⟩, hr, ho', he⟩
  cases e with
  | normal => exact fin a' w' s' k' hr ho' he hk
  | ret => exact fin a' w' s' k' hr ho' he hk
  | exit id => exact hk.elim
  | goto l => exact hk.elim
  | panic ch => exact hk.elim
  | outgrown => exact hk.elim
end Go.Sx

namespace Go.Sx
theorem new_fold {K : MK} (b r bj : Nat) : Imp [.blk b (.cells #[.map (some r), .pointer (some ⟨bj, 0, none⟩), K.less] K.te (0, 0)), .blk r (.map #[] 0)] [mS K b bj []] := by
  refine Imp.trans ?_ (mS_shut (r := r) KOK.nil [])
  intro R w h
  have h1 := Imp.swap [_] [_] R w h
  exact Imp.swap [mo r []] [_] R w (mo_new R w h1)
theorem cells_sv (r : Row) : (sv r).cells = #[sv r] := by cases r <;> rfl
theorem one_sv (r : Row) : (sv r).oneCell' = true := by cases r <;> rfl
theorem heap_setCell_at (w : World) (b n : Nat) (cs : Array Value) (e : TypeId) (f : Nat × Nat) (v : Value) (h : w.heap[b]? = some (.cells cs e f)) : (w.setCell ⟨b, n, none⟩ v).heap[b]? = some (.cells (cs.setIfInBounds n v) e f) := by
  simp only [World.setCell]
  rw [heap_modify_same _ h]; simp
theorem xputv {P : Program} {b : Nat} {cs : Array Value} {ty te : TypeId} (hs : ∀ w, (sizeOf te).run P w = .ok 1 w) (n : Nat) (v : Value) (h1 : v.cells = #[v]) (h2 : v.oneCell' = true) (hn : n < cs.size) :
    OpT P (do Instr.storeAt te (.pointer (some ⟨b, n, none⟩)) v; pure .skip) [.blk b (.cells cs ty (0, 0))] Unit (fun _ => undef) (fun _ => [.blk b (.cells (cs.setIfInBounds n v) ty (0, 0))]) (fun _ => True) := by
  intro R w h
  have hb := h.block (i := 0) rfl
  have hc : w.cell? ⟨b, n, none⟩ = some cs[n] := by
    rw [cell_of_block hb rfl]; simp [hn]
  have hf : w.frozen? ⟨b, n, none⟩ = false := by
    rw [frozen_of_block hb]; simp [frozenAt, frz]
  have hst : (store ⟨b, n, none⟩ v).run P w = .ok () (w.setCell ⟨b, n, none⟩ v) := by rw [run_store P w _ v _ h2, hc]; simp [hf]
  have hh := heap_setCell_at w b n cs ty (0, 0) v hb
  refine ⟨(), w.setCell ⟨b, n, none⟩ v, trivial, .inr ⟨?_, rfl⟩, ?_, ?_⟩
  · simp [Instr.storeAt, Instr.sureAddr, storeVar, Sem.run_bind, hs, h1, storeCells, Addr.add, hst]
  · have := h.set (i := 0) (b := b) rfl hh (fun c hc => heap_setCell_other w _ c v hc)
    refine (congrArg (fun H => Own H R (w.setCell ⟨b, n, none⟩ v)) ?_).mp this
    funext i
    cases i <;> rfl
  · exact ⟨rfl, rfl, rfl, by simp, by first | exact Nat.le_refl _ | exact Nat.le_succ _ | simp⟩
theorem wgetk {P : Program} {K : MK} {t kt vt : TypeId} {z : Value} {V : Type} {vv : V → Value} {Ok : V → Prop} (L : KindL P K t kt vt z vv Ok) (h : True) : True := trivial
def default_ent : Ent := ⟨0, 0, undef, none, undef, 0, 0, 0, 0⟩
theorem mdel_none {m : KV} {k : Value} (h : mget m k = none) : mdel m k = m := by
  unfold mdel
  refine List.eraseP_of_forall_not fun x hx => ?_
  simpa using mget_none.1 h x hx
def F_newj (K : JK) : List Value → List Slot → Ctr := fun _ _ => ⟨Nat, ptr, fun b => [jS K b []], fun _ => True⟩
theorem xnewj {P : Program} {K : JK} {m : Sem Next} (h : symW P m [.nw 0] (ofList []) fun nx H _ => ∃ b, nx = .value (ptr b) ∧ H = upd (ofList []) 0 (.blk b (.cells #[.slice none 0 0] K.tj (0, 0)))) :
    OpT P m [] Nat ptr (fun b => [jS K b []]) (fun _ => True) := by
  intro R w ho
  obtain ⟨nx, w', H', acc', hrun, ⟨b, rfl, rfl⟩, ho', he⟩ := symW_sound _ _ _ _ R w h ho
  refine ⟨b, w', trivial, .inl hrun, jS_empty _ _ ?_, he⟩
  refine (congrArg (fun H => Own H R w') ?_).mp ho'
  funext i; cases i <;> rfl
/-! ### Arrays of words -/
def arrV (k : IntKind) (ns : List Int) : Array Value := (ns.map (Value.int k)).toArray
theorem arrV_size {k : IntKind} {ns : List Int} : (arrV k ns).size = ns.length := by simp [arrV]
theorem arrV_getD {k : IntKind} {ns : List Int} {i : Nat} (h : i < ns.length) : (arrV k ns).getD i undef = .int k (ns.getD i 0) := by
  simp [arrV, Array.getD_eq_getD_getElem?, h]
theorem arrV_ci {k : IntKind} {ns : List Int} {i : Nat} (h : i < ns.length) : ci ((arrV k ns).getD i undef) = ns.getD i 0 := by rw [arrV_getD h]; rfl
theorem arrV_get {k : IntKind} {ns : List Int} {i : Nat} (h : i < ns.length) : (arrV k ns)[i]? = some (.int k (ci ((arrV k ns).getD i undef))) := by
  rw [arrV_ci h]; simp [arrV, h]
theorem arrV_set {k : IntKind} {ns : List Int} {i : Nat} {v : Int} : (arrV k ns).setIfInBounds i (.int k v) = arrV k (ns.set i v) := by simp [arrV, List.map_set]
theorem xaidx {P : Program} {t e : TypeId} {n : Nat} (hu : P.underlying t = some (.array n e)) (hs : ∀ w, (sizeOf e).run P w = .ok 1 w) (b : Nat) (k : IntKind) (i : Int) (h0 : 0 ≤ i) (h1 : i < (n : Int)) :
    PureRun P (do pure (.value (← Instr.indexAt t (.pointer (some ⟨b, 0, none⟩)) (.int k i)))) (.pointer (some ⟨b, i.toNat, none⟩)) := by
  intro w
  have hc : 0 ≤ i ∧ i < (n : Int) := ⟨h0, h1⟩
  simp [Instr.indexAt, run_underlying hu, asIntOf, hc, hs w, Addr.add, Instr.sureAddr, Sem.run_bind]
  omega
theorem Imp.tail {a b : List Slot} (s : Slot) (h : Imp a b) : Imp (s :: a) (s :: b) := by
  intro R w ho
  have h1 := own_frame.1 (Imp.swap [s] a R w ho)
  exact Imp.swap b [s] R w (own_frame.2 (h _ w h1))
theorem Imp.head {a b : List Slot} (l : List Slot) (h : Imp a b) : Imp (a ++ l) (b ++ l) := fun R w ho => own_frame.2 (h _ w (own_frame.1 ho))
theorem kl_struct2 {P : Program} {kt : TypeId} {k0 k1 : IntKind} {f0 f1 : Field} (hu : P.underlying kt = some (.struct #[f0, f1])) (hp : P.stoodInHeld kt = false) (n0 : (f0.name == "_") = false) (n1 : (f1.name == "_") = false) (o0 : f0.offset = 0) (o1 : f1.offset = 1)
    (u0 : P.underlying f0.type = some (.int k0)) (u1 : P.underlying f1.type = some (.int k1)) (a0 : ∀ w, (isAgg f0.type).run P w = .ok false w) (a1 : ∀ w, (isAgg f1.type).run P w = .ok false w)
    (hc : ∀ b a c w, (Instr.checkKey b 10000 kt (.agg #[.int k0 a, .int k1 c])).run P w = .ok () w) : KL P kt (fun v => ∃ n0 n1 : Int, v = .agg #[.int k0 n0, .int k1 n1]) := by
  refine KL.of_asking hu ?_ ?_ ?_ ?_
  · rintro b _ w ⟨a, c, rfl⟩; exact hc b a c w
  · rintro _ _ ⟨a, c, rfl⟩ ⟨a', c', rfl⟩; rfl
  · rintro _ _ w ⟨a, c, rfl⟩ ⟨a', c', rfl⟩
    have hfs : P.fieldsOf kt = #[f0, f1] := by unfold Program.fieldsOf; rw [hu]
    have hu' : P.underlying kt = some (.struct (P.fieldsOf kt)) := by rw [hfs]; exact hu
    have h0 : f0.name ≠ "_" := by simpa using n0
    have h1 : f1.name ≠ "_" := by simpa using n1
    show (Op.equalIn (9999 + 1) kt _ _).run P w = _
    rw [run_equalIn_struct w 9999 kt _ _ hu' hp, hfs]
    have p0 : ∀ (x y : Value) (w : World), (part f0.type #[x, y] f0.offset).run P w = .ok x w := fun x y w => run_part1 w a0 (by rw [o0]; rfl)
    have p1 : ∀ (x y : Value) (w : World), (part f1.type #[x, y] f1.offset).run P w = .ok y w := fun x y w => run_part1 w a1 (by rw [o1]; rfl)
    have e0 : (Op.equalIn (9998 + 1) f0.type (.int k0 a) (.int k0 a')).run P w = .ok (a == a') w := run_equalIn_int w 9998 f0.type k0 k0 a a' u0
    have e1 : (Op.equalIn (9998 + 1) f1.type (.int k1 c) (.int k1 c')).run P w = .ok (c == c') w := run_equalIn_int w 9998 f1.type k1 k1 c c' u1
    simp only [Op.eqFields, h0, h1, ne_eq, not_false_eq_true, if_true, Sem.run_bind, p0, p1, Result.andThen_ok, e0, e1]
    by_cases ha : a = a'
    · by_cases hc : c = c'
      · simp [ha, hc, Op.eqFields, Sem.run_bind, p0, p1, h1]
        have e1' : (Op.equalIn (9998 + 1) f1.type (.int k1 c') (.int k1 c')).run P w = .ok true w := by
          have := run_equalIn_int (P := P) w 9998 f1.type k1 k1 c' c' u1
          simpa using this
        first | done | (rw [e1']; rfl) | simp [e1']
      · have hcc : (c == c') = false := by simpa using hc
        simp [ha, hc, Op.eqFields, Sem.run_bind, p0, p1, h1]
        have e1' : (Op.equalIn (9998 + 1) f1.type (.int k1 c) (.int k1 c')).run P w = .ok false w := by rw [e1, hcc]
        first | done | (rw [e1']; rfl) | simp [e1']
    · have haa : (a == a') = false := by simpa using ha
      simp [ha]
  · rintro _ ⟨a, c, rfl⟩
    show Instr.sameBits (9999 + 1) _ _ = true
    simp [Instr.sameBits]
end Go.Sx

namespace Go.Sx
open Go.RowKit
/-- What was handed out so far: the entries l, all of the map, each once. -/
def SeenIs (es : Array MapEntry) (seen : Array Nat) (ks : List Value) : Prop := ∃ l : List MapEntry, (∀ e ∈ l, e ∈ es.toList) ∧ (l.map (·.born)).Nodup ∧ seen.toList = l.map (·.born) ∧ ks = l.map (·.key)
def mitF (r it : Nat) (m : KV) (ks : List Value) : Array MapEntry × Nat × Array Nat → List Slot := fun x =>
  [.blk r (.map x.1 x.2.1), .blk it (.mapIter (some r) x.2.1 x.2.2 x.2.1)] ++ [pur (kvs x.1 = m ∧ Born x.1 x.2.1 ∧ SeenIs x.1 x.2.2 ks)]
/-- The map at r holds m, and an iterator over it at 'it' has told the keys ks. -/
def mit (r it : Nat) (m : KV) (ks : List Value) : Slot := bun [r, it] (.vals ks) (mitF r it m ks)
theorem mit_shut {r it : Nat} {m : KV} {ks : List Value} {es : Array MapEntry} {clock : Nat} {seen : Array Nat} (h : kvs es = m ∧ Born es clock ∧ SeenIs es seen ks) (l : List Slot) :
    Imp (.blk r (.map es clock) :: .blk it (.mapIter (some r) clock seen clock) :: l) (mit r it m ks :: l) := by
  refine Imp.trans (.same fun p hp => ?_) (bun_shut (F := mitF r it m ks) (es, clock, seen) l)
  have h2 : SepL ([.blk r (.map es clock), .blk it (.mapIter (some r) clock seen clock)] ++ l) p := hp
  obtain ⟨p1, p2, ha, hb, d, rfl⟩ := (sep_append _ _).1 h2
  exact (sep_append _ _).2 ⟨p1, p2, sep_pur.2 ⟨ha, h⟩, hb, d, rfl⟩
theorem mit_open {r it : Nat} {m : KV} {ks : List Value} {l : List Slot} {R : HP} {w : World} (h : Own (ofList (mit r it m ks :: l)) R w) :
    ∃ es clock seen, (kvs es = m ∧ Born es clock ∧ SeenIs es seen ks) ∧ Own (ofList (.blk r (.map es clock) :: .blk it (.mapIter (some r) clock seen clock) :: l)) R w := by
  obtain ⟨⟨es, clock, seen⟩, hr⟩ := bun_open h
  obtain ⟨p, q, hp, hq, hw, hqw, d⟩ := own_sep.1 hr
  obtain ⟨p1, p2, ha, hb, d2, rfl⟩ := (sep_append _ _).1 hp
  obtain ⟨ha', hk⟩ := sep_pur.1 ha
  exact ⟨es, clock, seen, hk, own_sep.2 ⟨_, q, (sep_append [_, _] l).2 ⟨p1, p2, ha', hb, d2, rfl⟩, hq, hw, hqw, d⟩⟩
noncomputable def nxv (m : KV) : Option Value → Value
  | none => .tuple #[.bool false]
  | some k => .tuple #[.bool true, k, (mget m k).getD undef]
def mitE (r it : Nat) (m : KV) (ks : List Value) : Option Value → Slot
  | none => mo r m
  | some k => mit r it m (ks ++ [k])
def nxP (m : KV) (ks : List Value) : Option Value → Prop
  | none => ks.Perm (m.map (·.1))
  | some k => k ∉ ks ∧ k ∈ m.map (·.1)
theorem xrange {P : Program} {t kt vt : TypeId} (hu : P.underlying t = some (.map kt vt)) {r : Nat} {m : KV} :
    OpT P (do pure (.value (← Instr.range t (.map (some r))))) [mo r m] Nat (fun it => .pointer (some ⟨it, 0, none⟩)) (fun it => [mit r it m []]) (fun _ => True) := by
  intro R w ho
  obtain ⟨es, clock, ⟨e, hbn⟩, ho'⟩ := mo_open ho
  have hb := ho'.block (i := 0) rfl
  refine ⟨w.heap.size, w.alloc (.mapIter (some r) clock #[] clock), trivial, .inl ?_, mit_shut (seen := #[]) ⟨e, hbn, [], by simp, by simp, by simp, rfl⟩ [] _ _ ?_, ⟨rfl, rfl, rfl, by simp, Nat.le_refl _⟩⟩
  · rw [Sem.run_bind, run_range_map w t kt vt r es clock hu hb]; rfl
  · have := ho'.new (w' := w.alloc (.mapIter (some r) clock #[] clock)) (i := 1) (heap_alloc_new w _) (fun c hc => by show (w.heap.push _)[c]? = _; rw [Array.getElem?_push_lt hc, Array.getElem?_eq_getElem hc])
    refine (congrArg (fun H => Own H R (w.alloc (.mapIter (some r) clock #[] clock))) ?_).mp this
    funext j
    cases j with
    | zero => rfl
    | succ j => cases j <;> rfl
theorem inj_of_nodup {α β : Type} {f : α → β} : ∀ {l : List α}, (l.map f).Nodup → ∀ {a b : α}, a ∈ l → b ∈ l → f a = f b → a = b
  | [], _, _, _, h, _, _ => by cases h
  | x :: l, h, a, b, ha, hb, e => by
    rw [List.map_cons, List.nodup_cons] at h
    rcases List.mem_cons.1 ha with h1 | h1 <;> rcases List.mem_cons.1 hb with h2 | h2
    · rw [h1, h2]
    · rw [h1] at e; exact absurd (List.mem_map.2 ⟨b, h2, e.symm⟩) h.1
    · rw [h2] at e; exact absurd (List.mem_map.2 ⟨a, h1, e⟩) h.1
    · exact inj_of_nodup h.2 h1 h2 e
theorem born_key {es : Array MapEntry} (h : (es.toList.map (·.born)).Nodup) {a b : MapEntry} (ha : a ∈ es.toList) (hb : b ∈ es.toList) (e : a.born = b.born) : a = b := inj_of_nodup h ha hb e
theorem nodup_of_map {α β : Type} {f : α → β} : ∀ {l : List α}, (l.map f).Nodup → l.Nodup
  | [], _ => List.nodup_nil
  | x :: l, h => by
    simp only [List.map_cons, List.nodup_cons] at h ⊢
    exact ⟨fun hx => h.1 (List.mem_map.2 ⟨x, hx, rfl⟩), nodup_of_map h.2⟩
theorem mget_entry {es : Array MapEntry} {m : KV} (e : kvs es = m) (hm : MOK m) {x : MapEntry} (hx : x ∈ es.toList) : mget m x.key = some x.val := by
  have hmem : (x.key, x.val) ∈ m := by rw [← e]; exact List.mem_map.2 ⟨x, hx, rfl⟩
  unfold mget
  cases hf : m.find? fun e => decide (e.1 = x.key) with
  | none =>
    have := List.find?_eq_none.1 hf _ hmem
    simp at this
  | some y =>
    have h1 := List.find?_some hf
    have h2 := List.mem_of_find?_eq_some hf
    simp at h1
    have : y = (x.key, x.val) := inj_of_nodup hm h2 hmem h1
    rw [this]; rfl
theorem xnext {P : Program} (ty : TypeId) {r it : Nat} {m : KV} {ks : List Value} (hm : MOK m) :
    OpT P (do pure (.value (← Instr.next (.pointer (some ⟨it, 0, none⟩)) false ty))) [mit r it m ks] (Option Value) (nxv m) (fun x => [mitE r it m ks x]) (nxP m ks) := by
  intro R w ho
  obtain ⟨es, clock, seen, ⟨e, hbn, l, hl1, hl2, hl3, hl4⟩, ho'⟩ := mit_open ho
  have hb := ho'.block (i := 0) rfl
  have hi := ho'.block (i := 1) rfl
  rcases run_next_at (P := P) w ty it r clock clock seen es clock hi hb hbn.2 (Nat.le_refl _) with ⟨h0, hr⟩ | ⟨x, hx, w1, hw1, hr⟩
  · refine ⟨none, w, ?_, .inl (by rw [Sem.run_bind, hr]; rfl), ?_, Ext.refl w⟩
    · have hnd := nodup_of_map hbn.1
      have hnl := nodup_of_map hl2
      have hsub : ∀ x ∈ es.toList, x ∈ l := by
        intro x hx
        have hc : seen.contains x.born = true := by
          by_cases hc : seen.contains x.born = true
          · exact hc
          · have : x ∈ leftOf es seen := by
              unfold leftOf
              rw [Array.mem_filter]
              exact ⟨by simpa using hx, by simp at hc; simp [hc]⟩
            have : 0 < (leftOf es seen).size := Array.size_pos_of_mem this
            omega
        have hb2 : x.born ∈ seen.toList := by simpa using hc
        rw [hl3] at hb2
        obtain ⟨y, hy, hyb⟩ := List.mem_map.1 hb2
        rw [born_key hbn.1 hx (hl1 y hy) hyb.symm]; exact hy
      have hp : l.Perm es.toList := (List.perm_ext_iff_of_nodup hnl hnd).2 fun a => ⟨hl1 a, hsub a⟩
      show ks.Perm (m.map (·.1))
      rw [hl4, ← e]
      unfold kvs
      rw [List.map_map]
      exact hp.map _
    · have h1 : Own (ofList ([.blk r (.map es clock)] ++ [.blk it (.mapIter (some r) clock seen clock)])) R w := ho'
      exact mo_shut (l := []) e hbn (Imp.drop [_] [_] R w h1)
  · have hxe : x ∈ es.toList ∧ x.born ∉ seen.toList := by
      unfold leftOf at hx
      have : x ∈ Array.filter (fun e => !seen.contains e.born) es := by simpa using hx
      rw [Array.mem_filter] at this
      refine ⟨by simpa using this.1, ?_⟩
      have h2 := this.2
      simp at h2
      simpa using h2
    have hnb : x.born ∉ l.map (·.born) := by rw [← hl3]; exact hxe.2
    have hkn : x.key ∉ ks := by
      rw [hl4]
      intro hk
      obtain ⟨y, hy, hyk⟩ := List.mem_map.1 hk
      have h1 := mget_entry e hm hxe.1
      -- two entries with one key are one
      have h2 : (y.key, y.val) ∈ m := by rw [← e]; exact List.mem_map.2 ⟨y, hl1 y hy, rfl⟩
      have h3 : (x.key, x.val) ∈ m := by rw [← e]; exact List.mem_map.2 ⟨x, hxe.1, rfl⟩
      have hmm : (es.toList.map (·.key)).Nodup := by
        have := hm
        unfold MOK at this
        rw [← e] at this
        unfold kvs at this
        rw [List.map_map] at this
        exact this
      have : y = x := inj_of_nodup hmm (hl1 y hy) hxe.1 hyk
      subst this
      exact hnb (List.mem_map.2 ⟨y, hy, rfl⟩)
    have hkm : x.key ∈ m.map (·.1) := by
      rw [← e]; exact List.mem_map.2 ⟨(x.key, x.val), List.mem_map.2 ⟨x, hxe.1, rfl⟩, rfl⟩
    have hv : (mget m x.key).getD undef = x.val := by rw [mget_entry e hm hxe.1]; rfl
    have o1 : Own (ofList [.blk r (.map es clock), .blk it (.mapIter (some r) clock seen clock)]) R w1 := by
      rcases hw1 with rfl | rfl
      · exact ho'
      · exact ho'
    have hi1 : w1.heap[it]? = some (.mapIter (some r) clock seen clock) := by rcases hw1 with rfl | rfl <;> exact hi
    have hlt : it < w1.heap.size := (Array.getElem?_eq_some_iff.1 hi1).1
    have o2 := o1.set (i := 1) (b := it) (w' := Go.ChangeMaps.setBlock w1 it (.mapIter (some r) clock (seen.push x.born) clock)) (o' := .mapIter (some r) clock (seen.push x.born) clock) rfl
      (by simp [Go.ChangeMaps.setBlock, hlt]) (fun c hc => by simp [Go.ChangeMaps.setBlock, Ne.symm hc])
    refine ⟨some x.key, _, ⟨hkn, hkm⟩, .inl (by rw [Sem.run_bind, hr]; show Result.ok (Next.value (.tuple #[.bool true, x.key, x.val])) _ = Result.ok (Next.value (.tuple #[.bool true, x.key, (mget m x.key).getD undef])) _; rw [hv]), ?_, ?_⟩
    · refine mit_shut (es := es) (clock := clock) (seen := seen.push x.born) ⟨e, hbn, l ++ [x], ?_, ?_, ?_, ?_⟩ [] _ _ ?_
      · intro y hy
        rcases List.mem_append.1 hy with hy | hy
        · exact hl1 y hy
        · simp at hy; subst hy; exact hxe.1
      · rw [List.map_append, List.nodup_append]
        exact ⟨hl2, by simp, fun a ha b hb => by simp at hb; subst hb; exact fun h => hnb (h ▸ ha)⟩
      · simp [hl3]
      · rw [hl4]; simp
      · refine (congrArg (fun H => Own H R _) ?_).mp o2
        funext j
        cases j with
        | zero => rfl
        | succ j => cases j <;> rfl
    · have e1 : Ext w w1 := by
        rcases hw1 with rfl | rfl
        · exact Ext.refl _
        · exact ⟨rfl, rfl, rfl, Nat.le_refl _, Nat.le_succ _⟩
      exact e1.trans ⟨rfl, rfl, rfl, by simp [Go.ChangeMaps.setBlock], Nat.le_refl _⟩
theorem xentry {P : Program} {r it : Nat} {m : KV} {ks : List Value} (hm : MOK m) {x : Option Value} (hx : x.isSome = true) :
    OpT P (do pure (.value (← Instr.entry (.pointer (some ⟨it, 0, none⟩))))) [mitE r it m ks x] Unit (fun _ => .tuple #[x.getD undef, (mget m (x.getD undef)).getD undef]) (fun _ => [mitE r it m ks x]) (fun _ => True) := by
  cases x with
  | none => cases hx
  | some k =>
    intro R w ho
    have ho0 : Own (ofList [mit r it m (ks ++ [k])]) R w := ho
    obtain ⟨es, clock, seen, ⟨e, hbn, l, hl1, hl2, hl3, hl4⟩, ho'⟩ := mit_open ho0
    have hb := ho'.block (i := 0) rfl
    have hi := ho'.block (i := 1) rfl
    obtain ⟨l', x, rfl, hx1, hx2⟩ : ∃ l' x, l = l' ++ [x] ∧ ks = l'.map (·.key) ∧ x.key = k := by
      rcases List.eq_nil_or_concat l with rfl | ⟨l', x, rfl⟩
      · simp at hl4
      · refine ⟨l', x, by simp, ?_⟩
        simp only [List.concat_eq_append, List.map_append, List.map_cons, List.map_nil] at hl4
        have := List.append_inj hl4.symm (by have := congrArg List.length hl4; simp at this ⊢; omega)
        exact ⟨this.1.symm, by simpa using this.2⟩
    have hs : seen = ((l'.map (·.born)).toArray).push x.born := by
      apply Array.toList_inj.1
      rw [hl3]; simp
    have hxe : x ∈ es.toList := hl1 x (by simp)
    refine ⟨(), w, trivial, .inl ?_, ho, Ext.refl w⟩
    rw [hs] at hi
    have hr := run_entry_at (P := P) w it r clock _ es clock x hi hb hxe hbn.1
    rw [Sem.run_bind, hr]
    have hv : (mget m k).getD undef = x.val := by rw [← hx2, mget_entry e hm hxe]; rfl
    simp [Result.andThen, hx2, hv]
theorem xfirst {P : Program} (m : KV) (x : Option Value) : PureRun P (do pure (.value (← Instr.extract (nxv m x) 0))) (.bool x.isSome) := by
  intro w
  cases x with
  | none => show (Sem.run P (do pure (Next.value (← Instr.extract (.tuple #[.bool false]) 0))) w) = _; simp [Instr.extract]
  | some k => show (Sem.run P (do pure (Next.value (← Instr.extract (.tuple #[.bool true, k, (mget m k).getD undef]) 0))) w) = _; simp [Instr.extract]
theorem mitE_none {r it : Nat} {m : KV} {ks : List Value} {x : Option Value} (h : x.isSome = false) : mitE r it m ks x = mo r m := by
  cases x with
  | none => rfl
  | some k => cases h
theorem mitE_some {r it : Nat} {m : KV} {ks : List Value} {x : Option Value} (h : x.isSome = true) : mitE r it m ks x = mit r it m (ks ++ [x.getD undef]) := by
  cases x with
  | none => cases h
  | some k => rfl
theorem nxP_none {m : KV} {ks : List Value} {x : Option Value} (h : nxP m ks x) (hx : x.isSome = false) : ks.Perm (m.map (·.1)) := by
  cases x with
  | none => exact h
  | some k => cases hx
theorem nxP_some {m : KV} {ks : List Value} {x : Option Value} (h : nxP m ks x) (hx : x.isSome = true) : x.getD undef ∉ ks ∧ x.getD undef ∈ m.map (·.1) := by
  cases x with
  | none => cases hx
  | some k => exact h
end Go.Sx

namespace Go.Sx
open Go.RowKit
theorem own_put {H : Hp} {R : HP} {w : World} {i b : Nat} {o o' : Obj} (h : Own H R w) (hi : H i = .blk b o) : Own (upd H i (.blk b o')) R (w.putObj b o') := by
  have hb := h.block hi
  exact h.set hi (World.putObj_heap_same (Array.getElem?_eq_some_iff.1 hb).1) (fun c hc => World.putObj_heap_other hc)
theorem ext_put (w : World) (b : Nat) (o : Obj) : Ext w (w.putObj b o) := ⟨rfl, rfl, rfl, by simp [World.putObj], by first | exact Nat.le_refl _ | exact Nat.le_succ _ | simp⟩
theorem own_alloc {H : Hp} {R : HP} {w : World} (h : Own H R w) (i : Nat) (o : Obj) : Own (upd H i (.blk w.heap.size o)) R (w.alloc o) :=
  h.new (World.alloc_heap_new w o) (fun c hc => Below.heap_alloc w o c hc)
theorem ext_alloc (w : World) (o : Obj) : Ext w (w.alloc o) := ⟨rfl, rfl, rfl, by simp, by first | exact Nat.le_refl _ | exact Nat.le_succ _ | simp⟩
/-! ### The function's end, with a mark among its deferred calls -/
def finM (P : Program) (fn : Func) (acc : List Acc) (outs : List Nat) (iD : Nat) {X : Type} (val : X → Value) (us : X → List Slot) (Φ : X → Prop) (e : Exit) (s : St) (_ : Script) : Prop :=
  match e with
  | .normal | .ret =>
    match s.df with
    | [] => finR P fn acc outs val us Φ s.fr s.H
    | [d] =>
      match d.target with
      | .collected D => s.H iD = .blk D (.deferred (some [])) ∧ finR P fn acc outs val us Φ s.fr (upd s.H iD (.blk D (.deferred none)))
      | _ => False
    | _ => False
  | _ => False
theorem call_of_mark {P : Program} {f : FuncId} {fn : Func} {c : Code} {n : Nat} {args : Array Value} {Hs : List Slot} {X : Type} {val : X → Value} {us : X → List Slot} {Φ : X → Prop}
    (hP : P.follows .mixedOrders = true) (hf : P.funcs[f]? = some fn) (hb : fn.body = some c) (hn : fn.ntmps = n) (hname : (fn.name == "runtime.NumGoroutine") = false)
    (fuel : Nat) (k : Script) (acc : List Acc) (outs : List Nat) (iD : Nat) (hsz : Nat.ble args.size n = true) (ho : nodB outs = true)
    (h : codeW P n none fuel none c k (init args Hs) (finM P fn acc outs iD val us Φ)) : CallT P f args Hs X val us Φ := by
  refine ⟨enterOK hf hb hname, fun R w hw => ?_⟩
  subst hn
  have go : CallsIn Fence.wide 0 P f args w fun e w' => ∃ x, Φ x ∧ e = .returned (val x) ∧ Own (ofList (us x)) R w' ∧ Ext w w' := ?_
  · exact callsIn_wide.1 go
  refine callsIn_of_wp_marks hf hb trivial ?_
  have hc := (code_sound hP fuel).1 c k (init args Hs) _ R _ w h (init_rel (Nat.le_of_ble_eq_true hsz)) hw
  refine wpIn_mono hc ?_
  have done : ∀ (a' : Act) (w' : World) (fr : Nat → Value) (H : Hp) (df : List Deferred), Rel fn.ntmps ⟨fr, H, df⟩ a' → Own H R w' → Ext w w' → finR P fn acc outs val us Φ fr H →
      ∃ v, (results fn a'.tmps).run P w' = .ok v w' ∧ ∃ x, Φ x ∧ Ending.returned v = .returned (val x) ∧ Own (ofList (us x)) R w' ∧ Ext w w' := by
    intro a' w' fr H df hr ho' he hs
    obtain ⟨v, hrun, x, hx, rfl, hout⟩ := symR_sound _ acc H _ R w' hs ho'
    obtain ⟨_, hk⟩ := outW_use hout
    exact ⟨val x, by rw [resF_eq hr]; exact hrun, x, hx, rfl, (own_sub (nodB_iff.1 ho) ho').weaken fun k => (hk k).symm, he⟩
  have fin : ∀ (a' : Act) (w' : World) (s' : St) (k' : Script), Rel fn.ntmps s' a' → Own s'.H R w' → Ext w w' → finM P fn acc outs iD val us Φ .ret s' k' →
      LeavesInM Fence.wide 0 P fn a'.tmps (fun e w' => ∃ x, Φ x ∧ e = .returned (val x) ∧ Own (ofList (us x)) R w' ∧ Ext w w') a'.defers .returning w' := by
    intro a' w' s' k' hr ho' he hs
    rw [hr.df]
    unfold finM at hs
    cases hdf : s'.df with
    | nil =>
      rw [hdf] at hs
      exact done a' w' s'.fr s'.H s'.df hr ho' he hs
    | cons d l =>
      rw [hdf] at hs
      cases l with
      | cons _ _ => exact hs.elim
      | nil =>
        obtain ⟨tg, dargs⟩ := d
        cases tg with
        | collected D =>
          obtain ⟨hD, hs⟩ := hs
          refine ⟨by simp, .inl ⟨D, _, rfl, run_takeDeferred (ho'.block hD), ?_⟩⟩
          exact done a' _ s'.fr (upd s'.H iD (.blk D (.deferred none))) s'.df ⟨hr.size, hr.at_, hr.df⟩ (own_put ho' hD) (he.trans (ext_put _ _ _)) hs
        | _ => exact hs.elim
  rintro e a' w' ⟨s', ⟨k', hk⟩, hr, ho', he⟩
  cases e with
  | normal => exact fin a' w' s' k' hr ho' he hk
  | ret => exact fin a' w' s' k' hr ho' he hk
  | exit id => exact hk.elim
  | goto l => exact hk.elim
  | panic ch => exact hk.elim
  | outgrown => exact hk.elim
/-- The ranges over functions in a text. -/
def rfs : Code → List (Code × Code)
  | .seq a b => rfs a ++ rfs b
  | .cond _ a b => rfs a ++ rfs b
  | .block _ c => rfs c
  | .loop c => rfs c
  | .scope c => rfs c
  | .rangeFunc _ _ a b => [(a, b)]
  | _ => []
/-! ### A round -/
abbrev recOf (fn : FuncId) (tmps : Array Value) (ps : Array Tmp) (as b : Code) (D : Nat) : Loop := { state := .ready, pending := none, fn, tmps, params := ps, assign := as, body := b, defers := D }
abbrev loopB (l : Nat) (r : Loop) : Slot := .blk l (.loop r)
def putFr (fr : Nat → Value) : List (Tmp × Value) → Nat → Value
  | [] => fr
  | (t, v) :: l => putFr (upd fr t v) l
theorem foldl_put {n : Nat} : ∀ (l : List (Tmp × Value)) (tmps : Array Value) (fr : Nat → Value), tmps.size = n → (∀ i, tmps.getD i undef = fr i) → (∀ x ∈ l, x.1 < n) →
    (l.foldl (fun t (p, v) => t.setIfInBounds p v) tmps).size = n ∧ ∀ i, (l.foldl (fun t (p, v) => t.setIfInBounds p v) tmps).getD i undef = putFr fr l i
  | [], tmps, fr, hz, hf, _ => ⟨hz, hf⟩
  | (t, v) :: l, tmps, fr, hz, hf, hl => by
    refine foldl_put l (tmps.setIfInBounds t v) (upd fr t v) (by simp [hz]) (fun i => ?_) (fun x hx => hl x (List.mem_cons_of_mem _ hx))
    have ht : t < n := hl (t, v) (List.mem_cons_self ..)
    by_cases e : i = t
    · subst e; rw [upd_same]; simp [Array.getD_eq_getD_getElem?, hz, ht]
    · rw [upd_other _ _ e, ← hf i]; simp [Array.getD_eq_getD_getElem?, Ne.symm e]
def roundW (P : Program) (n : Nat) (l : Nat) (fuel : Nat) (as b : Code) (k : Script) (r : Loop) (s : St) (outs : List Nat) {X : Type} (us : X → List Slot) (Φ : X → Prop) : Prop :=
  codeW P n (some l) fuel none as k s fun e s1 k1 =>
    match e with
    | .normal => s1.H 0 = loopB l r ∧ codeW P n (some l) fuel none b k1 ⟨s1.fr, upd s1.H 0 (loopB l { r with state := .busy }), s1.df⟩ fun e s2 _ =>
        match e with
        | .normal => s2.H 0 = loopB l { r with state := .busy } ∧ ∃ x, Φ x ∧ outW outs (us x) s2.H True
        | _ => False
    | _ => False
theorem round_of {P : Program} {n l D fuel : Nat} {fn : FuncId} {tmps : Array Value} {ps : Array Tmp} {as b : Code} {args : Array Value} {Hs : List Slot} {X : Type} {us : X → List Slot} {Φ : X → Prop} {fr : Nat → Value}
    (hP : P.follows .mixedOrders = true) (hz : tmps.size = n) (hf : ∀ i, tmps.getD i undef = fr i) (hps : ps.size = args.size) (hpn : ps.toList.all (fun t => Nat.blt t n) = true) (k : Script) (outs : List Nat) (ho : nodB (0 :: outs) = true)
    (h : roundW P n l fuel as b k (recOf fn tmps ps as b D) ⟨putFr fr (ps.toList.zip args.toList), ofList (loopB l (recOf fn tmps ps as b D) :: Hs), []⟩ outs us Φ) :
    RoundT P l args (loopB l (recOf fn tmps ps as b D) :: Hs) X (fun _ => .bool true) (fun x => loopB l (recOf fn tmps ps as b D) :: us x) Φ := by
  intro R w hw
  have hl : w.heap[l]? = some (.loop (recOf fn tmps ps as b D)) := hw.block (i := 0) rfl
  refine ⟨fn, _, as, b, run_yield hl hps.symm, roundIn_of_wpIn (F := Fence.wide) (n := 0) trivial ?_⟩
  have hfold : ((recOf fn tmps ps as b D).params.zip args).foldl (fun t (p, v) => t.setIfInBounds p v) tmps = (ps.toList.zip args.toList).foldl (fun t (p, v) => t.setIfInBounds p v) tmps := by
    rw [← Array.foldl_toList, Array.toList_zip]
  obtain ⟨h1, h2⟩ := foldl_put (ps.toList.zip args.toList) tmps fr hz hf (fun x hx => by
    have := List.all_eq_true.1 hpn x.1 (List.of_mem_zip hx).1
    simpa [Nat.blt_eq] using this)
  have hc := (code_sound hP fuel (r := some l)).1 as k _ _ R { tmps := _, defers := [] } w h ⟨h1, h2, rfl⟩ hw
  rw [hfold]
  refine wpIn_mono hc ?_
  rintro e a1 w1 ⟨s1, ⟨k1, hk⟩, hr1, ho1, he1⟩
  cases e with
  | normal =>
    obtain ⟨hl1, hk⟩ := hk
    have hb1 := ho1.block hl1
    refine ⟨_, run_beginRound hb1 rfl, ?_⟩
    have hc2 := (code_sound hP fuel (r := some l)).1 b k1 _ _ R a1 _ hk ⟨hr1.size, hr1.at_, hr1.df⟩ (own_put ho1 hl1)
    refine wpIn_mono hc2 ?_
    rintro e a2 w2 ⟨s2, ⟨k2, hk2⟩, hr2, ho2, he2⟩
    cases e with
    | normal =>
      obtain ⟨hl2, x, hx, hout⟩ := hk2
      have hb2 := ho2.block hl2
      refine ⟨_, _, run_endRound none hb2, x, hx, rfl, ?_, ((he1.trans (ext_put _ _ _)).trans he2).trans (ext_put _ _ _)⟩
      have ho3 := own_put (o' := .loop (recOf fn tmps ps as b D)) ho2 hl2
      have hq : outW (0 :: outs) (loopB l (recOf fn tmps ps as b D) :: us x) (upd s2.H 0 (loopB l (recOf fn tmps ps as b D))) True := by
        refine ⟨rfl, ?_⟩
        have h0 : 0 ∉ outs := by
          have := (nodB_iff.1 ho)
          exact (List.nodup_cons.1 this).1
        clear ho
        have step : ∀ (outs : List Nat) (ss : List Slot), 0 ∉ outs → outW outs ss s2.H True → outW outs ss (upd s2.H 0 (loopB l (recOf fn tmps ps as b D))) True := by
          intro outs ss
          induction ss generalizing outs with
          | nil => intro _ _; unfold outW; trivial
          | cons s ss ih =>
            intro h0 h
            cases outs with
            | nil => exact h.elim
            | cons i outs =>
              obtain ⟨ha, hb⟩ := h
              exact ⟨(upd_other _ _ (fun e => h0 (by subst e; exact List.mem_cons_self ..))).trans ha, ih outs (fun hm => h0 (List.mem_cons_of_mem _ hm)) hb⟩
        exact step outs _ h0 hout
      obtain ⟨_, hk⟩ := outW_use hq
      exact (own_sub (nodB_iff.1 ho) ho3).weaken fun k => (hk k).symm
    | _ => exact hk2.elim
  | _ => exact hk.elim
/-! ### The statement -/
theorem range_of {P : Program} {n : Nat} {g : Operand} {ps : Array Tmp} {as b : Code} {fr : Nat → Value} {Hs : List Slot} {X : Type} {val : X → Value} {us : X → List Slot} {Φ : X → Prop} {gf : FuncId} {cap : Array Value}
    (hg : evalF fr g = .func (.func gf) #[] cap)
    (h : ∀ (l D : Nat) (fn : FuncId) (tmps : Array Value), tmps.size = n → (∀ i, tmps.getD i undef = fr i) →
      CallT P gf (#[.func (.yield l) #[] #[]] ++ cap) (loopB l (recOf fn tmps ps as b D) :: Hs) X val (fun x => loopB l (recOf fn tmps ps as b D) :: us x) Φ) :
    RangeT P n g ps as b fr Hs X us Φ := by
  intro R w act hz hf hw
  refine wpIn_rangeFunc ?_
  intro fn _
  have hc := (h (w.heap.size + 1) w.heap.size fn act.tmps hz hf).frame [.blk w.heap.size (.deferred (some []))]
  have hev : act.eval g = .func (.func gf) #[] cap := by
    rw [← hg]
    cases g with
    | tmp t => exact hf t
    | _ => rfl
  obtain ⟨W1, hW1⟩ : ∃ W1, W1 = (w.alloc (.deferred (some []))).alloc (.loop (recOf fn act.tmps ps as b w.heap.size)) := ⟨_, rfl⟩
  refine ⟨w.heap.size + 1, [markOf w.heap.size], W1, { target := .fn (.func gf) cap, args := #[.func (.yield (w.heap.size + 1)) #[] #[]] }, W1, gf, #[.func (.yield (w.heap.size + 1)) #[] #[]] ++ cap, W1, by rw [hW1]; exact run_enterLoop_outer _ _ _ _ _, ?_, fun _ _ => trivial, ?_, fun h => by simp [FrR] at h, ?_⟩
  · simp only [resolve, hev]
    simp [go_sem]
  · simp only [invoke]
    exact hc.enter _ _
  · subst hW1
    have o1 : Own (ofList Hs) R w := hw
    have o2 : Own (ofList (.blk w.heap.size (.deferred (some [])) :: Hs)) R (w.alloc (.deferred (some []))) := by
      have := own_alloc (H := fun i => match i with | 0 => .free | i + 1 => ofList Hs i) (R := R) (w := w) (by
        obtain ⟨p, q, hs, hq, hp, hqw, hd, hdq⟩ := o1
        refine ⟨fun i => match i with | 0 => fun _ => none | i + 1 => p i, q, fun i => ?_, hq, fun i => ?_, hqw, fun i j hij => ?_, fun i => ?_⟩
        · cases i with
          | zero => exact fun _ => rfl
          | succ i => exact hs i
        · cases i with
          | zero => intro b o h; cases h
          | succ i => exact hp i
        · cases i with
          | zero => exact fun _ => .inl rfl
          | succ i =>
            cases j with
            | zero => exact fun _ => .inr rfl
            | succ j => exact hd i j (fun e => hij (by rw [e]))
        · cases i with
          | zero => exact fun _ => .inl rfl
          | succ i => exact hdq i) 0 (.deferred (some []))
      refine this.weaken fun k => ?_
      cases k with
      | zero => exact .inl rfl
      | succ k => exact .inl rfl
    have o3 : Own (ofList (.blk (w.heap.size + 1) (.loop (recOf fn act.tmps ps as b w.heap.size)) :: .blk w.heap.size (.deferred (some [])) :: Hs)) R ((w.alloc (.deferred (some []))).alloc (.loop (recOf fn act.tmps ps as b w.heap.size))) := by
      have o2' : Own (ofList (.free :: .blk w.heap.size (.deferred (some [])) :: Hs)) R (w.alloc (.deferred (some []))) := by
        obtain ⟨p, q, hs, hq, hp, hqw, hd, hdq⟩ := o2
        refine ⟨fun i => match i with | 0 => fun _ => none | i + 1 => p i, q, fun i => ?_, hq, fun i => ?_, hqw, fun i j hij => ?_, fun i => ?_⟩
        · cases i with
          | zero => exact fun _ => rfl
          | succ i => exact hs i
        · cases i with
          | zero => intro b o h; cases h
          | succ i => exact hp i
        · cases i with
          | zero => exact fun _ => .inl rfl
          | succ i =>
            cases j with
            | zero => exact fun _ => .inr rfl
            | succ j => exact hd i j (fun e => hij (by rw [e]))
        · cases i with
          | zero => exact fun _ => .inl rfl
          | succ i => exact hdq i
      have := own_alloc o2' 0 (.loop (recOf fn act.tmps ps as b w.heap.size))
      rw [World.size_alloc] at this
      refine this.weaken fun k => ?_
      cases k with
      | zero => exact .inl rfl
      | succ k => exact .inl rfl
    have o4 := Imp.swap (.blk (w.heap.size + 1) (.loop (recOf fn act.tmps ps as b w.heap.size)) :: []) (.blk w.heap.size (.deferred (some [])) :: Hs) R _ o3
    have o5 := Imp.swap [.blk w.heap.size (.deferred (some []))] (Hs ++ [.blk (w.heap.size + 1) (.loop (recOf fn act.tmps ps as b w.heap.size))]) R _ o4
    have o6 : Own (ofList ((loopB (w.heap.size + 1) (recOf fn act.tmps ps as b w.heap.size) :: Hs) ++ [.blk w.heap.size (.deferred (some []))])) R ((w.alloc (.deferred (some []))).alloc (.loop (recOf fn act.tmps ps as b w.heap.size))) := by
      refine (Imp.same fun p hp => ?_) R _ o5
      obtain ⟨p1, p2, ha, hb, d, rfl⟩ := (sep_append _ _).1 hp
      exact (sep_append _ _).2 ⟨p1, p2, sep_swap ha, hb, d, rfl⟩
    have hcalls : CallsIn (FrR none) 0 P gf (#[.func (.yield (w.heap.size + 1)) #[] #[]] ++ cap) ((w.alloc (.deferred (some []))).alloc (.loop (recOf fn act.tmps ps as b w.heap.size))) _ := callsIn_of_calls (hc.calls R _ o6)
    refine hcalls.mono ?_
    rintro e w3 ⟨x, hx, rfl, ho3, he3⟩
    have hb3 := ho3.block (i := 0) rfl
    refine ⟨none, _, run_endLoop hb3 (by simp), rfl, rfl, w.heap.size, x, rfl, hx, ?_, (((ext_alloc _ _).trans (ext_alloc _ _)).trans he3).trans (ext_put _ _ _)⟩
    have o7 := own_put (o' := .loop { recOf fn act.tmps ps as b w.heap.size with state := .exhausted }) ho3 (i := 0) rfl
    have o8 : Own (ofList (us x ++ [.blk w.heap.size (.deferred (some []))])) R (w3.putObj (w.heap.size + 1) (.loop { recOf fn act.tmps ps as b w.heap.size with state := .exhausted })) := by
      have o9 : Own (ofList (.blk (w.heap.size + 1) (.loop { recOf fn act.tmps ps as b w.heap.size with state := .exhausted }) :: (us x ++ [.blk w.heap.size (.deferred (some []))]))) R (w3.putObj (w.heap.size + 1) (.loop { recOf fn act.tmps ps as b w.heap.size with state := .exhausted })) := o7.weaken fun k => by
        cases k with
        | zero => exact .inl rfl
        | succ k => exact .inl rfl
      exact Imp.drop _ [_] R _ (Imp.swap [_] _ R _ o9)
    exact Imp.swap (us x) [.blk w.heap.size (.deferred (some []))] R _ o8
end Go.Sx

namespace Go.Sx
open Go.RowKit
def rowF (b : Nat) (ty e : TypeId) (vs : List Value) : Row → List Slot := fun y => [.blk b (.cells #[sv y] ty (0, 0)), ss e y] ++ [pur (vals y = vs)]
/-- The variable at b holds a slice with the elements vs. -/
def rowS (b : Nat) (ty e : TypeId) (vs : List Value) : Slot := bun [b] .none (rowF b ty e vs)
theorem rowS_shut {b : Nat} {ty e : TypeId} {vs : List Value} {y : Row} (h : vals y = vs) (l : List Slot) : Imp (.blk b (.cells #[sv y] ty (0, 0)) :: ss e y :: l) (rowS b ty e vs :: l) := by
  refine Imp.trans (.same fun p hp => ?_) (bun_shut (F := rowF b ty e vs) y l)
  have h2 : SepL ([.blk b (.cells #[sv y] ty (0, 0)), ss e y] ++ l) p := hp
  obtain ⟨p1, p2, ha, hb, d, rfl⟩ := (sep_append _ _).1 h2
  exact (sep_append _ _).2 ⟨p1, p2, sep_pur.2 ⟨ha, h⟩, hb, d, rfl⟩
theorem rowS_open {b : Nat} {ty e : TypeId} {vs : List Value} {l : List Slot} {R : HP} {w : World} (h : Own (ofList (rowS b ty e vs :: l)) R w) :
    ∃ y, vals y = vs ∧ Own (ofList (.blk b (.cells #[sv y] ty (0, 0)) :: ss e y :: l)) R w := by
  obtain ⟨y, hr⟩ := bun_open h
  obtain ⟨p, q, hp, hq, hw, hqw, d⟩ := own_sep.1 hr
  obtain ⟨p1, p2, ha, hb, d2, rfl⟩ := (sep_append _ _).1 hp
  obtain ⟨ha', hk⟩ := sep_pur.1 ha
  exact ⟨y, hk, own_sep.2 ⟨_, q, (sep_append [_, _] l).2 ⟨p1, p2, ha', hb, d2, rfl⟩, hq, hw, hqw, d⟩⟩
theorem rowS_nil {b : Nat} {ty e : TypeId} (l : List Slot) : Imp (.blk b (.cells #[.slice none 0 0] ty (0, 0)) :: l) (rowS b ty e [] :: l) := by
  refine Imp.trans (.same fun p hp => ?_) (rowS_shut (y := .nil) rfl l)
  have h2 : SepL ([.blk b (.cells #[.slice none 0 0] ty (0, 0))] ++ l) p := hp
  obtain ⟨p1, p2, ha, hb, d, rfl⟩ := (sep_append _ _).1 h2
  exact (sep_append [_, _] l).2 ⟨p1, p2, (sep_free (a := [.blk b (.cells #[.slice none 0 0] ty (0, 0))])).2 ha, hb, d, rfl⟩
/-- A round over an opened row is one over the row. -/
theorem round_row {P : Program} {l : Nat} {args : Array Value} {S : Slot} {b : Nat} {ty e : TypeId} {vs vs' : List Value}
    (h : ∀ y, vals y = vs → RoundT P l args [S, .blk b (.cells #[sv y] ty (0, 0)), ss e y] Row (fun _ => .bool true) (fun z => [S, .blk b (.cells #[sv z] ty (0, 0)), ss e z]) (fun z => vals z = vs')) :
    RoundT P l args [S, rowS b ty e vs] Unit (fun _ => .bool true) (fun _ => [S, rowS b ty e vs']) (fun _ => True) := by
  intro R w ho
  have ho1 : Own (ofList (rowS b ty e vs :: [S])) R w := Imp.swap [S] [rowS b ty e vs] R w ho
  obtain ⟨y, hy, ho2⟩ := rowS_open ho1
  have ho3 : Own (ofList [S, .blk b (.cells #[sv y] ty (0, 0)), ss e y]) R w := Imp.swap [.blk b (.cells #[sv y] ty (0, 0)), ss e y] [S] R w ho2
  obtain ⟨fn, tmps, as, bd, hr, hk⟩ := h y hy R w ho3
  refine ⟨fn, tmps, as, bd, hr, hk.mono ?_⟩
  rintro e' w' ⟨z, hz, he, ho4, hx⟩
  refine ⟨(), trivial, he, ?_, hx⟩
  have ho5 : Own (ofList ([.blk b (.cells #[sv z] ty (0, 0)), ss e z] ++ [S])) R w' := Imp.swap [S] [.blk b (.cells #[sv z] ty (0, 0)), ss e z] R w' ho4
  have ho6 := rowS_shut hz [S] R w' ho5
  exact Imp.swap [rowS b ty e vs'] [S] R w' ho6
theorem upd_known {f : Nat → Value} {t : Nat} {v : Value} (h : f t = v) : f = upd f t v := by
  funext i
  by_cases e : i = t
  · subst e; rw [upd_same]; exact h
  · rw [upd_other _ _ e]
/-- What an iterator over keys tells, gathered in a row. -/
theorem CallT.imp {P : Program} {f : FuncId} {args : Array Value} {Hs Ks : List Slot} {X Y : Type} {val : X → Value} {us : X → List Slot} {Φ : X → Prop} {val' : Y → Value} {us' : Y → List Slot} {Ψ : Y → Prop} (h : CallT P f args Hs X val us Φ) (hp : Imp Ks Hs)
    (hq : ∀ x R w, Φ x → Own (ofList (us x)) R w → ∃ y, Ψ y ∧ val x = val' y ∧ Own (ofList (us' y)) R w) : CallT P f args Ks Y val' us' Ψ :=
  ⟨h.enter, fun R w hw => (h.calls R w (hp R w hw)).mono fun _ w' ⟨x, hx, he, ho, hext⟩ => let ⟨y, hy, hv, ho'⟩ := hq x R w' hx ho; ⟨y, hy, hv ▸ he, ho', hext⟩⟩
end Go.Sx

namespace Go.Sx
open Go.RowKit
def srcv (x : Value) (s : Slot) : List Value := ((scells s).toList.drop (voff x)).take (vlen x)
def F_appN (e : TypeId) : List Value → List Slot → Ctr := fun vs hs => ⟨Row, fun y => sv y, fun y => [ss e y, sarg hs 1], fun y => vals y = rvals (varg vs 0) (sarg hs 0) ++ srcv (varg vs 1) (sarg hs 1)⟩
theorem upd_two (s t u : Slot) : upd (ofList [t, u]) 0 s = ofList [s, u] := by
  funext i
  cases i with
  | zero => rfl
  | succ i => cases i <;> rfl
theorem zl_of {z : Value} (hz : z.cells = #[z]) (n : Nat) : ∃ ex : List Value, Builtin.zeroCells z.cells n = ex.toArray ∧ ex.length = n := by
  refine ⟨(Builtin.zeroCells z.cells n).toList, by simp, ?_⟩
  rw [Array.length_toList, size_zeroCells, hz]; simp
theorem zeros_of {z : Value} (hz : z.cells = #[z]) (n : Nat) : Builtin.zeroCells z.cells n = (List.replicate n z).toArray := by
  apply Array.ext
  · simp [Builtin.zeroCells, hz]
  · intro j h1 h2
    simp [Builtin.zeroCells, hz, Nat.mod_one]
theorem own_setCells {e : TypeId} {b : Nat} {R : HP} : ∀ (news : List Value) (pre olds post : List Value) (H : Hp) (w : World) (i : Nat), Own H R w → H i = .blk b (.cells (pre ++ olds ++ post).toArray e (0, 0)) → olds.length = news.length →
    Own (upd H i (.blk b (.cells (pre ++ news ++ post).toArray e (0, 0)))) R (w.setCells b pre.length news) ∧ Ext w (w.setCells b pre.length news)
  | [], pre, olds, post, H, w, i, ho, hi, hl => by
    have h0 : olds = [] := List.length_eq_zero_iff.1 hl
    subst h0
    refine ⟨?_, Ext.refl w⟩
    rw [← hi]
    have : upd H i (H i) = H := by funext j; unfold upd; cases h : Nat.beq j i <;> simp; rw [Nat.beq_eq] at h; rw [h]
    rw [this]; exact ho
  | v :: r, pre, [], post, H, w, i, ho, hi, hl => by simp at hl
  | v :: r, pre, o :: olds, post, H, w, i, ho, hi, hl => by
    have hb := ho.block hi
    have hh := heap_setCell_same w b pre.length _ e v hb
    have hset : ((pre ++ o :: olds ++ post).toArray.setIfInBounds pre.length v) = ((pre ++ [v]) ++ olds ++ post).toArray := by simp
    rw [hset] at hh
    have h1 := ho.set (i := i) (b := b) hi hh (fun c hc => heap_setCell_other w _ c v hc)
    have h2 := own_setCells r (pre ++ [v]) olds post (upd H i (.blk b (.cells ((pre ++ [v]) ++ olds ++ post).toArray e (0, 0)))) (w.setCell ⟨b, pre.length, none⟩ v) i h1 (by unfold upd; rw [Nat.beq_refl]; rfl) (by simpa using hl)
    have e1 : (pre ++ [v]).length = pre.length + 1 := by simp
    have e2 : ∀ s, upd (upd H i (.blk b (.cells ((pre ++ [v]) ++ olds ++ post).toArray e (0, 0)))) i s = upd H i s := by
      intro s; funext j; unfold upd; cases Nat.beq j i <;> rfl
    rw [e1, e2, List.append_assoc pre [v] r] at h2
    have h3 : Ext w (w.setCell ⟨b, pre.length, none⟩ v) := ⟨rfl, rfl, rfl, by simp, by first | exact Nat.le_refl _ | exact Nat.le_succ _ | simp⟩
    have h4 : w.setCells b pre.length (v :: r) = (w.setCell ⟨b, pre.length, none⟩ v).setCells b (pre.length + 1) r := by rw [World.setCells]
    rw [h4]
    exact ⟨h2.1, h3.trans h2.2⟩
theorem xappN {P : Program} {t e : TypeId} {z : Value} (h : SlT P t e z) (ty : TypeId) (r : Row) (hl : (vals r).length ≤ 1073741824) {c o m cap : Nat} {cs : Array Value} {te : TypeId} {news : List Value} (hm : news.length = m) (hm1 : m ≤ 1073741824)
    (hc : ∀ j u, news[j]? = some u → cs[o + j]? = some u) (h2 : ∀ u ∈ news, u.oneCell' = true) :
    OpT P (do pure (.value (← Builtin.append_ #[t, t] ty #[sv r, .slice (some ⟨c, o, none⟩) m cap]))) [ss e r, .blk c (.cells cs te (0, 0))] Row sv (fun y => [ss e y, .blk c (.cells cs te (0, 0))]) (fun y => vals y = vals r ++ news) := by
  intro R w h0
  obtain ⟨i, hi, hz, hs, hby⟩ := h.info
  have hcb := h0.block (i := 1) rfl
  have hnews : ∀ j u, news[j]? = some u → w.cell? ((⟨c, o, none⟩ : Addr).add j) = some u := by
    intro j u hu
    have : (⟨c, o, none⟩ : Addr).add j = ⟨c, o + j, none⟩ := Addr.add_lit ..
    rw [this, cell_of_block hcb rfl]
    exact hc j u hu
  rcases Nat.eq_zero_or_pos m with hm0 | hm0
  · subst hm0
    have hn : news = [] := List.length_eq_zero_iff.1 hm
    subst hn
    refine ⟨r, w, by simp, .inl ?_, h0, Ext.refl w⟩
    have hlc : (loadCells ⟨c, o, none⟩ 0).run P w = .ok #[] w := by simpa using run_loadCells_list (P := P) w ⟨c, o, none⟩ [] (by simp)
    cases r with
    | nil => simp [sv, Builtin.append_, run_underlying h.und, sizeOf, typeInfo, hi, Builtin.lenOf, Builtin.firstCells, hs, hlc, Result.andThen]
    | mk b vs ex =>
      have hr0 := run_firstCells_some (P := P) w 1 0 ⟨c, o, none⟩ 0 cap [] rfl (by simp)
      simp [sv, Builtin.append_, run_underlying h.und, sizeOf, typeInfo, hi, Builtin.lenOf, hs, hr0, storeCells]
  have fresh : ∀ (o' : Obj), Own (ofList [.blk w.heap.size o', .blk c (.cells cs te (0, 0))]) R (w.drew.alloc o') := by
    intro o'
    have := h0.new (w' := w.drew.alloc o') (i := 0) (o := o') (heap_alloc_new w.drew o') (fun c hc => heap_alloc_old w.drew o' c hc)
    rw [upd_two] at this
    exact this
  have ext : ∀ (o : Obj), Ext w (w.drew.alloc o) := fun o => ⟨rfl, rfl, rfl, by simp, by first | exact Nat.le_refl _ | exact Nat.le_succ _ | simp⟩
  cases r with
  | nil =>
    have hr := run_append_nil (P := P) w t ty e i z h.und hi hz ⟨c, o, none⟩ m cap news (by simp [hs, hm]) hnews hm0 (by omega) (by
      have : m * i.bytes ≤ 1073741824 * 4096 := Nat.mul_le_mul hm1 hby
      omega)
    obtain ⟨ex, he, hx⟩ := zl_of h.zc (grownCap w m 0 e - m)
    have hge := grownCap_ge w m 0 e
    rw [he] at hr
    refine ⟨.mk w.heap.size news ex, w.drew.alloc (.cells (news.toArray ++ ex.toArray) e), by simp [vals], .inl ?_, ?_, ext _⟩
    · simp only [sv]
      show (Sem.run P (Builtin.append_ _ _ _ >>= _) w) = _
      rw [Sem.run_bind, hr]
      have : news.length + ex.length = grownCap w m 0 e := by omega
      rw [this, hm]; rfl
    · have := fresh (.cells (news.toArray ++ ex.toArray) e)
      simpa [ss] using this
  | mk b vs ex =>
    simp only [vals] at hl
    have hb := h0.block (i := 0) rfl
    by_cases hroom : vs.length + m ≤ vs.length + ex.length
    · have hcell : ∀ j, j < news.length → (w.cell? ⟨b, 0 + vs.length * i.size + j, none⟩).isSome = true := by
        intro j hj
        rw [hs]
        have : 0 + vs.length * 1 + j < (vs ++ ex).length := by simp; omega
        simp [World.cell?, hb, List.getElem?_eq_getElem this]
        omega
      have hr := run_append_room_cells (P := P) w t ty e i h.und hi b 0 vs.length (vs.length + ex.length) ⟨c, o, none⟩ m cap news (by simp [hs, hm]) hnews h2 hroom hcell (fun j hj => frozen_of_row w b _ _ e hb)
      rw [hs, Nat.mul_one, Nat.zero_add] at hr
      obtain ⟨olds, ex', hex, hol⟩ : ∃ olds ex', ex = olds ++ ex' ∧ olds.length = news.length := ⟨ex.take m, ex.drop m, (List.take_append_drop m ex).symm, by simp; omega⟩
      subst hex
      have hset := own_setCells (e := e) (b := b) (R := R) news vs olds ex' _ w 0 h0 (by simp [ofList, ss]) hol
      refine ⟨.mk b (vs ++ news) ex', w.setCells b vs.length news, rfl, .inl ?_, ?_, hset.2⟩
      · simp only [sv]
        rw [Sem.run_bind, hr]
        have e1 : (vs ++ news).length = vs.length + m := by simp [hm]
        have e2 : (vs ++ news).length + ex'.length = vs.length + (olds ++ ex').length := by simp; omega
        rw [e2, e1]; rfl
      · have := hset.1
        rw [upd_two] at this
        exact this
    · have holds : ∀ j u, vs[j]? = some u → w.cell? ((⟨b, 0, none⟩ : Addr).add j) = some u := by
        intro j u hu
        have hj : j < vs.length := by
          rcases Nat.lt_or_ge j vs.length with h | h
          · exact h
          · simp [List.getElem?_eq_none h] at hu
        have : (⟨b, 0, none⟩ : Addr).add j = ⟨b, 0 + j, none⟩ := Addr.add_lit ..
        rw [this]
        simp [World.cell?, hb, hu, List.getElem?_append_left hj]
      have hfit : Builtin.nextslicecap (vs.length + m) (vs.length + ex.length) * i.bytes ≤ 281474976710656 := by
        refine growslice_fits (by omega) ?_
        have : (vs.length + m) * i.bytes ≤ 2147483648 * 4096 := Nat.mul_le_mul (by omega) hby
        omega
      have hr := run_append_grow (P := P) w t ty e i z h.und hi hz ⟨b, 0, none⟩ vs.length (vs.length + ex.length) vs (by simp [hs]) holds ⟨c, o, none⟩ m cap news (by simp [hs, hm]) hnews (by omega) (by omega) hfit
      obtain ⟨ex', he, hx⟩ := zl_of h.zc (grownCap w (vs.length + m) (vs.length + ex.length) e - (vs.length + m))
      have hge := grownCap_ge w (vs.length + m) (vs.length + ex.length) e
      rw [he] at hr
      refine ⟨.mk w.heap.size (vs ++ news) ex', w.drew.alloc (.cells (vs.toArray ++ news.toArray ++ ex'.toArray) e), rfl, .inl ?_, ?_, ext _⟩
      · simp only [sv]
        rw [Sem.run_bind, hr]
        have e1 : (vs ++ news).length = vs.length + m := by simp [hm]
        have e2 : (vs ++ news).length + ex'.length = grownCap w (vs.length + m) (vs.length + ex.length) e := by rw [e1]; omega
        rw [e2, e1]; rfl
      · have := fresh (.cells (vs.toArray ++ news.toArray ++ ex'.toArray) e)
        have e3 : vs.toArray ++ news.toArray ++ ex'.toArray = (vs ++ news ++ ex').toArray := by simp
        rw [e3] at this ⊢
        exact this
end Go.Sx

namespace Go.Sx
open Go.RowKit
theorem i64_small {n : Int} (h0 : 0 ≤ n) (h1 : n ≤ 1073741824) : IntKind.i64.wrap n = n := by
  have e : n % 18446744073709551616 = n := Int.emod_eq_of_lt h0 (by omega)
  simp [IntKind.wrap, IntKind.bits, IntKind.signed, e]
  omega
def F_appZ (e : TypeId) (z : Value) : List Value → List Slot → Ctr := fun vs hs => ⟨Row, fun y => sv y, fun y => [ss e y], fun y => vals y = rvals (varg vs 0) (sarg hs 0) ++ List.replicate (ci (varg vs 1)).toNat z⟩
theorem xappZ {P : Program} {t u e : TypeId} {z : Value} (h : SlT P t e z) {ku : IntKind} (hu : P.underlying u = some (.int ku)) (hz1 : z.oneCell' = true) (ty : TypeId) (r : Row) (hl : (vals r).length ≤ 1048576) (k : IntKind) (n : Int) (h0 : 0 ≤ n) (h1 : n ≤ 1048576) (hr0 : r ≠ .nil) :
    OpT P (do pure (.value (← Builtin.append_ #[t, u] ty #[sv r, .int k n]))) [ss e r] Row sv (fun y => [ss e y]) (fun y => vals y = vals r ++ List.replicate n.toNat z) := by
  intro R w ho
  obtain ⟨i, hi, hz, hs, hby⟩ := h.info
  have hw : IntKind.i64.wrap n = n := i64_small h0 (by omega)
  have hb1 : ¬ (281474976710656 < n * (i.bytes : Int)) := by
    have : n * (i.bytes : Int) ≤ 1048576 * 4096 := Int.mul_le_mul h1 (by omega) (by omega) (by decide)
    omega
  have hb2 : ¬ (n < 0) := by omega
  have upd1 : ∀ s t, upd (ofList [t]) 0 s = ofList [s] := by
    intro s t; funext i
    cases i <;> rfl
  cases r with
  | nil => exact absurd rfl hr0
  | mk b vs ex =>
    simp only [vals] at hl
    have hb := ho.block (i := 0) rfl
    have hzv := zeros_of h.zc n.toNat
    by_cases hroom : vs.length + n.toNat ≤ vs.length + ex.length
    · have hcell : ∀ j, j < (List.replicate n.toNat z).length → (w.cell? ⟨b, vs.length + j, none⟩).isSome = true := by
        intro j hj
        simp at hj
        have : vs.length + j < (vs ++ ex).length := by simp; omega
        simp [World.cell?, hb, List.getElem?_eq_getElem this]
      have hst := run_storeCells_cells (P := P) b vs.length (List.replicate n.toNat z) 0 w (by simpa using hcell) (fun j hj => by simpa using frozen_of_row w b _ _ e hb) (fun u hu => by rw [(List.mem_replicate.1 hu).2]; exact hz1)
      simp only [Nat.add_zero] at hst
      obtain ⟨olds, ex', hex, hol⟩ : ∃ olds ex', ex = olds ++ ex' ∧ olds.length = (List.replicate n.toNat z).length := ⟨ex.take n.toNat, ex.drop n.toNat, (List.take_append_drop _ ex).symm, by simp; omega⟩
      subst hex
      have hset := own_setCells (e := e) (b := b) (R := R) (List.replicate n.toNat z) vs olds ex' _ w 0 ho (by simp [ofList, ss]) hol
      refine ⟨.mk b (vs ++ List.replicate n.toNat z) ex', w.setCells b vs.length (List.replicate n.toNat z), rfl, .inl ?_, ?_, hset.2⟩
      · simp only [sv]
        have e1 : (vs ++ List.replicate n.toNat z).length = vs.length + n.toNat := by simp
        have e2 : (vs ++ List.replicate n.toNat z).length + ex'.length = vs.length + (olds ++ ex').length := by
          simp at hol ⊢; omega
        rw [e2, e1]
        have hroom' : n ≤ (olds.length : Int) + ex'.length := by simp at hroom; omega
        rcases Nat.eq_zero_or_pos n.toNat with hn | hn
        · have hn' : n = 0 := by omega
          subst hn'
          have he0 : ¬ ((olds.length : Int) + ex'.length < 0) := by omega
          simp [Builtin.append_, run_underlying h.und, run_underlying hu, sizeOf, typeInfo, hi, hs, asInt, asIntOf, storeCells, World.setCells, show IntKind.i64.wrap 0 = 0 from rfl, he0]
        · have hn' : ¬ n ≤ 0 := by omega
          simp [Builtin.append_, run_underlying h.und, run_underlying hu, sizeOf, typeInfo, zeroValue, hi, hz, hs, asInt, asIntOf, hw, hb1, hb2, hroom', hn', hzv, Addr.add_lit, hst]
      · have := hset.1
        rw [upd1] at this
        exact this
    · have hn0 : ¬ n ≤ 0 := by omega
      have hroom' : ¬ (n ≤ (ex.length : Int)) := by omega
      have h63' : ¬ (9223372036854775807 < (vs.length : Int) + max n 0) := by omega
      have holds : ∀ j u, vs[j]? = some u → w.drew.cell? ((⟨b, 0, none⟩ : Addr).add j) = some u := by
        intro j u hu
        have hj : j < vs.length := by
          rcases Nat.lt_or_ge j vs.length with h | h
          · exact h
          · simp [List.getElem?_eq_none h] at hu
        have : (⟨b, 0, none⟩ : Addr).add j = ⟨b, 0 + j, none⟩ := Addr.add_lit ..
        rw [this]
        have : w.cell? ⟨b, 0 + j, none⟩ = some u := by simp [World.cell?, hb, hu, List.getElem?_append_left hj]
        simpa using this
      have hfit : Builtin.nextslicecap (vs.length + n.toNat) (vs.length + ex.length) * i.bytes ≤ 281474976710656 := by
        refine growslice_fits (by omega) ?_
        have : (vs.length + n.toNat) * i.bytes ≤ 2147483648 * 4096 := Nat.mul_le_mul (by omega) hby
        omega
      have h48' : ¬ (281474976710656 < Builtin.nextslicecap (vs.length + n.toNat) (vs.length + ex.length) * i.bytes) := by omega
      have hfo := run_firstCells_some (P := P) w.drew i.size vs.length ⟨b, 0, none⟩ vs.length (vs.length + ex.length) vs (by simp [hs]) holds
      have hge := grownCap_ge w (vs.length + n.toNat) (vs.length + ex.length) e
      obtain ⟨ex', he, hx⟩ := zl_of h.zc (grownCap w (vs.length + n.toNat) (vs.length + ex.length) e - (vs.length + n.toNat))
      have hr : (Builtin.append_ #[t, u] ty #[.slice (some ⟨b, 0, none⟩) vs.length (vs.length + ex.length), .int k n]).run P w = .ok (.slice (some ⟨w.heap.size, 0, none⟩) (vs.length + n.toNat) (grownCap w (vs.length + n.toNat) (vs.length + ex.length) e))
          (w.drew.alloc (.cells (vs.toArray ++ (List.replicate n.toNat z).toArray ++ Builtin.zeroCells z.cells (grownCap w (vs.length + n.toNat) (vs.length + ex.length) e - (vs.length + n.toNat))) e)) := by
        rw [hs] at hfo
        simp [Builtin.append_, run_underlying h.und, run_underlying hu, sizeOf, typeInfo, zeroValue, hi, hz, hs, asInt, asIntOf, hw, hb1, hb2, hroom', hn0, hzv, h63', h48', Question.forced, hfo, newRow, grownCap]
      rw [he] at hr
      refine ⟨.mk w.heap.size (vs ++ List.replicate n.toNat z) ex', w.drew.alloc (.cells (vs.toArray ++ (List.replicate n.toNat z).toArray ++ ex'.toArray) e), rfl, .inl ?_, ?_, ⟨rfl, rfl, rfl, by simp, by first | exact Nat.le_refl _ | exact Nat.le_succ _ | simp⟩⟩
      · simp only [sv]
        rw [Sem.run_bind, hr]
        have e1 : (vs ++ List.replicate n.toNat z).length = vs.length + n.toNat := by simp
        have e2 : (vs ++ List.replicate n.toNat z).length + ex'.length = grownCap w (vs.length + n.toNat) (vs.length + ex.length) e := by rw [e1]; omega
        rw [e2, e1]; rfl
      · have := ho.new (w' := w.drew.alloc (.cells (vs.toArray ++ (List.replicate n.toNat z).toArray ++ ex'.toArray) e)) (i := 0) (heap_alloc_new w.drew _) (fun c hc => heap_alloc_old w.drew _ c hc)
        rw [upd1] at this
        have e3 : vs.toArray ++ (List.replicate n.toNat z).toArray ++ ex'.toArray = (vs ++ List.replicate n.toNat z ++ ex').toArray := by simp
        rw [e3] at this ⊢
        exact this
/-! ### nil or not -/
def vnil : Value → Bool
  | .slice none _ _ => true
  | _ => false
def f_nil : List Value → Value := fun vs => .bool (vnil (varg vs 0))
theorem xnilq {P : Program} {t e : TypeId} {z : Value} (h : SlT P t e z) (r : Row) : PureRun P (xBin .eql t (sv r) (.slice none 0 0)) (.bool (vnil (sv r))) := by
  intro w
  have key : ∀ (a : Option Addr) (n c : Nat), (xBin .eql t (.slice a n c) (.slice none 0 0)).run P w = .ok (.value (.bool a.isNone)) w := by
    intro a n c
    have h1 := Go.Lib.run_eql_slice_nil (P := P) w t e a n c 0 0 h.und
    have h3 : (eqGuard .eql t (.const (.slice a n c)) (.const (.slice none 0 0)) (.slice a n c) (.slice none 0 0)).run P w = .ok () w := by
      unfold eqGuard; rfl
    rw [xBin, Sem.run_bind, Sem.run_bind, h3]
    simp only [Result.andThen]
    rw [h1]; rfl
  cases r with
  | nil => exact key none 0 0
  | mk b vs ex => exact key _ _ _
theorem vnil_row {r : Row} (h : vnil (sv r) = true) : r = .nil := by
  cases r with
  | nil => rfl
  | mk b vs ex => cases h
theorem vnil_not {r : Row} (h : vnil (sv r) = false) : ∃ b vs ex, r = .mk b vs ex := by
  cases r with
  | nil => cases h
  | mk b vs ex => exact ⟨b, vs, ex, rfl⟩
/-! ### A part of a slice -/
theorem xpart {P : Program} {t e : TypeId} {z : Value} (h : SlT P t e z) (b off len cap : Nat) (k k' : IntKind) (lo hi : Int) (l m : Nat) (hl : lo = (l : Int)) (hh : hi = ((l + m : Nat) : Int)) (h1 : l + m ≤ cap) (h2 : 0 < m) :
    PureRun P (do pure (.value (← Instr.sliceAt t (.slice (some ⟨b, off, none⟩) len cap) (some (.int k lo)) (some (.int k' hi)) none))) (.slice (some ⟨b, off + l, none⟩) m (cap - l)) := by
  intro w
  have hu : P.underlying t = some (.slice (P.elem t)) := by rw [h.elem]; exact h.und
  have hs := h.size w
  rw [← h.elem] at hs
  subst hl; subst hh
  rw [Sem.run_bind, run_sliceAt_slice w t _ _ _ _ hu, run_slice_lh w t _ _ _ hu k k' _ _ (by omega) (by omega) (by omega), hs]
  have e1 : ((l : Nat) : Int).toNat = l := by omega
  have e2 : (((l + m : Nat) : Int)).toNat = l + m := by omega
  have e3 : cap ≠ l := by omega
  have e4 : (⟨b, off, none⟩ : Addr).add l = ⟨b, off + l, none⟩ := Addr.add_lit ..
  have e5 : ((l : Int) + (m : Int)).toNat - l = m := by omega
  simp [Result.andThen, sliced, e1, e2, e3, e4, e5]
theorem xpart_h {P : Program} {t e : TypeId} {z : Value} (h : SlT P t e z) (a : Addr) (len cap : Nat) (k : IntKind) (hi : Int) (m : Nat) (hh : hi = (m : Int)) (h1 : m ≤ cap) :
    PureRun P (do pure (.value (← Instr.sliceAt t (.slice (some a) len cap) none (some (.int k hi)) none))) (.slice (some a) m cap) := by
  intro w
  have hu : P.underlying t = some (.slice (P.elem t)) := by rw [h.elem]; exact h.und
  have hs := h.size w
  rw [← h.elem] at hs
  subst hh
  rw [Sem.run_bind, run_sliceAt_slice w t _ _ _ _ hu, run_slice_h w t _ _ _ hu k _ (by omega) (by omega), hs]
  have e1 : ((m : Nat) : Int).toNat = m := by omega
  have e4 : a.add 0 = a := by simp [Addr.add]
  by_cases e3 : cap = 0
  · have : m = 0 := by omega
    subst this; simp [Result.andThen, sliced, e3]
  · simp [Result.andThen, sliced, e1, e3, e4]
theorem xpart_l {P : Program} {t e : TypeId} {z : Value} (h : SlT P t e z) (b off len cap : Nat) (k : IntKind) (lo : Int) (l : Nat) (hl : lo = (l : Int)) (h1 : l ≤ len) :
    PureRun P (do pure (.value (← Instr.sliceAt t (.slice (some ⟨b, off, none⟩) len cap) (some (.int k lo)) none none))) (.slice (some ⟨b, if cap = l then off else off + l, none⟩) (len - l) (cap - l)) := by
  intro w
  have hu : P.underlying t = some (.slice (P.elem t)) := by rw [h.elem]; exact h.und
  have hs := h.size w
  rw [← h.elem] at hs
  subst hl
  rw [Sem.run_bind, run_sliceAt_slice w t _ _ _ _ hu, run_slice_l w t _ _ _ hu k _ (by omega) (by omega), hs]
  have e1 : ((l : Nat) : Int).toNat = l := by omega
  have e4 : (⟨b, off, none⟩ : Addr).add l = ⟨b, off + l, none⟩ := Addr.add_lit ..
  by_cases e3 : cap = l
  · simp [Result.andThen, sliced, e1, e3]
  · simp [Result.andThen, sliced, e1, e3, e4]
/-! ### An element's address in a slice -/
theorem xpidx {P : Program} {t e : TypeId} {z : Value} (h : SlT P t e z) (b off len cap : Nat) (k : IntKind) (i : Int) (n : Nat) (hi : i = (n : Int)) (h1 : n < len) :
    PureRun P (do pure (.value (← Instr.indexAt t (.slice (some ⟨b, off, none⟩) len cap) (.int k i)))) (.pointer (some ⟨b, off + n, none⟩)) := by
  intro w
  subst hi
  have hc : 0 ≤ (n : Int) ∧ (n : Int) < (len : Int) := ⟨by omega, by omega⟩
  have e4 : (⟨b, off, none⟩ : Addr).add n = ⟨b, off + n, none⟩ := Addr.add_lit ..
  simp [Instr.indexAt, run_underlying h.und, asIntOf, hc, h.size w, e4, Nat.not_le.2 h1]
/-! ### A package variable that is a table -/
def Tab (w : World) (g : Nat) (k : IntKind) (ns : List Int) : Prop := ∀ i, i < ns.length → w.cell? ⟨g, i, none⟩ = some (.int k (ns.getD i 0))
theorem xtab {P : Program} {te : TypeId} (ha : ∀ w, (isAgg te).run P w = .ok false w) {w0 : World} {g : Nat} {k : IntKind} {ns : List Int} (h : Tab w0 g k ns) (i : Nat) (hi : i < ns.length) :
    OpT P (do pure (.value (← Instr.loadAt te (.pointer (some ⟨g, i, none⟩))))) [old w0] Unit (fun _ => .int k (ns.getD i 0)) (fun _ => [old w0]) (fun _ => True) := by
  intro R w ho
  have hc := own_cell ho (h i hi)
  refine ⟨(), w, trivial, .inl ?_, ho, Ext.refl w⟩
  simp [Instr.loadAt, Instr.sureAddr, loadVar, Sem.run_bind, ha, hc]
theorem xtabA {P : Program} {te : TypeId} {n : Nat} (ha : ∀ w, (isAgg te).run P w = .ok true w) (hs : ∀ w, (sizeOf te).run P w = .ok n w) {w0 : World} {g : Nat} {k : IntKind} {ns : List Int} (h : Tab w0 g k ns) (hn : ns.length = n) :
    OpT P (do pure (.value (← Instr.loadAt te (.pointer (some ⟨g, 0, none⟩))))) [old w0] Unit (fun _ => .agg (arrV k ns)) (fun _ => [old w0]) (fun _ => True) := by
  intro R w ho
  have hr := run_loadCells_list (P := P) w ⟨g, 0, none⟩ (ns.map (Value.int k)) (by
    intro j c hj
    have hj' : j < ns.length := by
      rcases Nat.lt_or_ge j ns.length with q | q
      · exact q
      · rw [List.getElem?_eq_none (by simpa using q)] at hj; cases hj
    have := own_cell ho (h j hj')
    have e : (⟨g, 0, none⟩ : Addr).add j = ⟨g, j, none⟩ := by rw [Addr.add_lit, Nat.zero_add]
    rw [e, this]
    rw [List.getElem?_map, List.getElem?_eq_getElem hj'] at hj
    simp at hj
    rw [← hj]
    simp [hj'])
  refine ⟨(), w, trivial, .inl ?_, ho, Ext.refl w⟩
  rw [List.length_map, hn] at hr
  simp [Instr.loadAt, Instr.sureAddr, loadVar, Sem.run_bind, ha, hs, hr, arrV]
/-! ### An element of an array's value -/
def f_aidx (k : IntKind) : List Value → Value := fun vs => .int k (ci ((scells (.blk 0 (.cells (varg vs 0).cells 0 (0, 0)))).getD (ci (varg vs 1)).toNat undef))
theorem xaval {P : Program} {t e : TypeId} {n : Nat} (hu : P.underlying t = some (.array n e)) (hs : ∀ w, (sizeOf e).run P w = .ok 1 w) (ha : ∀ w, (isAgg e).run P w = .ok false w) {k : IntKind} {ns : List Int} (hn : ns.length = n) (ki : IntKind) (i : Int) (j : Nat) (hi : i = (j : Int)) (hj : j < n) :
    PureRun P (do pure (.value (← Instr.index t (.agg (arrV k ns)) (.int ki i)))) (.int k (ns.getD j 0)) := by
  intro w
  subst hi
  have hc : 0 ≤ (j : Int) ∧ (j : Int) < (n : Int) := ⟨by omega, by omega⟩
  have hg : (arrV k ns)[j]? = some (.int k (ns.getD j 0)) := by
    simp [arrV, show j < ns.length by omega]
  simp [Instr.index, run_underlying hu, asIntOf, hc, hs w, part, ha w, hg, Nat.not_le.2 hj]
end Go.Sx

namespace Go.Sx
def xor32 (a b : Int) : Int := IntKind.u32.wrap (((BitVec.ofInt 32 a ^^^ BitVec.ofInt 32 b : BitVec 32).toNat : Nat) : Int)
def and32 (a b : Int) : Int := IntKind.u32.wrap (((BitVec.ofInt 32 a &&& BitVec.ofInt 32 b : BitVec 32).toNat : Nat) : Int)
def or32 (a b : Int) : Int := IntKind.u32.wrap (((BitVec.ofInt 32 a ||| BitVec.ofInt 32 b : BitVec 32).toNat : Nat) : Int)
def not32 (a : Int) : Int := IntKind.u32.wrap (((BitVec.ofInt 32 4294967295 ^^^ BitVec.ofInt 32 a : BitVec 32).toNat : Nat) : Int)
def add32 (a b : Int) : Int := IntKind.u32.wrap (a + b)
def shr32 (n : Nat) (a : Int) : Int := Int.fdiv a (2 ^ n)
def rotl (s : Nat) (x : Int) : Int := or32 (IntKind.u32.wrap (x * 2 ^ s)) (Int.fdiv x (2 ^ (32 - s)))
def rotr (n : Nat) (x : Int) : Int := rotl (32 - n) x
def tur (a b c : Nat) (x : Int) : Int := xor32 (xor32 (rotr a x) (rotr b x)) (rotr c x)
def sg0 (x : Int) : Int := xor32 (xor32 (rotr 7 x) (rotr 18 x)) (shr32 3 x)
def sg1 (x : Int) : Int := xor32 (xor32 (rotr 17 x) (rotr 19 x)) (shr32 10 x)
def cat4 (q : Nat → Int) (i : Nat) : Nat → Int
  | 0 => 0
  | k + 1 => or32 (IntKind.u32.wrap (cat4 q i k * 2 ^ 8)) (IntKind.u32.wrap (q (4 * i + k)))
def nx0 (l : List Int) (i : Nat) : Int := add32 (l.getD (i - 16) 0) (l.getD (i - 7) 0)
def nx (l : List Int) (i : Nat) : Int := add32 (add32 (nx0 l i) (sg0 (l.getD (i - 15) 0))) (sg1 (l.getD (i - 2) 0))
def wl (q : Nat → Int) : Nat → List Int
  | 0 => []
  | i + 1 => wl q i ++ [if i < 16 then cat4 q i 4 else nx (wl q i) i]
theorem wl_length (q : Nat → Int) : ∀ i, (wl q i).length = i
  | 0 => rfl
  | i + 1 => by simp [wl, wl_length q i]
def wz (q : Nat → Int) (i : Nat) : List Int := wl q i ++ List.replicate (64 - i) 0
theorem wz_length {q : Nat → Int} {i : Nat} (h : i ≤ 64) : (wz q i).length = 64 := by simp [wz, wl_length]; omega
theorem wz_get {q : Nat → Int} {i j : Nat} (h : j < i) : (wz q i).getD j 0 = (wl q i).getD j 0 := by
  simp [wz, List.getElem?_append_left (show j < (wl q i).length by rw [wl_length]; exact h)]
theorem wz_at {q : Nat → Int} {i : Nat} (h : i < 64) : (wz q i).getD i 0 = 0 := by
  simp [wz, List.getElem?_append_right (show (wl q i).length ≤ i by rw [wl_length]; exact Nat.le_refl _), wl_length, List.getElem?_replicate, show 0 < 64 - i by omega]
theorem wz_set {q : Nat → Int} {i : Nat} (h : i < 64) (v : Int) : (wz q i).set i v = wl q i ++ v :: List.replicate (63 - i) 0 := by
  have e : 64 - i = (63 - i) + 1 := by omega
  rw [wz, e, List.replicate_succ, List.set_append_right i v (by rw [wl_length]; exact Nat.le_refl _), wl_length]
  simp
theorem wz_step {q : Nat → Int} {i : Nat} (h : i < 64) {v : Int} (hv : v = if i < 16 then cat4 q i 4 else nx (wl q i) i) : (wz q i).set i v = wz q (i + 1) := by
  have e : 63 - i = 64 - (i + 1) := by omega
  rw [wz_set h, wz, wl, ← hv, e, List.append_assoc]
  rfl
theorem wz_64 (q : Nat → Int) : wz q 64 = wl q 64 := by simp [wz]
structure S8 where
  (a b c d e f g h : Int)
def S8.ch (s : S8) : Int := xor32 (and32 s.e s.f) (and32 (not32 s.e) s.g)
def S8.mj (s : S8) : Int := xor32 (xor32 (and32 s.a s.b) (and32 s.a s.c)) (and32 s.b s.c)
def S8.t1 (s : S8) (k w : Int) : Int := add32 (add32 (add32 (add32 s.h (tur 6 11 25 s.e)) s.ch) k) w
def S8.t2 (s : S8) : Int := add32 (tur 2 13 22 s.a) s.mj
def S8.rnd (s : S8) (k w : Int) : S8 := ⟨add32 (s.t1 k w) s.t2, s.a, s.b, s.c, add32 s.d (s.t1 k w), s.e, s.f, s.g⟩
def rnds (K W : List Int) (s : S8) : Nat → S8
  | 0 => s
  | i + 1 => (rnds K W s i).rnd (K.getD i 0) (W.getD i 0)
def take8 (K : List Int) (q : Nat → Int) (s : S8) : S8 :=
  let r := rnds K (wl q 64) s 64
  ⟨add32 s.a r.a, add32 s.b r.b, add32 s.c r.c, add32 s.d r.d, add32 s.e r.e, add32 s.f r.f, add32 s.g r.g, add32 s.h r.h⟩
/-! ### The words of a block -/
def ag64 (l : List Int) : Value := .agg #[.int .u32 (l.getD 0 0), .int .u32 (l.getD 1 0), .int .u32 (l.getD 2 0), .int .u32 (l.getD 3 0), .int .u32 (l.getD 4 0), .int .u32 (l.getD 5 0), .int .u32 (l.getD 6 0), .int .u32 (l.getD 7 0), .int .u32 (l.getD 8 0), .int .u32 (l.getD 9 0), .int .u32 (l.getD 10 0), .int .u32 (l.getD 11 0), .int .u32 (l.getD 12 0), .int .u32 (l.getD 13 0), .int .u32 (l.getD 14 0), .int .u32 (l.getD 15 0), .int .u32 (l.getD 16 0), .int .u32 (l.getD 17 0), .int .u32 (l.getD 18 0), .int .u32 (l.getD 19 0), .int .u32 (l.getD 20 0), .int .u32 (l.getD 21 0), .int .u32 (l.getD 22 0), .int .u32 (l.getD 23 0), .int .u32 (l.getD 24 0), .int .u32 (l.getD 25 0), .int .u32 (l.getD 26 0), .int .u32 (l.getD 27 0), .int .u32 (l.getD 28 0), .int .u32 (l.getD 29 0), .int .u32 (l.getD 30 0), .int .u32 (l.getD 31 0), .int .u32 (l.getD 32 0), .int .u32 (l.getD 33 0), .int .u32 (l.getD 34 0), .int .u32 (l.getD 35 0), .int .u32 (l.getD 36 0), .int .u32 (l.getD 37 0), .int .u32 (l.getD 38 0), .int .u32 (l.getD 39 0), .int .u32 (l.getD 40 0), .int .u32 (l.getD 41 0), .int .u32 (l.getD 42 0), .int .u32 (l.getD 43 0), .int .u32 (l.getD 44 0), .int .u32 (l.getD 45 0), .int .u32 (l.getD 46 0), .int .u32 (l.getD 47 0), .int .u32 (l.getD 48 0), .int .u32 (l.getD 49 0), .int .u32 (l.getD 50 0), .int .u32 (l.getD 51 0), .int .u32 (l.getD 52 0), .int .u32 (l.getD 53 0), .int .u32 (l.getD 54 0), .int .u32 (l.getD 55 0), .int .u32 (l.getD 56 0), .int .u32 (l.getD 57 0), .int .u32 (l.getD 58 0), .int .u32 (l.getD 59 0), .int .u32 (l.getD 60 0), .int .u32 (l.getD 61 0), .int .u32 (l.getD 62 0), .int .u32 (l.getD 63 0)]
theorem eta64 {l : List Int} (h : l.length = 64) : [l.getD 0 0, l.getD 1 0, l.getD 2 0, l.getD 3 0, l.getD 4 0, l.getD 5 0, l.getD 6 0, l.getD 7 0, l.getD 8 0, l.getD 9 0, l.getD 10 0, l.getD 11 0, l.getD 12 0, l.getD 13 0, l.getD 14 0, l.getD 15 0, l.getD 16 0, l.getD 17 0, l.getD 18 0, l.getD 19 0, l.getD 20 0, l.getD 21 0, l.getD 22 0, l.getD 23 0, l.getD 24 0, l.getD 25 0, l.getD 26 0, l.getD 27 0, l.getD 28 0, l.getD 29 0, l.getD 30 0, l.getD 31 0, l.getD 32 0, l.getD 33 0, l.getD 34 0, l.getD 35 0, l.getD 36 0, l.getD 37 0, l.getD 38 0, l.getD 39 0, l.getD 40 0, l.getD 41 0, l.getD 42 0, l.getD 43 0, l.getD 44 0, l.getD 45 0, l.getD 46 0, l.getD 47 0, l.getD 48 0, l.getD 49 0, l.getD 50 0, l.getD 51 0, l.getD 52 0, l.getD 53 0, l.getD 54 0, l.getD 55 0, l.getD 56 0, l.getD 57 0, l.getD 58 0, l.getD 59 0, l.getD 60 0, l.getD 61 0, l.getD 62 0, l.getD 63 0] = l := by
  have e : (List.range 64).map (fun i => l.getD i 0) = l := by
    apply List.ext_getElem
    · simp [h]
    · intro i h1 h2
      simp [h2]
  exact e
theorem ag64_eq {l : List Int} (h : l.length = 64) : ag64 l = .agg (arrV .u32 l) := by
  conv => rhs; rw [← eta64 h]
  rfl
def qf (cs : Array Value) (off : Nat) : Nat → Int := fun k => ci (cs.getD (off + k) undef)
def SrcOK (cs : Array Value) (off : Nat) : Prop := ∀ k, k < 64 → cs[off + k]? = some (.int .u8 (qf cs off k))
theorem set_get0 {l : List Int} {i : Nat} (h : i < l.length) : l.set i (l.getD i 0) = l := by
  apply List.ext_getElem
  · simp
  · intro j h1 h2
    rw [List.getElem_set]
    split
    · subst_vars; simp [h]
    · rfl
theorem words_0 {q : Nat → Int} {x : Nat} (h : x < 64) : wz q x = (wz q x).set x (cat4 q x 0) := by
  have := set_get0 (l := wz q x) (i := x) (by rw [wz_length (by omega)]; exact h)
  rw [wz_at h] at this
  exact this.symm
theorem words_in {cs : Array Value} {off x k : Nat} (hx : x < 64) :
    (arrV .u32 ((wz (qf cs off) x).set x (cat4 (qf cs off) x k))).setIfInBounds (Int.toNat ((x : Nat) : Int)) (.int .u32 (IntKind.u32.wrap ((BitVec.ofInt 32 (IntKind.u32.wrap (ci ((arrV .u32 ((wz (qf cs off) x).set x (cat4 (qf cs off) x k))).getD (Int.toNat ((x : Nat) : Int)) undef) * 2 ^ 8)) ||| BitVec.ofInt 32 (IntKind.u32.wrap (ci (cs.getD (off + Int.toNat (4 * ((x : Nat) : Int)) + Int.toNat ((k : Nat) : Int)) undef))) : BitVec 32).toNat : Int))) =
      arrV .u32 ((wz (qf cs off) x).set x (cat4 (qf cs off) x (k + 1))) := by
  have e1 : Int.toNat ((x : Nat) : Int) = x := by omega
  have e2 : off + Int.toNat (4 * ((x : Nat) : Int)) + Int.toNat ((k : Nat) : Int) = off + (4 * x + k) := by omega
  rw [e1, e2, arrV_ci (by rw [List.length_set, wz_length (by omega)]; exact hx), arrV_set, List.set_set]
  have e3 : ((wz (qf cs off) x).set x (cat4 (qf cs off) x k)).getD x 0 = cat4 (qf cs off) x k := by
    have : x < (wz (qf cs off) x).length := by rw [wz_length (by omega)]; exact hx
    simp [this]
  rw [e3]; rfl
theorem words_lo {q : Nat → Int} {x : Nat} (hx : x < 16) : (wz q x).set x (cat4 q x 4) = wz q (x + 1) := wz_step (by omega) (by rw [if_pos hx])
theorem words_lo4 {q : Nat → Int} {x k : Nat} (hx : x < 16) (hk : k = 4) : (wz q x).set x (cat4 q x k) = wz q (x + 1) := by rw [hk, words_lo hx]
theorem words_hi {q : Nat → Int} {x : Nat} (h1 : x < 64) (h0 : ¬ x < 16) {A : List Int} (hA : A = wz q x) {i16 i7 i15 i2 i : Nat} (e16 : i16 = x - 16) (e7 : i7 = x - 7) (e15 : i15 = x - 15) (e2 : i2 = x - 2) (ei : i = x) {v1 v2 v3 : Int}
    (h2 : v1 = IntKind.u32.wrap (ci ((arrV .u32 A).getD i16 undef) + ci ((arrV .u32 A).getD i7 undef)))
    (h3 : v2 = IntKind.u32.wrap (ci (((arrV .u32 A).setIfInBounds i (.int .u32 v1)).getD i undef) + sg0 (ci ((arrV .u32 A).getD i15 undef))))
    (h4 : v3 = IntKind.u32.wrap (ci ((((arrV .u32 A).setIfInBounds i (.int .u32 v1)).setIfInBounds i (.int .u32 v2)).getD i undef) + sg1 (ci ((arrV .u32 A).getD i2 undef)))) :
    (((arrV .u32 A).setIfInBounds i (.int .u32 v1)).setIfInBounds i (.int .u32 v2)).setIfInBounds i (.int .u32 v3) = arrV .u32 (wz q (x + 1)) := by
  subst hA e16 e7 e15 e2 ei
  have hl : (wz q i).length = 64 := wz_length (by omega)
  have g : ∀ j, j < i → ci ((arrV .u32 (wz q i)).getD j undef) = (wl q i).getD j 0 := fun j hj => by rw [arrV_ci (by omega), wz_get hj]
  have s1 : ∀ v : Int, ci ((arrV .u32 ((wz q i).set i v)).getD i undef) = v := fun v => by
    rw [arrV_ci (by rw [List.length_set]; omega)]
    simp [show i < (wz q i).length by omega]
  rw [g _ (by omega), g _ (by omega)] at h2
  rw [g _ (by omega), arrV_set, s1] at h3
  rw [g _ (by omega), arrV_set, arrV_set, List.set_set, s1] at h4
  rw [arrV_set, arrV_set, arrV_set, List.set_set, List.set_set]
  rw [wz_step h1 (v := v3)]
  rw [if_neg h0, h4, h3, h2]; rfl
theorem wz_last {q : Nat → Int} {x : Nat} (h : x + 1 = 64) : arrV .u32 (wz q (x + 1)) = arrV .u32 (wl q 64) := by rw [h, wz_64]
theorem arrS_get {k : IntKind} {cs : Array Value} {l : List Int} {i : Nat} (h : cs = arrV k l) (hi : i < l.length) : cs[i]? = some (.int k (ci (cs.getD i undef))) := by subst h; exact arrV_get hi
theorem words_arr {cs : Array Value} {l : List Int} (h : cs = arrV .u32 l) (hl : l.length = 64) : Value.agg cs = ag64 l := by rw [h, ag64_eq hl]
theorem xloadA {P : Program} {te : TypeId} {n : Nat} (ha : ∀ w, (isAgg te).run P w = .ok true w) (hs : ∀ w, (sizeOf te).run P w = .ok n w) {b : Nat} {cs : Array Value} {ty : TypeId} (hn : cs.size = n) {v : Value} (hv : Value.agg cs = v) :
    OpT P (do pure (.value (← Instr.loadAt te (.pointer (some ⟨b, 0, none⟩))))) [.blk b (.cells cs ty (0, 0))] Unit (fun _ => v) (fun _ => [.blk b (.cells cs ty (0, 0))]) (fun _ => True) := by
  intro R w ho
  have hb := ho.block (i := 0) rfl
  have hr := run_loadCells_list (P := P) w ⟨b, 0, none⟩ cs.toList (by
    intro j c hj
    have e : (⟨b, 0, none⟩ : Addr).add j = ⟨b, j, none⟩ := by rw [Addr.add_lit, Nat.zero_add]
    rw [e, cell_of_block hb rfl]
    simpa using hj)
  subst hv
  refine ⟨(), w, trivial, .inl ?_, ho, Ext.refl w⟩
  have hl : cs.toList.length = n := by simpa using hn
  rw [hl] at hr
  simp [Instr.loadAt, Instr.sureAddr, loadVar, Sem.run_bind, ha, hs, hr]
end Go.Sx
namespace Go.Sx
theorem src_any {cs : Array Value} {off o : Nat} (h : SrcOK cs off) (h1 : off ≤ o) (h2 : o < off + 64) : cs[o]? = some (.int .u8 (ci (cs.getD o undef))) := by
  have := h (o - off) (by omega)
  unfold qf at this
  rwa [show off + (o - off) = o by omega] at this
def f_part (m : Nat) : List Value → Value := fun vs => .slice (some ⟨vblk (varg vs 0), voff (varg vs 0) + (ci (varg vs 1)).toNat, none⟩) m (vcap (varg vs 0) - (ci (varg vs 1)).toNat)
def f_pidx : List Value → Value := fun vs => .pointer (some ⟨vblk (varg vs 0), voff (varg vs 0) + (ci (varg vs 1)).toNat, none⟩)
end Go.Sx
namespace Go.Sx
def shaK : List Int := [1116352408, 1899447441, 3049323471, 3921009573, 961987163, 1508970993, 2453635748, 2870763221, 3624381080, 310598401, 607225278, 1426881987, 1925078388, 2162078206, 2614888103, 3248222580, 3835390401, 4022224774, 264347078, 604807628, 770255983, 1249150122, 1555081692, 1996064986, 2554220882, 2821834349, 2952996808, 3210313671, 3336571891, 3584528711, 113926993, 338241895, 666307205, 773529912, 1294757372, 1396182291, 1695183700, 1986661051, 2177026350, 2456956037, 2730485921, 2820302411, 3259730800, 3345764771, 3516065817, 3600352804, 4094571909, 275423344, 430227734, 506948616, 659060556, 883997877, 958139571, 1322822218, 1537002063, 1747873779, 1955562222, 2024104815, 2227730452, 2361852424, 2428436474, 2756734187, 3204031479, 3329325298]
def shaH : List Int := [1779033703, 3144134277, 1013904242, 2773480762, 1359893119, 2600822924, 528734635, 1541459225]
theorem shaK_length : shaK.length = 64 := rfl
theorem xa64 {P : Program} {t e : TypeId} (hu : P.underlying t = some (.array 64 e)) (hs : ∀ w, (sizeOf e).run P w = .ok 1 w) (ha : ∀ w, (isAgg e).run P w = .ok false w) {l : List Int} (hl : l.length = 64) (ki : IntKind) (i : Int) (h0 : 0 ≤ i) (h1 : i < 64) :
    PureRun P (do pure (.value (← Instr.index t (ag64 l) (.int ki i)))) (.int .u32 (l.getD i.toNat 0)) := by
  rw [ag64_eq hl]
  exact xaval hu hs ha hl ki i i.toNat (by omega) (by omega)
end Go.Sx

namespace Go.Sx
open Go.RowKit
def bv (l : List Int) : List Value := l.map (Value.int .u8)
structure BOK (r : Row) : Prop where
  eq : vals r = bv (dg r)
theorem vals_len (r : Row) : (vals r).length = (dg r).length := by simp [dg]
theorem bv_ci (l : List Int) : (bv l).map ci = l := by
  induction l with
  | nil => rfl
  | cons a l ih =>
    simp only [bv, List.map_cons] at ih ⊢
    rw [ih]; rfl
theorem bok_of {r : Row} {l : List Int} (h : vals r = bv l) : BOK r ∧ dg r = l := by
  have e : dg r = l := by rw [dg, h, bv_ci]
  exact ⟨⟨by rw [e, h]⟩, e⟩
theorem rdv_nil : rdv (sv Row.nil) .free = dg Row.nil := rfl
theorem bok_nil : BOK Row.nil := ⟨rfl⟩
theorem bok_mk0 (b : Nat) (ex : List Value) : BOK (Row.mk b [] ex) := ⟨rfl⟩
theorem bok_lit (b : Nat) (l : List Int) (ex : List Value) : BOK (Row.mk b (bv l) ex) := ⟨by show bv l = bv ((bv l).map ci); rw [bv_ci]⟩
theorem bok_app {r y : Row} {l : List Int} (hr : BOK r) (h : vals y = vals r ++ bv l) : BOK y ∧ (dg y).length = (dg r).length + l.length ∧ dg y = dg r ++ l := by
  have e : vals y = bv (dg r ++ l) := by rw [h, hr.eq, bv, bv, bv, List.map_append]
  obtain ⟨h1, h2⟩ := bok_of e
  exact ⟨h1, by rw [h2, List.length_append], h2⟩
theorem srcv_row (r : Row) (e : TypeId) : srcv (sv r) (ss e r) = vals r := by
  cases r with
  | nil => rfl
  | mk b vs ex => simp [srcv, sv, ss, vals, vlen, voff, scells]
theorem oneAll {l : List Value} (h : l.all (·.oneCell') = true) : ∀ u ∈ l, u.oneCell' = true := List.all_eq_true.1 h
theorem bv_one (l : List Int) : ∀ u ∈ bv l, u.oneCell' = true := by
  intro u hu
  obtain ⟨n, _, rfl⟩ := List.mem_map.1 hu
  rfl
theorem xappNR {P : Program} {t e : TypeId} {z : Value} (h : SlT P t e z) (ty : TypeId) (r : Row) (hl : (vals r).length ≤ 1073741824) {c o m cap : Nat} {cs : Array Value} {te : TypeId} (hm : o + m ≤ cs.size) (hm1 : m ≤ 1073741824)
    (h2 : (srcv (.slice (some ⟨c, o, none⟩) m cap) (.blk c (.cells cs te (0, 0)))).all (·.oneCell') = true) :
    OpT P (do pure (.value (← Builtin.append_ #[t, t] ty #[sv r, .slice (some ⟨c, o, none⟩) m cap]))) [ss e r, .blk c (.cells cs te (0, 0))] Row sv (fun y => [ss e y, .blk c (.cells cs te (0, 0))])
      (fun y => vals y = rvals (sv r) (ss e r) ++ srcv (.slice (some ⟨c, o, none⟩) m cap) (.blk c (.cells cs te (0, 0)))) := by
  rw [rvals_eq]
  refine xappN h ty r hl ?_ hm1 ?_ (oneAll h2)
  · simp [srcv, vlen, voff, scells]; omega
  · intro j u hu
    simp only [srcv, vlen, voff, scells] at hu
    rw [List.getElem?_take] at hu
    split at hu
    · rw [List.getElem?_drop] at hu; simpa using hu
    · cases hu
theorem xappRow {P : Program} {t e : TypeId} {z : Value} (h : SlT P t e z) (ty : TypeId) (r : Row) (hl : (vals r).length ≤ 1073741824) (q : Row) (hq : (vals q).length ≤ 1073741824) (h2 : ∀ u ∈ vals q, u.oneCell' = true) :
    OpT P (do pure (.value (← Builtin.append_ #[t, t] ty #[sv r, sv q]))) [ss e r, ss e q] Row sv (fun y => [ss e y, ss e q])
      (fun y => vals y = rvals (sv r) (ss e r) ++ srcv (sv q) (ss e q)) := by
  rw [rvals_eq, srcv_row]
  cases q with
  | nil =>
    intro R w ho
    obtain ⟨i, hi, hz, hs, hby⟩ := h.info
    refine ⟨r, w, by simp [vals], .inl ?_, ho, Ext.refl w⟩
    cases r with
    | nil => simp [sv, Builtin.append_, run_underlying h.und, sizeOf, typeInfo, hi, Builtin.lenOf, Builtin.firstCells]
    | mk b vs ex => simp [sv, Builtin.append_, run_underlying h.und, sizeOf, typeInfo, hi, Builtin.lenOf, Builtin.firstCells, storeCells]
  | mk b vs ex =>
    simp only [vals] at hq h2 ⊢
    refine xappN h ty r hl (news := vs) rfl hq ?_ h2
    intro j u hu
    have hj : j < vs.length := by
      rcases Nat.lt_or_ge j vs.length with h | h
      · exact h
      · simp [List.getElem?_eq_none h] at hu
    simp [List.getElem?_append_left hj, hu]
theorem xappZR {P : Program} {t u e : TypeId} {z : Value} (h : SlT P t e z) {ku : IntKind} (hu : P.underlying u = some (.int ku)) (hz1 : z.oneCell' = true) (ty : TypeId) (r : Row) (hl : (vals r).length ≤ 1048576) (k : IntKind) (n : Int) (h0 : 0 ≤ n) (h1 : n ≤ 1048576) (hr0 : r ≠ .nil) :
    OpT P (do pure (.value (← Builtin.append_ #[t, u] ty #[sv r, .int k n]))) [ss e r] Row sv (fun y => [ss e y]) (fun y => vals y = rvals (sv r) (ss e r) ++ List.replicate n.toNat z) := by
  rw [rvals_eq]
  exact xappZ h hu hz1 ty r hl k n h0 h1 hr0
theorem wit_appN (l : List Value) : ∃ y : Row, (fun zx => vals zx = l) y := ⟨.mk 0 l [], rfl⟩
/-! ### 32 bytes, as a value -/
def hV (f : Nat → Int) : Value := .agg #[.int .u8 (f 0), .int .u8 (f 1), .int .u8 (f 2), .int .u8 (f 3), .int .u8 (f 4), .int .u8 (f 5), .int .u8 (f 6), .int .u8 (f 7), .int .u8 (f 8), .int .u8 (f 9), .int .u8 (f 10), .int .u8 (f 11), .int .u8 (f 12), .int .u8 (f 13), .int .u8 (f 14), .int .u8 (f 15), .int .u8 (f 16), .int .u8 (f 17), .int .u8 (f 18), .int .u8 (f 19), .int .u8 (f 20), .int .u8 (f 21), .int .u8 (f 22), .int .u8 (f 23), .int .u8 (f 24), .int .u8 (f 25), .int .u8 (f 26), .int .u8 (f 27), .int .u8 (f 28), .int .u8 (f 29), .int .u8 (f 30), .int .u8 (f 31)]
def ib4 (m0 m1 m2 m3 : Int) (i : Nat) : Int := IntKind.u8.wrap (Int.fdiv (match (31 - i) / 8 with | 0 => m0 | 1 => m1 | 2 => m2 | _ => m3) (2 ^ (8 * ((31 - i) % 8))))
def nb1 (x : Int) : List Int := [IntKind.u8.wrap (Int.fdiv x (2 ^ 0))]
def nb4 (x : Int) : List Int := [IntKind.u8.wrap (Int.fdiv x (2 ^ 24)), IntKind.u8.wrap (Int.fdiv x (2 ^ 16)), IntKind.u8.wrap (Int.fdiv x (2 ^ 8)), IntKind.u8.wrap (Int.fdiv x (2 ^ 0))]
def l32 (f : Nat → Int) : List Int := [f 0, f 1, f 2, f 3, f 4, f 5, f 6, f 7, f 8, f 9, f 10, f 11, f 12, f 13, f 14, f 15, f 16, f 17, f 18, f 19, f 20, f 21, f 22, f 23, f 24, f 25, f 26, f 27, f 28, f 29, f 30, f 31]
theorem wit_bok {r L : List Int} {n : Nat} (h : L.length = n) : ∃ x : Row, (fun zx => BOK zx ∧ (dg zx).length = r.length + n ∧ dg zx = r ++ L) x :=
  ⟨.mk 0 (bv (r ++ L)) [], bok_lit _ _ _, by show ((bv (r ++ L)).map ci).length = _; rw [bv_ci, List.length_append, h], by show (bv (r ++ L)).map ci = _; rw [bv_ci]⟩
theorem wit_bok0 {r : List Int} : ∃ x : Row, (fun zx => BOK zx ∧ (dg zx).length = r.length ∧ dg zx = r) x :=
  ⟨.mk 0 (bv r) [], bok_lit _ _ _, by show ((bv r).map ci).length = _; rw [bv_ci], by show (bv r).map ci = _; rw [bv_ci]⟩
theorem wit_bok1 {r : List Int} {n : Nat} (h : r.length = n) : ∃ x : Row, (fun zx => BOK zx ∧ (dg zx).length = n ∧ dg zx = r) x :=
  ⟨.mk 0 (bv r) [], bok_lit _ _ _, by show ((bv r).map ci).length = _; rw [bv_ci, h], by show (bv r).map ci = _; rw [bv_ci]⟩
theorem l32_length (f : Nat → Int) : (l32 f).length = 32 := rfl
end Go.Sx
namespace Go.Sx
def F_bs1 (e : TypeId) : List Value → List Slot → Ctr := fun vs _ => ⟨Nat, fun b => .slice (some ⟨b, 0, none⟩) 1 1, fun b => [.blk b (.cells #[varg vs 0] e (0, 0))], fun _ => True⟩
theorem xbs1 {P : Program} {t e : TypeId} {z : Value} (ht : P.underlying t = some (.slice e)) (h3 : (P.info? e).bind (·.zero) = some z) (h4 : (P.info? e).map (·.size) = some 1) (hzc : z.cells = #[z]) (v : Value) (hv : v.cells = #[v]) :
    OpT P (do pure (.value (← Instr.buildSlice t 1 #[(0, v)]))) [] Nat (fun b => .slice (some ⟨b, 0, none⟩) 1 1) (fun b => [.blk b (.cells #[v] e (0, 0))]) (fun _ => True) := by
  intro R w ho
  obtain ⟨i, hi, hz, hs⟩ : ∃ i, P.info? e = some i ∧ i.zero = some z ∧ i.size = 1 := by
    cases hi : P.info? e with
    | none => rw [hi] at h3; cases h3
    | some i =>
      rw [hi] at h3 h4
      simp at h3 h4
      exact ⟨i, rfl, h3, h4⟩
  refine ⟨w.heap.size, w.alloc (.cells #[v] e), trivial, .inl ?_, ?_, ⟨rfl, rfl, rfl, by simp, by first | exact Nat.le_refl _ | exact Nat.le_succ _ | simp⟩⟩
  · simp [Instr.buildSlice, run_underlying ht, sizeOf, typeInfo, zeroValue, hi, hz, hs, hzc, Instr.fill, hv, newRow]
    refine congrArg (fun a => w.alloc (Obj.cells a e)) (Array.ext (by simp) fun j h1 h2 => ?_)
    have hj : j = 0 := by simp at h2; exact h2
    subst hj
    simp
  · have := ho.new (w' := w.alloc (.cells #[v] e)) (i := 0) (heap_alloc_new w _) (fun c hc => heap_alloc_old w _ c hc)
    refine (congrArg (fun H => Own H R (w.alloc (.cells #[v] e))) ?_).mp this
    funext j
    cases j with
    | zero => simp [upd, ofList]
    | succ j => rfl
end Go.Sx

namespace Go.Sx
open Go.RowKit
def iL (xi xt xo m0 m1 m2 m3 : Int) : List Int := nb4 (IntKind.u64.wrap xi) ++ nb1 (IntKind.u64.wrap xt) ++ nb1 (IntKind.u64.wrap xo) ++ l32 (ib4 m0 m1 m2 m3)
theorem iL_length (xi xt xo m0 m1 m2 m3 : Int) : (iL xi xt xo m0 m1 m2 m3).length = 38 := rfl
def rblk (r : Row) : Nat := vblk (sv r)
def rcap (r : Row) : Nat := vcap (sv r)
def rcs (r : Row) : Array Value := scells (ss 5 r)
theorem row_some {r : Row} (h : 0 < (dg r).length) : ∃ b vs ex, r = .mk b vs ex := by
  cases r with
  | nil => simp [dg, vals] at h
  | mk b vs ex => exact ⟨b, vs, ex, rfl⟩
theorem sv_some {r : Row} {n : Nat} (h : 0 < (dg r).length) (hn : (dg r).length = n) : sv r = .slice (some ⟨rblk r, 0, none⟩) n (rcap r) := by
  obtain ⟨b, vs, ex, rfl⟩ := row_some h
  rw [← hn, ← vals_len]; rfl
theorem ss_some {r : Row} (h : 0 < (dg r).length) : ss 5 r = .blk (rblk r) (.cells (rcs r) 5 (0, 0)) := by
  obtain ⟨b, vs, ex, rfl⟩ := row_some h
  rfl
theorem rcap_le {r : Row} : (dg r).length ≤ rcap r := by
  cases r with
  | nil => simp [dg, vals]
  | mk b vs ex => simp [dg, vals, rcap, sv, vcap]
theorem xtakeB {P : Program} {t : TypeId} {z : Value} (h : SlT P t 5 z) (r : Row) {n m : Nat} (hn : (dg r).length = n) (hm : m ≤ n) (h0 : 0 < n) (k : IntKind) :
    OpT P (do pure (.value (← Instr.sliceAt t (sv r) none (some (.int k (m : Nat))) none))) [ss 5 r] Unit (fun _ => .slice (some ⟨rblk r, 0, none⟩) m (rcap r)) (fun _ => [.blk (rblk r) (.cells (rcs r) 5 (0, 0))]) (fun _ => True) := by
  have hc := rcap_le (r := r)
  have h1 := xpart_h h ⟨rblk r, 0, none⟩ n (rcap r) k (m : Nat) m rfl (by omega)
  rw [← sv_some (by omega) hn] at h1
  rw [← ss_some (by omega)]
  exact fun _ w hO => ⟨(), w, trivial, .inl (h1 w), hO, Ext.refl w⟩
theorem xdropB {P : Program} {t e : TypeId} {z : Value} (h : SlT P t e z) (r : Row) {n m : Nat} (hn : (dg r).length = n) (hm : m ≤ n) (h0 : 0 < n) (k : IntKind) :
    PureRun P (do pure (.value (← Instr.sliceAt t (sv r) (some (.int k (m : Nat))) none none))) (.slice (some ⟨rblk r, if rcap r = m then 0 else m, none⟩) (n - m) (rcap r - m)) := by
  have h1 := xpart_l h (rblk r) 0 n (rcap r) k (m : Nat) m rfl hm
  rw [← sv_some (by omega) hn, Nat.zero_add] at h1
  exact h1
def F_takeB (n : Nat) : List Value → List Slot → Ctr := fun vs hs => ⟨Unit, fun _ => .slice (some ⟨vblk (varg vs 0), 0, none⟩) n (vcap (varg vs 0)), fun _ => [.blk (vblk (varg vs 0)) (.cells (scells (sarg hs 0)) 5 (0, 0))], fun _ => True⟩
def f_dropB (n m : Nat) : List Value → Value := fun vs => .slice (some ⟨vblk (varg vs 0), if vcap (varg vs 0) = n then 0 else n, none⟩) m (vcap (varg vs 0) - n)
def lf (l : List Int) : Nat → Int := fun k => l.getD k 0
theorem row_src {r : Row} (hb : BOK r) (hn : (dg r).length = 64) : SrcOK (rcs r) 0 ∧ ∀ k, k < 64 → qf (rcs r) 0 k = lf (dg r) k := by
  obtain ⟨b, vs, ex, rfl⟩ := row_some (r := r) (by omega)
  have hv : vs = bv (dg (.mk b vs ex)) := hb.eq
  have g : ∀ k, k < 64 → (rcs (.mk b vs ex))[0 + k]? = some (.int .u8 (lf (dg (.mk b vs ex)) k)) := by
    intro k hk
    have hl : k < vs.length := by
      have := vals_len (.mk b vs ex); simp only [vals] at this; omega
    have e1 : (rcs (.mk b vs ex))[0 + k]? = vs[k]? := by simp [rcs, ss, scells, List.getElem?_append_left hl]
    have hk' : k < (dg (.mk b vs ex)).length := by omega
    have e2 : vs[k]? = (bv (dg (.mk b vs ex)))[k]? := congrArg (fun l : List Value => l[k]?) hv
    rw [e1, e2]
    simp [bv, lf, hk', List.getElem?_eq_getElem hk']
  have g2 : ∀ k, k < 64 → qf (rcs (.mk b vs ex)) 0 k = lf (dg (.mk b vs ex)) k := by
    intro k hk
    have := g k hk
    unfold qf
    rw [Array.getD_eq_getD_getElem?, this]; rfl
  exact ⟨fun k hk => by rw [g k hk, g2 k hk], g2⟩
theorem cat4_congr {q q' : Nat → Int} {i : Nat} : ∀ n, (∀ k, k < n → q (4 * i + k) = q' (4 * i + k)) → cat4 q i n = cat4 q' i n
  | 0, _ => rfl
  | n + 1, h => by rw [cat4, cat4, cat4_congr n (fun k hk => h k (by omega)), h n (by omega)]
theorem wl_congr {q q' : Nat → Int} (h : ∀ k, k < 64 → q k = q' k) : ∀ i, wl q i = wl q' i
  | 0 => rfl
  | i + 1 => by
    rw [wl, wl, wl_congr h i]
    by_cases hi : i < 16
    · rw [if_pos hi, if_pos hi, cat4_congr 4 (fun k hk => h _ (by omega))]
    · rw [if_neg hi, if_neg hi]
theorem take8_congr {K : List Int} {q q' : Nat → Int} {s : S8} (h : ∀ k, k < 64 → q k = q' k) : take8 K q s = take8 K q' s := by
  unfold take8; rw [wl_congr h]
def S8.nth (s : S8) : Nat → Int
  | 0 => s.a | 1 => s.b | 2 => s.c | 3 => s.d | 4 => s.e | 5 => s.f | 6 => s.g | _ => s.h
def sumf (s : S8) (i : Nat) : Int := IntKind.u8.wrap (Int.fdiv (s.nth (i / 4)) (2 ^ (24 - 8 * (i % 4))))
def tail43 : List Int := [128, 0, 0, 0, 0, 0, 0, 0, 0, 0, 0, 0, 0, 0, 0, 0, 0, 0, 0, 1, 88]
def S8.ofl (l : List Int) : S8 := ⟨l.getD 0 0, l.getD 1 0, l.getD 2 0, l.getD 3 0, l.getD 4 0, l.getD 5 0, l.getD 6 0, l.getD 7 0⟩
def sum43 (l : List Int) : Nat → Int := sumf (take8 shaK (lf (l ++ tail43)) (S8.ofl shaH))
/-- An intent's id. -/
def idF (xi xt xo m0 m1 m2 m3 : Int) : Nat → Int := sum43 ([3, 0, 0, 0, 38] ++ iL xi xt xo m0 m1 m2 m3)
end Go.Sx

namespace Go.Sx
open Go.RowKit
theorem all_range_ints : ∀ (xs ys : List Int), xs.length = ys.length → ((List.range xs.length).all fun i => xs.getD i 0 == ys.getD i 0) = decide (xs = ys)
  | [], [], _ => rfl
  | x :: xs, y :: ys, h => by
    have ih := all_range_ints xs ys (by simpa using h)
    rw [List.length_cons, List.range_succ_eq_map, List.all_cons, List.all_map]
    simp only [List.getD_cons_zero, Function.comp_def, List.getD_cons_succ, ih]
    rw [Bool.eq_iff_iff]
    simp
  | [], _ :: _, h => by simp at h
  | _ :: _, [], h => by simp at h
theorem part_arrV {P : Program} {e : TypeId} {k : IntKind} {xs : List Int} {i : Nat} (ha : ∀ w, (isAgg e).run P w = .ok false w) (hi : i < xs.length) (w : World) : (part e (arrV k xs) (i * 1)).run P w = .ok (.int k (xs.getD i 0)) w := by
  have hg : (arrV k xs)[i]? = some (.int k (xs.getD i 0)) := by simp [arrV, hi]
  simp [part, ha w, hg]
theorem eq_arrn {P : Program} {t e : TypeId} {n : Nat} {k : IntKind} (w : World) (d : Nat) (ht : P.underlying t = some (.array n e)) (he : P.underlying e = some (.int k)) (ha : ∀ w, (isAgg e).run P w = .ok false w) (hsz : ∀ w, (sizeOf e).run P w = .ok 1 w)
    (xs ys : List Int) (hx : xs.length = n) (hy : ys.length = n) : (Op.equalIn (d + 2) t (.agg (arrV k xs)) (.agg (arrV k ys))).run P w = .ok (decide (xs = ys)) w := by
  rw [← all_range_ints xs ys (hx.trans hy.symm), hx, List.range_eq_range', Op.equalIn]
  simp only [Sem.run_bind, run_underlying ht, Result.andThen_ok, hsz, Std.Legacy.Range.forIn_eq_forIn_range', Std.Legacy.Range.size, Nat.sub_zero, Nat.add_sub_cancel, Nat.div_one]
  have hl : ∀ i ∈ List.range' 0 n 1, i < n := fun i hi => by simpa using (List.mem_range'_1.1 hi).2
  generalize List.range' 0 n 1 = l at hl ⊢
  induction l with
  | nil => simp
  | cons i l ih =>
    have hi : i < n := hl i (by simp)
    have px := part_arrV (k := k) (xs := xs) ha (show i < xs.length by omega) w
    have py := part_arrV (k := k) (xs := ys) ha (show i < ys.length by omega) w
    have pe : (Op.equalIn (d + 1) e (.int k (xs.getD i 0)) (.int k (ys.getD i 0))).run P w = .ok (xs.getD i 0 == ys.getD i 0) w := by
      have := run_equalIn_int (P := P) w d e k k (xs.getD i 0) (ys.getD i 0) he
      simpa using this
    simp only [List.forIn_cons, Sem.run_bind, px, py, pe, Result.andThen_ok, List.all_cons]
    cases hb : (xs.getD i 0 == ys.getD i 0)
    · simp
    · simp only [Bool.not_true, Bool.false_eq_true, if_false, Sem.run_pure, Result.andThen_ok, Bool.true_and]
      exact ih fun j hj => hl j (by simp [hj])
theorem check_arrn {P : Program} {t e : TypeId} {n : Nat} {k : IntKind} (w : World) (b : Bool) (d : Nat) (ht : P.underlying t = some (.array n e)) (he : P.underlying e = some (.int k)) (ha : ∀ w, (isAgg e).run P w = .ok false w) (hsz : ∀ w, (sizeOf e).run P w = .ok 1 w)
    (xs : List Int) (hx : xs.length = n) : (Instr.checkKey b (d + 2) t (.agg (arrV k xs))).run P w = .ok () w := by
  rw [Instr.checkKey]
  simp only [Sem.run_bind, run_underlying ht, Result.andThen_ok, hsz, Std.Legacy.Range.forIn_eq_forIn_range', Std.Legacy.Range.size, Nat.sub_zero, Nat.add_sub_cancel, Nat.div_one]
  have hl : ∀ i ∈ List.range' 0 n 1, i < n := fun i hi => by simpa using (List.mem_range'_1.1 hi).2
  generalize List.range' 0 n 1 = l at hl ⊢
  induction l with
  | nil => simp
  | cons i l ih =>
    have hi : i < n := hl i (by simp)
    have px := part_arrV (k := k) (xs := xs) ha (show i < xs.length by omega) w
    have pc : (Instr.checkKey b (d + 1) e (.int k (xs.getD i 0))).run P w = .ok () w := by
      rw [Instr.checkKey]
      simp only [Sem.run_bind, run_underlying he, Result.andThen_ok, Sem.run_pure]
    simp only [List.forIn_cons, Sem.run_bind, hsz, Result.andThen_ok, px, pc, Sem.run_pure]
    exact ih fun j hj => hl j (by simp [hj])
theorem hV_arr (f : Nat → Int) : hV f = .agg (arrV .u8 (l32 f)) := rfl
theorem l32_inj {f g : Nat → Int} (h : hV f = hV g) : l32 f = l32 g := by
  rw [hV_arr, hV_arr] at h
  injection h with h
  have e : ∀ l : List Int, (arrV .u8 l).toList.map ci = l := by
    intro l
    simp only [arrV]
    exact bv_ci l
  rw [← e (l32 f), ← e (l32 g), h]
theorem kl_arr32 {P : Program} {kt e : TypeId} (hu : P.underlying kt = some (.array 32 e)) (he : P.underlying e = some (.int .u8)) (ha : ∀ w, (isAgg e).run P w = .ok false w) (hsz : ∀ w, (sizeOf e).run P w = .ok 1 w) :
    KL P kt (fun v => ∃ f : Nat → Int, v = hV f) := by
  refine KL.of_asking hu ?_ ?_ ?_ ?_
  · rintro b _ w ⟨f, rfl⟩; exact check_arrn w b 9998 hu he ha hsz (l32 f) rfl
  · rintro _ _ ⟨f, rfl⟩ ⟨g, rfl⟩; rfl
  · rintro _ _ w ⟨f, rfl⟩ ⟨g, rfl⟩
    have h := eq_arrn w 9998 hu he ha hsz (l32 f) (l32 g) rfl rfl
    show (Op.equalIn 10000 kt (hV f) (hV g)).run P w = _
    rw [hV_arr f, hV_arr g, h]
    refine congrArg (fun b => Result.ok b w) ?_
    rw [← hV_arr f, ← hV_arr g]
    by_cases hfg : hV f = hV g
    · simp [hfg, l32_inj hfg]
    · have : l32 f ≠ l32 g := fun h => hfg (by rw [hV_arr, hV_arr, h])
      simp [hfg, this]
  · rintro _ ⟨f, rfl⟩
    show Instr.sameBits (9999 + 1) _ _ = true
    simp [Instr.sameBits, hV]
/-- Two bytes, as a value. -/
def tV (v : Int × Int) : Value := .agg #[.int .u8 v.1, .int .u8 v.2]
def unT (x : Value) : Int × Int := (ci (cell x 0), ci (cell x 1))
theorem unT_tV (v : Int × Int) : unT (tV v) = v := rfl
end Go.Sx

namespace Go.Sx
open Go.RowKit
noncomputable def tkF (m : KV) (k : Value) (o : Int) : Int × Int := match mget m k with | some v => unT v | none => (o, 0)
theorem tkF_some {m : KV} {k : Value} {o : Int} {x : (Int × Int) × Bool} (h : x.1 = unT ((mget m k).getD (tV (0, 0))) ∧ x.2 = (mget m k).isSome) (h2 : x.2 = true) : tkF m k o = x.1 := by
  obtain ⟨h1, h3⟩ := h
  rw [h2] at h3
  unfold tkF
  cases hg : mget m k with
  | none => rw [hg] at h3; cases h3
  | some v => rw [h1, hg]; rfl
theorem tkF_none {m : KV} {k : Value} {o : Int} {x : (Int × Int) × Bool} (h : x.1 = unT ((mget m k).getD (tV (0, 0))) ∧ x.2 = (mget m k).isSome) (h2 : x.2 = false) : tkF m k o = (o, 0) := by
  obtain ⟨h1, h3⟩ := h
  rw [h2] at h3
  unfold tkF
  cases hg : mget m k with
  | none => rfl
  | some v => rw [hg] at h3; cases h3
/-- May an intent not be? -/
def inBad (xt xo m0 m1 m2 m3 : Int) : Bool := decide (xt ≥ 4) || (decide (xo ≥ 16) || (m0 == (0 : Int) && (m1 == (0 : Int) && (m2 == (0 : Int) && (m3 == (0 : Int))))))
def mvC (bad right : Bool) (t : Int × Int) (fr : Int) : Int := bif bad then 6 else bif !right then 1 else bif t.2 != 0 then 12 else bif t.1 != fr then 13 else 0
def pyC (bad right : Bool) (t : Int × Int) : Int := bif bad then 6 else bif !right then 1 else bif t.2 != 0 then 12 else 0
noncomputable def setIf (c : Int) (m : KV) (k v : Value) : KV := bif c == 0 then mset m k v else m
def addIf (c : Int) (L : List Ent) (e : Ent) : List Ent := bif c == 0 then L ++ [e] else L
theorem bifneT {c : Bool} {n : Int} (h : c = true) (hn : (n != 0) = true) : ((bif c then n else 0) != (0 : Int)) = true := by rw [h]; exact hn
theorem bifneF {c : Bool} {n : Int} (h : c = false) : ((bif c then n else 0) != (0 : Int)) = false := by rw [h]; rfl
theorem xeq4w {P : Program} {t e : TypeId} (hg : P.eqGuardType P.depth t = false) (he : P.underlying e = some (.int .u64)) (ha : ∀ w, (isAgg e).run P w = .ok false w) (hs : ∀ w, (sizeOf e).run P w = .ok 1 w) (hu : P.underlying t = some (.array 4 e)) (a0 a1 a2 a3 b0 b1 b2 b3 : Int) :
    PureRun P (xBin .eql t (.agg #[.int .u64 a0, .int .u64 a1, .int .u64 a2, .int .u64 a3]) (.agg #[.int .u64 b0, .int .u64 b1, .int .u64 b2, .int .u64 b3])) (.bool (a0 == b0 && (a1 == b1 && (a2 == b2 && (a3 == b3))))) := by
  intro w
  have h := eq_arr4 hu he ha hs a0 a1 a2 a3 b0 b1 b2 b3 w
  have g : (eqGuard .eql t (.const (.agg #[.int .u64 a0, .int .u64 a1, .int .u64 a2, .int .u64 a3])) (.const (.agg #[.int .u64 b0, .int .u64 b1, .int .u64 b2, .int .u64 b3])) (.agg #[.int .u64 a0, .int .u64 a1, .int .u64 a2, .int .u64 a3]) (.agg #[.int .u64 b0, .int .u64 b1, .int .u64 b2, .int .u64 b3])).run P w = .ok () w := run_eqGuard_agg (w := w) .eql t _ _ _ _ hg
  have q : (binOp .eql t (.agg #[.int .u64 a0, .int .u64 a1, .int .u64 a2, .int .u64 a3]) (.agg #[.int .u64 b0, .int .u64 b1, .int .u64 b2, .int .u64 b3])).run P w = .ok (.bool (a0 == b0 && (a1 == b1 && (a2 == b2 && (a3 == b3))))) w := by
    rw [run_eql_struct, h]; rfl
  simp [xBin, Sem.run_bind, g, q]
end Go.Sx

namespace Go.Sx
open Go.RowKit
noncomputable def slast (s : Slot) : Value := match s with | .par _ (.vals ks) _ => ks.getLast?.getD undef | _ => undef
theorem xfirst' {P : Program} (m : KV) (x : Option Value) : PureRun P (do pure (.value (← Instr.extract (nxv m x) 0))) (.bool (cb (cell (nxv m x) 0))) := by
  have h := xfirst (P := P) m x
  have e : cb (cell (nxv m x) 0) = x.isSome := by cases x <;> rfl
  rw [e]; exact h
theorem nx_some {m : KV} {x : Option Value} (h : cb (cell (nxv m x) 0) = true) : x.isSome = true := by
  cases x with
  | none => cases h
  | some k => rfl
theorem nx_none {m : KV} {x : Option Value} (h : cb (cell (nxv m x) 0) = false) : x.isSome = false := by
  cases x with
  | none => rfl
  | some k => cases h
theorem slast_some {r it : Nat} {m : KV} {ks : List Value} {x : Option Value} (h : x.isSome = true) : slast (mitE r it m ks x) = x.getD undef := by
  cases x with
  | none => cases h
  | some k => simp [mitE, mit, bun, slast]
theorem xentry' {P : Program} {r it : Nat} {m : KV} {ks : List Value} (hm : MOK m) {x : Option Value} (hx : x.isSome = true) :
    OpT P (do pure (.value (← Instr.entry (.pointer (some ⟨it, 0, none⟩))))) [mitE r it m ks x] Unit (fun _ => .tuple #[slast (mitE r it m ks x), (mget m (slast (mitE r it m ks x))).getD undef]) (fun _ => [mitE r it m ks x]) (fun _ => True) := by
  rw [slast_some hx]; exact xentry hm hx
theorem wit_next {m : KV} (hm : MOK m) {ks : List Value} (hN : ks.Nodup ∧ ∀ k ∈ ks, k ∈ m.map (·.1)) : ∃ x : Option Value, (fun zx => nxP m ks zx) x := by
  by_cases h : ∃ k, k ∉ ks ∧ k ∈ m.map (·.1)
  · obtain ⟨k, hk⟩ := h; exact ⟨some k, hk⟩
  · refine ⟨none, ?_⟩
    show ks.Perm (m.map (·.1))
    refine (List.perm_ext_iff_of_nodup hN.1 hm).2 fun a => ⟨hN.2 a, fun ha => ?_⟩
    by_cases hk : a ∈ ks
    · exact hk
    · exact absurd ⟨a, hk, ha⟩ h
theorem keys_step {m : KV} {ks : List Value} {k : Value} (h : ks.Nodup ∧ ∀ k ∈ ks, k ∈ m.map (·.1)) (hk : k ∉ ks ∧ k ∈ m.map (·.1)) : (ks ++ [k]).Nodup ∧ ∀ j ∈ ks ++ [k], j ∈ m.map (·.1) := by
  refine ⟨?_, fun j hj => ?_⟩
  · rw [List.nodup_append]
    exact ⟨h.1, by simp, fun a ha b hb => by simp at hb; subst hb; exact fun e => hk.1 (e ▸ ha)⟩
  · rcases List.mem_append.1 hj with hj | hj
    · exact h.2 j hj
    · simp at hj; subst hj; exact hk.2
theorem sub_len : ∀ (ks L : List Value), ks.Nodup → (∀ k ∈ ks, k ∈ L) → ks.length ≤ L.length
  | [], _, _, _ => Nat.zero_le _
  | k :: ks, L, hn, hs => by
    rw [List.nodup_cons] at hn
    have hk : k ∈ L := hs k (List.mem_cons_self ..)
    have h1 := sub_len ks (L.erase k) hn.2 (fun j hj => (List.mem_erase_of_ne (fun e => hn.1 (by rw [← e]; exact hj))).2 (hs j (List.mem_cons_of_mem _ hj)))
    rw [List.length_erase_of_mem hk] at h1
    have : 0 < L.length := List.length_pos_of_mem hk
    simp only [List.length_cons]
    omega
theorem keys_len {m : KV} {ks : List Value} (h : ks.Nodup ∧ ∀ k ∈ ks, k ∈ m.map (·.1)) : ks.length ≤ m.length := by
  have := sub_len ks _ h.1 h.2
  simpa using this
theorem keys_mu {m : KV} {ks : List Value} {k : Value} (h : ks.Nodup ∧ ∀ k ∈ ks, k ∈ m.map (·.1)) (hk : k ∉ ks ∧ k ∈ m.map (·.1)) : m.length - (ks ++ [k]).length < m.length - ks.length := by
  have := keys_len (keys_step h hk)
  simp at this ⊢
  omega
theorem keys_yield {P : Program} {l : Nat} {L : Slot} {r it : Nat} {m : KV} {ks : List Value} {x : Option Value} {T : List Value → Slot} (hx : nxP m ks x) (hs : x.isSome = true)
    (hT : ∀ k, k ∉ ks → k ∈ m.map (·.1) → RoundT P l #[k] [L, T ks] Unit (fun _ => .bool true) (fun _ => [L, T (ks ++ [k])]) (fun _ => True)) :
    RoundT P l #[slast (mitE r it m ks x)] [L, T ks] Unit (fun _ => .bool true) (fun _ => [L, T (ks ++ [slast (mitE r it m ks x)])]) (fun _ => True) := by
  rw [slast_some hs]
  have := nxP_some hx hs
  exact hT _ this.1 this.2
theorem range_keys {P : Program} {n : Nat} {g : Operand} {ps : Array Tmp} {A B : Code} {fr : Nat → Value} {gf c r b2 : Nat} {m : KV} {mt ty e : TypeId} (hg : evalF fr g = .func (.func gf) #[] #[.pointer (some ⟨c, 0, none⟩)]) (hm : MOK m) (hl : m.length ≤ 1048576)
    (hit : ∀ (l : Nat) (rec : Loop) (T : List Value → Slot), (∀ (ks : List Value) (k : Value), (ks.Nodup ∧ ∀ j ∈ ks, j ∈ m.map (·.1)) → k ∉ ks → k ∈ m.map (·.1) → RoundT P l #[k] [loopB l rec, T ks] Unit (fun _ => .bool true) (fun _ => [loopB l rec, T (ks ++ [k])]) (fun _ => True)) →
      CallT P gf #[.func (.yield l) #[] #[], .pointer (some ⟨c, 0, none⟩)] [loopB l rec, .blk c (.cells #[.map (some r)] mt (0, 0)), mo r m, T []] (List Value) (fun _ => undef) (fun ks => [loopB l rec, .blk c (.cells #[.map (some r)] mt (0, 0)), mo r m, T ks]) (fun ks => ks.Perm (m.map (·.1))))
    (hround : ∀ (l D : Nat) (fn : FuncId) (tmps : Array Value) (y : Row) (k : Value), k ∈ m.map (·.1) → (vals y).length ≤ 1048576 → tmps.size = n → (∀ i, tmps.getD i undef = fr i) →
      RoundT P l #[k] (loopB l (recOf fn tmps ps A B D) :: [.blk b2 (.cells #[sv y] ty (0, 0)), ss e y]) Row (fun _ => .bool true) (fun z => loopB l (recOf fn tmps ps A B D) :: [.blk b2 (.cells #[sv z] ty (0, 0)), ss e z]) (fun z => vals z = vals y ++ [k])) :
    RangeT P n g ps A B fr [.blk c (.cells #[.map (some r)] mt (0, 0)), mo r m, .blk b2 (.cells #[.slice none 0 0] ty (0, 0))] Row
      (fun x => [.blk c (.cells #[.map (some r)] mt (0, 0)), mo r m, .blk b2 (.cells #[sv x] ty (0, 0)), ss e x]) (fun x => (vals x).Perm (m.map (·.1))) := by
  refine range_of (val := fun _ => undef) hg fun l D fn tmps hz hf => ?_
  refine (hit l (recOf fn tmps ps A B D) (fun ks => rowS b2 ty e ks) fun ks k hN hk hkm => ?_).imp ?_ ?_
  · refine round_row fun y hy => ?_
    have h1 := hround l D fn tmps y k hkm (by rw [hy]; exact Nat.le_trans (keys_len hN) hl) hz hf
    rw [hy] at h1
    exact h1
  · exact Imp.tail _ (Imp.tail _ (Imp.tail _ (rowS_nil [])))
  · intro ks R w hp ho
    have h1 : Own (ofList ([loopB l (recOf fn tmps ps A B D), .blk c (.cells #[.map (some r)] mt (0, 0)), mo r m] ++ [rowS b2 ty e ks])) R w := ho
    obtain ⟨y, hy, h2⟩ := rowS_open (Imp.swap _ [rowS b2 ty e ks] R w h1)
    refine ⟨y, by rw [hy]; exact hp, rfl, ?_⟩
    exact Imp.swap [.blk b2 (.cells #[sv y] ty (0, 0)), ss e y] [loopB l (recOf fn tmps ps A B D), .blk c (.cells #[.map (some r)] mt (0, 0)), mo r m] R w h2
end Go.Sx
