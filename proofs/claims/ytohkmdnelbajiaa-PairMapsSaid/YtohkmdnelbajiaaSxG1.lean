/- Ranges over a function: rounds, the statement, the function's end. -/
import Derived.Test.YtohkmdnelbajiaaSxE5
import Derived.RangeFuncLeaves
import Derived.RangeFuncRecord
set_option linter.unusedVariables false
set_option linter.unusedSimpArgs false
namespace Go.Sx
open Go.RowKit
theorem own_put {H : Hp} {R : HP} {w : World} {i b : Nat} {o o' : Obj} (h : Own H R w) (hi : H i = .blk b o) : Own (upd H i (.blk b o')) R (w.putObj b o') := by
  have hb := h.block hi
  exact h.set hi (World.putObj_heap_same (Array.getElem?_eq_some_iff.1 hb).1) (fun c hc => World.putObj_heap_other hc)
theorem ext_put (w : World) (b : Nat) (o : Obj) : Ext w (w.putObj b o) := ⟨rfl, rfl, rfl, by simp [World.putObj]⟩
theorem own_alloc {H : Hp} {R : HP} {w : World} (h : Own H R w) (i : Nat) (o : Obj) : Own (upd H i (.blk w.heap.size o)) R (w.alloc o) :=
  h.new (World.alloc_heap_new w o) (fun c hc => Below.heap_alloc w o c hc)
theorem ext_alloc (w : World) (o : Obj) : Ext w (w.alloc o) := ⟨rfl, rfl, rfl, by simp⟩
/-! ### The function's end, with a mark among its deferred calls -/
def finM (P : Program) (fn : Func) (acc : List Acc) (outs : List Nat) (iD : Nat) {X : Type} (val : X → Value) (us : X → List Slot) (Φ : X → Prop) (e : Exit) (s : St) (_ : Script) : Prop :=
  match e with
  | .normal | .ret =>
    match s.df with
    | [] => finR P fn acc outs val us Φ s.fr s.H
    | [d] =>
      match d.target with
      | .collected D => s.H iD = .blk D (.deferred (some [])) ∧ finR P fn acc outs val us Φ s.fr (upd s.H iD (.blk D (.deferred none)))
      | _ => False
    | _ => False
  | _ => False
theorem call_of_mark {P : Program} {f : FuncId} {fn : Func} {c : Code} {n : Nat} {args : Array Value} {Hs : List Slot} {X : Type} {val : X → Value} {us : X → List Slot} {Φ : X → Prop}
    (hP : P.follows .mixedOrders = true) (hf : P.funcs[f]? = some fn) (hb : fn.body = some c) (hn : fn.ntmps = n) (hname : (fn.name == "runtime.NumGoroutine") = false)
    (fuel : Nat) (k : Script) (acc : List Acc) (outs : List Nat) (iD : Nat) (hsz : Nat.ble args.size n = true) (ho : nodB outs = true)
    (h : codeW P n none fuel none c k (init args Hs) (finM P fn acc outs iD val us Φ)) : CallT P f args Hs X val us Φ := by
  refine ⟨enterOK hf hb hname, fun R w hw => ?_⟩
  subst hn
  have go : CallsIn Fence.wide 0 P f args w fun e w' => ∃ x, Φ x ∧ e = .returned (val x) ∧ Own (ofList (us x)) R w' ∧ Ext w w' := ?_
  · exact callsIn_wide.1 go
  refine callsIn_of_wp_marks hf hb trivial ?_
  have hc := (code_sound hP fuel).1 c k (init args Hs) _ R _ w h (init_rel (Nat.le_of_ble_eq_true hsz)) hw
  refine wpIn_mono hc ?_
  have done : ∀ (a' : Act) (w' : World) (fr : Nat → Value) (H : Hp) (df : List Deferred), Rel fn.ntmps ⟨fr, H, df⟩ a' → Own H R w' → Ext w w' → finR P fn acc outs val us Φ fr H →
      ∃ v, (results fn a'.tmps).run P w' = .ok v w' ∧ ∃ x, Φ x ∧ Ending.returned v = .returned (val x) ∧ Own (ofList (us x)) R w' ∧ Ext w w' := by
    intro a' w' fr H df hr ho' he hs
    obtain ⟨v, hrun, x, hx, rfl, hout⟩ := symR_sound _ acc H _ R w' hs ho'
    obtain ⟨_, hk⟩ := outW_use hout
    exact ⟨val x, by rw [resF_eq hr]; exact hrun, x, hx, rfl, (own_sub (nodB_iff.1 ho) ho').weaken fun k => (hk k).symm, he⟩
  have fin : ∀ (a' : Act) (w' : World) (s' : St) (k' : Script), Rel fn.ntmps s' a' → Own s'.H R w' → Ext w w' → finM P fn acc outs iD val us Φ .ret s' k' →
      LeavesInM Fence.wide 0 P fn a'.tmps (fun e w' => ∃ x, Φ x ∧ e = .returned (val x) ∧ Own (ofList (us x)) R w' ∧ Ext w w') a'.defers .returning w' := by
    intro a' w' s' k' hr ho' he hs
    rw [hr.df]
    unfold finM at hs
    cases hdf : s'.df with
    | nil =>
      rw [hdf] at hs
      exact done a' w' s'.fr s'.H s'.df hr ho' he hs
    | cons d l =>
      rw [hdf] at hs
      cases l with
      | cons _ _ => exact hs.elim
      | nil =>
        obtain ⟨tg, dargs⟩ := d
        cases tg with
        | collected D =>
          obtain ⟨hD, hs⟩ := hs
          refine ⟨by simp, .inl ⟨D, _, rfl, run_takeDeferred (ho'.block hD), ?_⟩⟩
          exact done a' _ s'.fr (upd s'.H iD (.blk D (.deferred none))) s'.df ⟨hr.size, hr.at_, hr.df⟩ (own_put ho' hD) (he.trans (ext_put _ _ _)) hs
        | _ => exact hs.elim
  rintro e a' w' ⟨s', ⟨k', hk⟩, hr, ho', he⟩
  cases e with
  | normal => exact fin a' w' s' k' hr ho' he hk
  | ret => exact fin a' w' s' k' hr ho' he hk
  | exit id => exact hk.elim
  | goto l => exact hk.elim
  | panic ch => exact hk.elim
  | outgrown => exact hk.elim
/-- The ranges over functions in a text. -/
def rfs : Code → List (Code × Code)
  | .seq a b => rfs a ++ rfs b
  | .cond _ a b => rfs a ++ rfs b
  | .block _ c => rfs c
  | .loop c => rfs c
  | .scope c => rfs c
  | .rangeFunc _ _ a b => [(a, b)]
  | _ => []
/-! ### A round -/
abbrev recOf (fn : FuncId) (tmps : Array Value) (ps : Array Tmp) (as b : Code) (D : Nat) : Loop := { state := .ready, pending := none, fn, tmps, params := ps, assign := as, body := b, defers := D }
abbrev loopB (l : Nat) (r : Loop) : Slot := .blk l (.loop r)
def putFr (fr : Nat → Value) : List (Tmp × Value) → Nat → Value
  | [] => fr
  | (t, v) :: l => putFr (upd fr t v) l
theorem foldl_put {n : Nat} : ∀ (l : List (Tmp × Value)) (tmps : Array Value) (fr : Nat → Value), tmps.size = n → (∀ i, tmps.getD i undef = fr i) → (∀ x ∈ l, x.1 < n) →
    (l.foldl (fun t (p, v) => t.setIfInBounds p v) tmps).size = n ∧ ∀ i, (l.foldl (fun t (p, v) => t.setIfInBounds p v) tmps).getD i undef = putFr fr l i
  | [], tmps, fr, hz, hf, _ => ⟨hz, hf⟩
  | (t, v) :: l, tmps, fr, hz, hf, hl => by
    refine foldl_put l (tmps.setIfInBounds t v) (upd fr t v) (by simp [hz]) (fun i => ?_) (fun x hx => hl x (List.mem_cons_of_mem _ hx))
    have ht : t < n := hl (t, v) (List.mem_cons_self ..)
    by_cases e : i = t
    · subst e; rw [upd_same]; simp [Array.getD_eq_getD_getElem?, hz, ht]
    · rw [upd_other _ _ e, ← hf i]; simp [Array.getD_eq_getD_getElem?, Ne.symm e]
def roundW (P : Program) (n : Nat) (l : Nat) (fuel : Nat) (as b : Code) (k : Script) (r : Loop) (s : St) (outs : List Nat) {X : Type} (us : X → List Slot) (Φ : X → Prop) : Prop :=
  codeW P n (some l) fuel none as k s fun e s1 k1 =>
    match e with
    | .normal => s1.H 0 = loopB l r ∧ codeW P n (some l) fuel none b k1 ⟨s1.fr, upd s1.H 0 (loopB l { r with state := .busy }), s1.df⟩ fun e s2 _ =>
        match e with
        | .normal => s2.H 0 = loopB l { r with state := .busy } ∧ ∃ x, Φ x ∧ outW outs (us x) s2.H True
        | _ => False
    | _ => False
theorem round_of {P : Program} {n l D fuel : Nat} {fn : FuncId} {tmps : Array Value} {ps : Array Tmp} {as b : Code} {args : Array Value} {Hs : List Slot} {X : Type} {us : X → List Slot} {Φ : X → Prop} {fr : Nat → Value}
    (hP : P.follows .mixedOrders = true) (hz : tmps.size = n) (hf : ∀ i, tmps.getD i undef = fr i) (hps : ps.size = args.size) (hpn : ps.toList.all (fun t => Nat.blt t n) = true) (k : Script) (outs : List Nat) (ho : nodB (0 :: outs) = true)
    (h : roundW P n l fuel as b k (recOf fn tmps ps as b D) ⟨putFr fr (ps.toList.zip args.toList), ofList (loopB l (recOf fn tmps ps as b D) :: Hs), []⟩ outs us Φ) :
    RoundT P l args (loopB l (recOf fn tmps ps as b D) :: Hs) X (fun _ => .bool true) (fun x => loopB l (recOf fn tmps ps as b D) :: us x) Φ := by
  intro R w hw
  have hl : w.heap[l]? = some (.loop (recOf fn tmps ps as b D)) := hw.block (i := 0) rfl
  refine ⟨fn, _, as, b, run_yield hl hps.symm, roundIn_of_wpIn (F := Fence.wide) (n := 0) trivial ?_⟩
  have hfold : ((recOf fn tmps ps as b D).params.zip args).foldl (fun t (p, v) => t.setIfInBounds p v) tmps = (ps.toList.zip args.toList).foldl (fun t (p, v) => t.setIfInBounds p v) tmps := by
    rw [← Array.foldl_toList, Array.toList_zip]
  obtain ⟨h1, h2⟩ := foldl_put (ps.toList.zip args.toList) tmps fr hz hf (fun x hx => by
    have := List.all_eq_true.1 hpn x.1 (List.of_mem_zip hx).1
    simpa [Nat.blt_eq] using this)
  have hc := (code_sound hP fuel (r := some l)).1 as k _ _ R { tmps := _, defers := [] } w h ⟨h1, h2, rfl⟩ hw
  rw [hfold]
  refine wpIn_mono hc ?_
  rintro e a1 w1 ⟨s1, ⟨k1, hk⟩, hr1, ho1, he1⟩
  cases e with
  | normal =>
    obtain ⟨hl1, hk⟩ := hk
    have hb1 := ho1.block hl1
    refine ⟨_, run_beginRound hb1 rfl, ?_⟩
    have hc2 := (code_sound hP fuel (r := some l)).1 b k1 _ _ R a1 _ hk ⟨hr1.size, hr1.at_, hr1.df⟩ (own_put ho1 hl1)
    refine wpIn_mono hc2 ?_
    rintro e a2 w2 ⟨s2, ⟨k2, hk2⟩, hr2, ho2, he2⟩
    cases e with
    | normal =>
      obtain ⟨hl2, x, hx, hout⟩ := hk2
      have hb2 := ho2.block hl2
      refine ⟨_, _, run_endRound none hb2, x, hx, rfl, ?_, ((he1.trans (ext_put _ _ _)).trans he2).trans (ext_put _ _ _)⟩
      have ho3 := own_put (o' := .loop (recOf fn tmps ps as b D)) ho2 hl2
      have hq : outW (0 :: outs) (loopB l (recOf fn tmps ps as b D) :: us x) (upd s2.H 0 (loopB l (recOf fn tmps ps as b D))) True := by
        refine ⟨rfl, ?_⟩
        have h0 : 0 ∉ outs := by
          have := (nodB_iff.1 ho)
          exact (List.nodup_cons.1 this).1
        clear ho
        have step : ∀ (outs : List Nat) (ss : List Slot), 0 ∉ outs → outW outs ss s2.H True → outW outs ss (upd s2.H 0 (loopB l (recOf fn tmps ps as b D))) True := by
          intro outs ss
          induction ss generalizing outs with
          | nil => intro _ _; unfold outW; trivial
          | cons s ss ih =>
            intro h0 h
            cases outs with
            | nil => exact h.elim
            | cons i outs =>
              obtain ⟨ha, hb⟩ := h
              exact ⟨(upd_other _ _ (fun e => h0 (by subst e; exact List.mem_cons_self ..))).trans ha, ih outs (fun hm => h0 (List.mem_cons_of_mem _ hm)) hb⟩
        exact step outs _ h0 hout
      obtain ⟨_, hk⟩ := outW_use hq
      exact (own_sub (nodB_iff.1 ho) ho3).weaken fun k => (hk k).symm
    | _ => exact hk2.elim
  | _ => exact hk.elim
/-! ### The statement -/
theorem range_of {P : Program} {n : Nat} {g : Operand} {ps : Array Tmp} {as b : Code} {fr : Nat → Value} {Hs : List Slot} {X : Type} {val : X → Value} {us : X → List Slot} {Φ : X → Prop} {gf : FuncId} {cap : Array Value}
    (hg : evalF fr g = .func (.func gf) #[] cap)
    (h : ∀ (l D : Nat) (fn : FuncId) (tmps : Array Value), tmps.size = n → (∀ i, tmps.getD i undef = fr i) →
      CallT P gf (#[.func (.yield l) #[] #[]] ++ cap) (loopB l (recOf fn tmps ps as b D) :: Hs) X val (fun x => loopB l (recOf fn tmps ps as b D) :: us x) Φ) :
    RangeT P n g ps as b fr Hs X us Φ := by
  intro R w act hz hf hw
  refine wpIn_rangeFunc ?_
  intro fn _
  have hc := (h (w.heap.size + 1) w.heap.size fn act.tmps hz hf).frame [.blk w.heap.size (.deferred (some []))]
  have hev : act.eval g = .func (.func gf) #[] cap := by
    rw [← hg]
    cases g with
    | tmp t => exact hf t
    | _ => rfl
  obtain ⟨W1, hW1⟩ : ∃ W1, W1 = (w.alloc (.deferred (some []))).alloc (.loop (recOf fn act.tmps ps as b w.heap.size)) := ⟨_, rfl⟩
  refine ⟨w.heap.size + 1, [markOf w.heap.size], W1, { target := .fn (.func gf) cap, args := #[.func (.yield (w.heap.size + 1)) #[] #[]] }, W1, gf, #[.func (.yield (w.heap.size + 1)) #[] #[]] ++ cap, W1, by rw [hW1]; exact run_enterLoop_outer _ _ _ _ _, ?_, fun _ _ => trivial, ?_, fun h => by simp [FrR] at h, ?_⟩
  · simp only [resolve, hev]
    simp [go_sem]
  · simp only [invoke]
    exact hc.enter _ _
  · subst hW1
    have o1 : Own (ofList Hs) R w := hw
    have o2 : Own (ofList (.blk w.heap.size (.deferred (some [])) :: Hs)) R (w.alloc (.deferred (some []))) := by
      have := own_alloc (H := fun i => match i with | 0 => .free | i + 1 => ofList Hs i) (R := R) (w := w) (by
        obtain ⟨p, q, hs, hq, hp, hqw, hd, hdq⟩ := o1
        refine ⟨fun i => match i with | 0 => fun _ => none | i + 1 => p i, q, fun i => ?_, hq, fun i => ?_, hqw, fun i j hij => ?_, fun i => ?_⟩
        · cases i with
          | zero => exact fun _ => rfl
          | succ i => exact hs i
        · cases i with
          | zero => intro b o h; cases h
          | succ i => exact hp i
        · cases i with
          | zero => exact fun _ => .inl rfl
          | succ i =>
            cases j with
            | zero => exact fun _ => .inr rfl
            | succ j => exact hd i j (fun e => hij (by rw [e]))
        · cases i with
          | zero => exact fun _ => .inl rfl
          | succ i => exact hdq i) 0 (.deferred (some []))
      refine this.weaken fun k => ?_
      cases k with
      | zero => exact .inl rfl
      | succ k => exact .inl rfl
    have o3 : Own (ofList (.blk (w.heap.size + 1) (.loop (recOf fn act.tmps ps as b w.heap.size)) :: .blk w.heap.size (.deferred (some [])) :: Hs)) R ((w.alloc (.deferred (some []))).alloc (.loop (recOf fn act.tmps ps as b w.heap.size))) := by
      have o2' : Own (ofList (.free :: .blk w.heap.size (.deferred (some [])) :: Hs)) R (w.alloc (.deferred (some []))) := by
        obtain ⟨p, q, hs, hq, hp, hqw, hd, hdq⟩ := o2
        refine ⟨fun i => match i with | 0 => fun _ => none | i + 1 => p i, q, fun i => ?_, hq, fun i => ?_, hqw, fun i j hij => ?_, fun i => ?_⟩
        · cases i with
          | zero => exact fun _ => rfl
          | succ i => exact hs i
        · cases i with
          | zero => intro b o h; cases h
          | succ i => exact hp i
        · cases i with
          | zero => exact fun _ => .inl rfl
          | succ i =>
            cases j with
            | zero => exact fun _ => .inr rfl
            | succ j => exact hd i j (fun e => hij (by rw [e]))
        · cases i with
          | zero => exact fun _ => .inl rfl
          | succ i => exact hdq i
      have := own_alloc o2' 0 (.loop (recOf fn act.tmps ps as b w.heap.size))
      rw [World.size_alloc] at this
      refine this.weaken fun k => ?_
      cases k with
      | zero => exact .inl rfl
      | succ k => exact .inl rfl
    have o4 := Imp.swap (.blk (w.heap.size + 1) (.loop (recOf fn act.tmps ps as b w.heap.size)) :: []) (.blk w.heap.size (.deferred (some [])) :: Hs) R _ o3
    have o5 := Imp.swap [.blk w.heap.size (.deferred (some []))] (Hs ++ [.blk (w.heap.size + 1) (.loop (recOf fn act.tmps ps as b w.heap.size))]) R _ o4
    have o6 : Own (ofList ((loopB (w.heap.size + 1) (recOf fn act.tmps ps as b w.heap.size) :: Hs) ++ [.blk w.heap.size (.deferred (some []))])) R ((w.alloc (.deferred (some []))).alloc (.loop (recOf fn act.tmps ps as b w.heap.size))) := by
      refine (Imp.same fun p hp => ?_) R _ o5
      obtain ⟨p1, p2, ha, hb, d, rfl⟩ := (sep_append _ _).1 hp
      exact (sep_append _ _).2 ⟨p1, p2, sep_swap ha, hb, d, rfl⟩
    have hcalls : CallsIn (FrR none) 0 P gf (#[.func (.yield (w.heap.size + 1)) #[] #[]] ++ cap) ((w.alloc (.deferred (some []))).alloc (.loop (recOf fn act.tmps ps as b w.heap.size))) _ := callsIn_of_calls (hc.calls R _ o6)
    refine hcalls.mono ?_
    rintro e w3 ⟨x, hx, rfl, ho3, he3⟩
    have hb3 := ho3.block (i := 0) rfl
    refine ⟨none, _, run_endLoop hb3 (by simp), rfl, rfl, w.heap.size, x, rfl, hx, ?_, (((ext_alloc _ _).trans (ext_alloc _ _)).trans he3).trans (ext_put _ _ _)⟩
    have o7 := own_put (o' := .loop { recOf fn act.tmps ps as b w.heap.size with state := .exhausted }) ho3 (i := 0) rfl
    have o8 : Own (ofList (us x ++ [.blk w.heap.size (.deferred (some []))])) R (w3.putObj (w.heap.size + 1) (.loop { recOf fn act.tmps ps as b w.heap.size with state := .exhausted })) := by
      have o9 : Own (ofList (.blk (w.heap.size + 1) (.loop { recOf fn act.tmps ps as b w.heap.size with state := .exhausted }) :: (us x ++ [.blk w.heap.size (.deferred (some []))]))) R (w3.putObj (w.heap.size + 1) (.loop { recOf fn act.tmps ps as b w.heap.size with state := .exhausted })) := o7.weaken fun k => by
        cases k with
        | zero => exact .inl rfl
        | succ k => exact .inl rfl
      exact Imp.drop _ [_] R _ (Imp.swap [_] _ R _ o9)
    exact Imp.swap (us x) [.blk w.heap.size (.deferred (some []))] R _ o8
end Go.Sx
