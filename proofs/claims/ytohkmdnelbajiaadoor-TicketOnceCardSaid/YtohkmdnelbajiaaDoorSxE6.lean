/- Small laws for the walks over journals and maps. -/
import Derived.Test.YtohkmdnelbajiaaDoorSxE4
import Derived.Test.YtohkmdnelbajiaaDoorSxE5
import Derived.Test.YtohkmdnelbajiaaDoorSxB14
set_option linter.unusedVariables false
set_option linter.unusedSimpArgs false
namespace Go.Sx
theorem new_fold {K : MK} (b r bj : Nat) : Imp [.blk b (.cells #[.map (some r), .pointer (some ⟨bj, 0, none⟩), K.less] K.te (0, 0)), .blk r (.map #[] 0)] [mS K b bj []] := by
  refine Imp.trans ?_ (mS_shut (r := r) KOK.nil [])
  intro R w h
  have h1 := Imp.swap [_] [_] R w h
  exact Imp.swap [mo r []] [_] R w (mo_new R w h1)
theorem cells_sv (r : Row) : (sv r).cells = #[sv r] := by cases r <;> rfl
theorem one_sv (r : Row) : (sv r).oneCell' = true := by cases r <;> rfl
theorem heap_setCell_at (w : World) (b n : Nat) (cs : Array Value) (e : TypeId) (f : Nat × Nat) (v : Value) (h : w.heap[b]? = some (.cells cs e f)) : (w.setCell ⟨b, n, none⟩ v).heap[b]? = some (.cells (cs.setIfInBounds n v) e f) := by
  simp only [World.setCell]
  rw [heap_modify_same _ h]; simp
theorem xputv {P : Program} {b : Nat} {cs : Array Value} {ty te : TypeId} (hs : ∀ w, (sizeOf te).run P w = .ok 1 w) (n : Nat) (v : Value) (h1 : v.cells = #[v]) (h2 : v.oneCell' = true) (hn : n < cs.size) :
    OpT P (do Instr.storeAt te (.pointer (some ⟨b, n, none⟩)) v; pure .skip) [.blk b (.cells cs ty (0, 0))] Unit (fun _ => undef) (fun _ => [.blk b (.cells (cs.setIfInBounds n v) ty (0, 0))]) (fun _ => True) := by
  intro R w h
  have hb := h.block (i := 0) rfl
  have hc : w.cell? ⟨b, n, none⟩ = some cs[n] := by
    rw [cell_of_block hb rfl]; simp [hn]
  have hf : w.frozen? ⟨b, n, none⟩ = false := by
    rw [frozen_of_block hb]; simp [frozenAt, frz]
  have hst : (store ⟨b, n, none⟩ v).run P w = .ok () (w.setCell ⟨b, n, none⟩ v) := by rw [run_store P w _ v _ h2, hc]; simp [hf]
  have hh := heap_setCell_at w b n cs ty (0, 0) v hb
  refine ⟨(), w.setCell ⟨b, n, none⟩ v, trivial, .inr ⟨?_, rfl⟩, ?_, ?_⟩
  · simp [Instr.storeAt, Instr.sureAddr, storeVar, Sem.run_bind, hs, h1, storeCells, Addr.add, hst]
  · have := h.set (i := 0) (b := b) rfl hh (fun c hc => heap_setCell_other w _ c v hc)
    refine (congrArg (fun H => Own H R (w.setCell ⟨b, n, none⟩ v)) ?_).mp this
    funext i
    cases i <;> rfl
  · exact ⟨rfl, rfl, rfl, by simp⟩
theorem wgetk {P : Program} {K : MK} {t kt vt : TypeId} {z : Value} {V : Type} {vv : V → Value} {Ok : V → Prop} (L : KindL P K t kt vt z vv Ok) (h : True) : True := trivial
def default_ent : Ent := ⟨0, 0, undef, none, undef, 0, 0, 0, 0⟩
theorem mdel_none {m : KV} {k : Value} (h : mget m k = none) : mdel m k = m := by
  unfold mdel
  refine List.eraseP_of_forall_not fun x hx => ?_
  simpa using mget_none.1 h x hx
def F_newj (K : JK) : List Value → List Slot → Ctr := fun _ _ => ⟨Nat, ptr, fun b => [jS K b []], fun _ => True⟩
theorem xnewj {P : Program} {K : JK} {m : Sem Next} (h : symW P m [.nw 0] (ofList []) fun nx H _ => ∃ b, nx = .value (ptr b) ∧ H = upd (ofList []) 0 (.blk b (.cells #[.slice none 0 0] K.tj (0, 0)))) :
    OpT P m [] Nat ptr (fun b => [jS K b []]) (fun _ => True) := by
  intro R w ho
  obtain ⟨nx, w', H', acc', hrun, ⟨b, rfl, rfl⟩, ho', he⟩ := symW_sound _ _ _ _ R w h ho
  refine ⟨b, w', trivial, .inl hrun, jS_empty _ _ ?_, he⟩
  refine (congrArg (fun H => Own H R w') ?_).mp ho'
  funext i; cases i <;> rfl
/-! ### Arrays of words -/
def arrV (k : IntKind) (ns : List Int) : Array Value := (ns.map (Value.int k)).toArray
theorem arrV_size {k : IntKind} {ns : List Int} : (arrV k ns).size = ns.length := by simp [arrV]
theorem arrV_getD {k : IntKind} {ns : List Int} {i : Nat} (h : i < ns.length) : (arrV k ns).getD i undef = .int k (ns.getD i 0) := by
  simp [arrV, Array.getD_eq_getD_getElem?, h]
theorem arrV_ci {k : IntKind} {ns : List Int} {i : Nat} (h : i < ns.length) : ci ((arrV k ns).getD i undef) = ns.getD i 0 := by rw [arrV_getD h]; rfl
theorem arrV_get {k : IntKind} {ns : List Int} {i : Nat} (h : i < ns.length) : (arrV k ns)[i]? = some (.int k (ci ((arrV k ns).getD i undef))) := by
  rw [arrV_ci h]; simp [arrV, h]
theorem arrV_set {k : IntKind} {ns : List Int} {i : Nat} {v : Int} : (arrV k ns).setIfInBounds i (.int k v) = arrV k (ns.set i v) := by simp [arrV, List.map_set]
theorem xaidx {P : Program} {t e : TypeId} {n : Nat} (hu : P.underlying t = some (.array n e)) (hs : ∀ w, (sizeOf e).run P w = .ok 1 w) (b : Nat) (k : IntKind) (i : Int) (h0 : 0 ≤ i) (h1 : i < (n : Int)) :
    PureRun P (do pure (.value (← Instr.indexAt t (.pointer (some ⟨b, 0, none⟩)) (.int k i)))) (.pointer (some ⟨b, i.toNat, none⟩)) := by
  intro w
  have hc : 0 ≤ i ∧ i < (n : Int) := ⟨h0, h1⟩
  simp [Instr.indexAt, run_underlying hu, asIntOf, hc, hs w, Addr.add, Instr.sureAddr, Sem.run_bind]
  omega
theorem Imp.tail {a b : List Slot} (s : Slot) (h : Imp a b) : Imp (s :: a) (s :: b) := by
  intro R w ho
  have h1 := own_frame.1 (Imp.swap [s] a R w ho)
  exact Imp.swap b [s] R w (own_frame.2 (h _ w h1))
theorem Imp.head {a b : List Slot} (l : List Slot) (h : Imp a b) : Imp (a ++ l) (b ++ l) := fun R w ho => own_frame.2 (h _ w (own_frame.1 ho))
theorem kl_struct2 {P : Program} {kt : TypeId} {k0 k1 : IntKind} {f0 f1 : Field} (hu : P.underlying kt = some (.struct #[f0, f1])) (hp : P.stoodInHeld kt = false) (n0 : (f0.name == "_") = false) (n1 : (f1.name == "_") = false) (o0 : f0.offset = 0) (o1 : f1.offset = 1)
    (u0 : P.underlying f0.type = some (.int k0)) (u1 : P.underlying f1.type = some (.int k1)) (a0 : ∀ w, (isAgg f0.type).run P w = .ok false w) (a1 : ∀ w, (isAgg f1.type).run P w = .ok false w)
    (hc : ∀ b a c w, (Instr.checkKey b 10000 kt (.agg #[.int k0 a, .int k1 c])).run P w = .ok () w) : KL P kt (fun v => ∃ n0 n1 : Int, v = .agg #[.int k0 n0, .int k1 n1]) := by
  refine KL.of_asking hu ?_ ?_ ?_ ?_
  · rintro b _ w ⟨a, c, rfl⟩; exact hc b a c w
  · rintro _ _ ⟨a, c, rfl⟩ ⟨a', c', rfl⟩; rfl
  · rintro _ _ w ⟨a, c, rfl⟩ ⟨a', c', rfl⟩
    have hfs : P.fieldsOf kt = #[f0, f1] := by unfold Program.fieldsOf; rw [hu]
    have hu' : P.underlying kt = some (.struct (P.fieldsOf kt)) := by rw [hfs]; exact hu
    have h0 : f0.name ≠ "_" := by simpa using n0
    have h1 : f1.name ≠ "_" := by simpa using n1
    show (Op.equalIn (9999 + 1) kt _ _).run P w = _
    rw [run_equalIn_struct w 9999 kt _ _ hu' hp, hfs]
    have p0 : ∀ (x y : Value) (w : World), (part f0.type #[x, y] f0.offset).run P w = .ok x w := fun x y w => run_part1 w a0 (by rw [o0]; rfl)
    have p1 : ∀ (x y : Value) (w : World), (part f1.type #[x, y] f1.offset).run P w = .ok y w := fun x y w => run_part1 w a1 (by rw [o1]; rfl)
    have e0 : (Op.equalIn (9998 + 1) f0.type (.int k0 a) (.int k0 a')).run P w = .ok (a == a') w := run_equalIn_int w 9998 f0.type k0 k0 a a' u0
    have e1 : (Op.equalIn (9998 + 1) f1.type (.int k1 c) (.int k1 c')).run P w = .ok (c == c') w := run_equalIn_int w 9998 f1.type k1 k1 c c' u1
    simp only [Op.eqFields, h0, h1, ne_eq, not_false_eq_true, if_true, Sem.run_bind, p0, p1, Result.andThen_ok, e0, e1]
    by_cases ha : a = a'
    · by_cases hc : c = c'
      · simp [ha, hc, Op.eqFields, Sem.run_bind, p0, p1, h1]
        have e1' : (Op.equalIn (9998 + 1) f1.type (.int k1 c') (.int k1 c')).run P w = .ok true w := by
          have := run_equalIn_int (P := P) w 9998 f1.type k1 k1 c' c' u1
          simpa using this
        first | done | (rw [e1']; rfl) | simp [e1']
      · have hcc : (c == c') = false := by simpa using hc
        simp [ha, hc, Op.eqFields, Sem.run_bind, p0, p1, h1]
        have e1' : (Op.equalIn (9998 + 1) f1.type (.int k1 c) (.int k1 c')).run P w = .ok false w := by rw [e1, hcc]
        first | done | (rw [e1']; rfl) | simp [e1']
    · have haa : (a == a') = false := by simpa using ha
      simp [ha]
  · rintro _ ⟨a, c, rfl⟩
    show Instr.sameBits (9999 + 1) _ _ = true
    simp [Instr.sameBits]
end Go.Sx
