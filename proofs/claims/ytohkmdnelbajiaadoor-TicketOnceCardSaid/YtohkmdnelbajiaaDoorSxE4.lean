/- Kinds of keys; the operations on maps, as families. -/
import Derived.Test.YtohkmdnelbajiaaDoorSxE3
import Derived.Test.YtohkmdnelbajiaaDoorSxB11
set_option linter.unusedVariables false
set_option linter.unusedSimpArgs false
namespace Go.Sx
open Go.RowKit
theorem KL.of_now {P : Program} {kt : TypeId} {d : TypeDesc} {Ok : Value → Prop} (hu : P.underlying kt = some d) (hc : ∀ b k w, Ok k → (Instr.checkKey b 10000 kt k).run P w = .ok () w)
    (hn : ∀ k k', Ok k → Ok k' → Instr.sameNow d k k' = some (decide (k = k'))) (hs : ∀ k, Ok k → Instr.sameBits 10000 k k = true) : KL P kt Ok := by
  refine ⟨hc, fun k es w hk hes => ?_, hs⟩
  have key : ∀ (es : List MapEntry) (n : Nat), (∀ e ∈ es, Ok e.key) → ∃ o, Instr.findNow d k es n = some o ∧
      (match o with | none => mget (es.map fun e => (e.key, e.val)) k = none | some (i, v) => n ≤ i ∧ ∃ e, es[i - n]? = some e ∧ e.key = k ∧ e.val = v ∧ ∀ j e', j < i - n → es[j]? = some e' → e'.key ≠ k) := by
    intro es
    induction es with
    | nil => intro n _; exact ⟨none, rfl, rfl⟩
    | cons e es ih =>
      intro n h
      have he := hn k e.key hk (h e (List.mem_cons_self ..))
      by_cases hke : k = e.key
      · refine ⟨some (n, e.val), ?_, Nat.le_refl _, e, by simp, hke.symm, rfl, fun j e' hj => by omega⟩
        unfold Instr.findNow; rw [he]; simp [hke]
      · obtain ⟨o, ho, hspec⟩ := ih (n + 1) fun x hx => h x (List.mem_cons_of_mem _ hx)
        refine ⟨o, ?_, ?_⟩
        · unfold Instr.findNow; rw [he]; simp [hke, ho]
        · cases o with
          | none =>
            show mget ((e :: es).map fun e => (e.key, e.val)) k = none
            rw [List.map_cons, mget_cons, if_neg (fun x => hke x.symm)]; exact hspec
          | some iv =>
            obtain ⟨h1, x, h2, h3, h4, h5⟩ := hspec
            refine ⟨by omega, x, ?_, h3, h4, fun j e' hj hje => ?_⟩
            · rw [show iv.1 - n = (iv.1 - (n + 1)) + 1 from by omega, List.getElem?_cons_succ]; exact h2
            · cases j with
              | zero => simp at hje; subst hje; exact fun x => hke x.symm
              | succ j => exact h5 j e' (by omega) (by simpa using hje)
  obtain ⟨o, ho, hspec⟩ := key es 0 hes
  refine ⟨o, ?_, ?_⟩
  · simp only [Instr.findKey, Sem.run_bind, run_underlying hu, Result.andThen_ok, ho, Sem.run_pure]
  · cases o with
    | none => exact hspec
    | some iv => exact hspec.2
theorem KL.of_asking {P : Program} {kt : TypeId} {d : TypeDesc} {Ok : Value → Prop} (hu : P.underlying kt = some d) (hc : ∀ b k w, Ok k → (Instr.checkKey b 10000 kt k).run P w = .ok () w)
    (hn : ∀ k k', Ok k → Ok k' → Instr.sameNow d k k' = none) (he : ∀ k k' w, Ok k → Ok k' → (Op.equal kt k k').run P w = .ok (decide (k = k')) w) (hs : ∀ k, Ok k → Instr.sameBits 10000 k k = true) : KL P kt Ok := by
  refine ⟨hc, fun k es w hk hes => ?_, hs⟩
  have key : ∀ (es : List MapEntry) (n : Nat), (∀ e ∈ es, Ok e.key) → ∃ o, (Instr.findAsking kt k es n).run P w = .ok o w ∧
      (match o with | none => mget (es.map fun e => (e.key, e.val)) k = none | some (i, v) => n ≤ i ∧ ∃ e, es[i - n]? = some e ∧ e.key = k ∧ e.val = v ∧ ∀ j e', j < i - n → es[j]? = some e' → e'.key ≠ k) := by
    intro es
    induction es with
    | nil => intro n _; exact ⟨none, rfl, rfl⟩
    | cons e es ih =>
      intro n h
      have hq := he k e.key w hk (h e (List.mem_cons_self ..))
      by_cases hke : k = e.key
      · refine ⟨some (n, e.val), ?_, Nat.le_refl _, e, by simp, hke.symm, rfl, fun j e' hj => by omega⟩
        rw [decide_eq_true hke] at hq
        unfold Instr.findAsking; simp [Sem.run_bind, hq]
      · obtain ⟨o, ho, hspec⟩ := ih (n + 1) fun x hx => h x (List.mem_cons_of_mem _ hx)
        refine ⟨o, ?_, ?_⟩
        · rw [decide_eq_false hke] at hq
          unfold Instr.findAsking; simp [Sem.run_bind, hq, ho]
        · cases o with
          | none =>
            show mget ((e :: es).map fun e => (e.key, e.val)) k = none
            rw [List.map_cons, mget_cons, if_neg (fun x => hke x.symm)]; exact hspec
          | some iv =>
            obtain ⟨h1, x, h2, h3, h4, h5⟩ := hspec
            refine ⟨by omega, x, ?_, h3, h4, fun j e' hj hje => ?_⟩
            · rw [show iv.1 - n = (iv.1 - (n + 1)) + 1 from by omega, List.getElem?_cons_succ]; exact h2
            · cases j with
              | zero => simp at hje; subst hje; exact fun x => hke x.symm
              | succ j => exact h5 j e' (by omega) (by simpa using hje)
  cases es with
  | nil =>
    refine ⟨none, ?_, rfl⟩
    simp only [Instr.findKey, Sem.run_bind, run_underlying hu, Result.andThen_ok, Instr.findNow, Sem.run_pure]
  | cons e es =>
    obtain ⟨o, ho, hspec⟩ := key (e :: es) 0 hes
    refine ⟨o, ?_, ?_⟩
    · have : Instr.findNow d k (e :: es) 0 = none := by unfold Instr.findNow; rw [hn k e.key hk (hes e (List.mem_cons_self ..))]
      simp only [Instr.findKey, Sem.run_bind, run_underlying hu, Result.andThen_ok, this]
      exact ho
    · cases o with
      | none => exact hspec
      | some iv => exact hspec.2
theorem kl_int {P : Program} {kt : TypeId} {k : IntKind} (hu : P.underlying kt = some (.int k)) : KL P kt (fun v => ∃ n : Int, v = .int k n) := by
  refine KL.of_now hu ?_ ?_ ?_
  · rintro b _ w ⟨n, rfl⟩
    show (Instr.checkKey b (9999 + 1) kt (.int k n)).run P w = .ok () w
    rw [Instr.checkKey]
    simp only [Sem.run_bind, run_underlying hu, Result.andThen_ok, Sem.run_pure]
  · rintro _ _ ⟨a, rfl⟩ ⟨b, rfl⟩
    simp only [Instr.sameNow, if_true, Option.some.injEq]
    by_cases h : a = b <;> simp [h]
  · rintro _ ⟨n, rfl⟩
    show Instr.sameBits (9999 + 1) (.int k n) (.int k n) = true
    rw [Instr.sameBits]; simp
/-- A kind of maps: keys of type kt, values that are vv v for some v with Ok v; z is nothing's value. -/
structure KindL (P : Program) (K : MK) (t kt vt : TypeId) (z : Value) {V : Type} (vv : V → Value) (Ok : V → Prop) : Prop where
  tm : TM P t kt vt K.OkK z
  val : ∀ x, K.OkV x ↔ ∃ v, Ok v ∧ x = vv v
  zero : ∃ v, Ok v ∧ z = vv v
def F_look {V : Type} (vv : V → Value) (Ok : V → Prop) (z : Value) : List Value → List Slot → Ctr := fun vs hs =>
  ⟨V × Bool, fun x => .tuple #[vv x.1, .bool x.2], fun _ => hs, fun x => Ok x.1 ∧ x.2 = (mget (skv (sarg hs 0)) (varg vs 1)).isSome ∧ vv x.1 = (mget (skv (sarg hs 0)) (varg vs 1)).getD z⟩
theorem wlook {P : Program} {K : MK} {t kt vt : TypeId} {z : Value} {V : Type} {vv : V → Value} {Ok : V → Prop} (L : KindL P K t kt vt z vv Ok) {m : KV} (h : KOK K m) (k : Value) :
    ∃ x : V × Bool, (fun x : V × Bool => Ok x.1 ∧ x.2 = (mget m k).isSome ∧ vv x.1 = (mget m k).getD z) x := by
  cases hg : mget m k with
  | none =>
    obtain ⟨v, hv, hz⟩ := L.zero
    exact ⟨(v, false), hv, rfl, hz.symm⟩
  | some y =>
    obtain ⟨v, hv, hy⟩ := (L.val y).1 (h.val hg)
    exact ⟨(v, true), hv, rfl, hy.symm⟩
theorem xlook {P : Program} {K : MK} {t kt vt : TypeId} {z : Value} {V : Type} {vv : V → Value} {Ok : V → Prop} (L : KindL P K t kt vt z vv Ok) {r : Nat} {m : KV} (h : KOK K m) {k : Value} (hk : K.OkK k) :
    OpT P (do pure (.value (← Instr.lookup t (.map (some r)) k true))) [mo r m] (V × Bool) (fun x => .tuple #[vv x.1, .bool x.2]) (fun _ => [mo r m]) (fun x => Ok x.1 ∧ x.2 = (mget m k).isSome ∧ vv x.1 = (mget m k).getD z) := by
  intro R w ho
  obtain ⟨_, w', _, hy, ho', he⟩ := xlookup L.tm h.keys hk R w ho
  obtain ⟨x, hx⟩ := wlook L h k
  refine ⟨x, w', hx, ?_, ho', he⟩
  simp only [hx.2.1, hx.2.2]; exact hy
def F_upd : List Value → List Slot → Ctr := fun vs hs => ⟨KV, fun _ => undef, fun x => [mo (vblk (varg vs 0)) x], fun x => x = mset (skv (sarg hs 0)) (varg vs 1) (varg vs 2)⟩
theorem xupd {P : Program} {K : MK} {t kt vt : TypeId} {z : Value} {V : Type} {vv : V → Value} {Ok : V → Prop} (L : KindL P K t kt vt z vv Ok) {r : Nat} {m : KV} (h : KOK K m) {k : Value} (hk : K.OkK k) (v : Value) :
    OpT P (do Instr.mapUpdate t (.map (some r)) k v; pure .skip) [mo r m] KV (fun _ => undef) (fun x => [mo r x]) (fun x => x = mset m k v) := by
  intro R w ho
  obtain ⟨_, w', _, hy, ho', he⟩ := xupdate L.tm h.keys h.once hk v R w ho
  exact ⟨_, w', rfl, hy, ho', he⟩
def F_del : List Value → List Slot → Ctr := fun vs hs => ⟨KV, fun _ => undef, fun x => [mo (vblk (varg vs 0)) x], fun x => x = mdel (skv (sarg hs 0)) (varg vs 1)⟩
theorem xdel {P : Program} {K : MK} {t kt vt : TypeId} {z : Value} {V : Type} {vv : V → Value} {Ok : V → Prop} (L : KindL P K t kt vt z vv Ok) (ty kt' : TypeId) {r : Nat} {m : KV} (h : KOK K m) {k : Value} (hk : K.OkK k) :
    OpT P (do pure (.value (← Builtin.delete_ #[t, kt'] ty #[.map (some r), k]))) [mo r m] KV (fun _ => undef) (fun x => [mo r x]) (fun x => x = mdel m k) := by
  intro R w ho
  obtain ⟨_, w', _, hy, ho', he⟩ := xdelete L.tm ty kt' h.keys hk R w ho
  exact ⟨_, w', rfl, hy, ho', he⟩
def F_mlen : List Value → List Slot → Ctr := fun _ hs => ⟨Int, fun x => .int .i64 x, fun _ => hs, fun x => x = (((skv (sarg hs 0)).length : Nat) : Int)⟩
theorem xmlen' {P : Program} {t kt vt : TypeId} (hu : P.underlying t = some (.map kt vt)) (ty : TypeId) {r : Nat} {m : KV} :
    OpT P (do pure (.value (← Builtin.len_ #[t] ty #[.map (some r)]))) [mo r m] Int (fun x => .int .i64 x) (fun _ => [mo r m]) (fun x => x = ((m.length : Nat) : Int)) := by
  intro R w ho
  obtain ⟨_, w', _, hy, ho', he⟩ := xmlen hu ty R w ho
  exact ⟨_, w', rfl, hy, ho', he⟩
/-- A new map. -/
theorem mo_new {r : Nat} {l : List Slot} : Imp (.blk r (.map #[] 0) :: l) (mo r [] :: l) := fun _ _ h => mo_shut rfl h
end Go.Sx
