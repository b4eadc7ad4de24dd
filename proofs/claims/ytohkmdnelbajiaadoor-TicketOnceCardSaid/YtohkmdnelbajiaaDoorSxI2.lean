/- A ticket is paid at most once. -/
import Derived.Test.YtohkmdnelbajiaaDoorSxI1
set_option linter.unusedVariables false
set_option linter.unusedSimpArgs false
namespace Go.Sx
theorem tkF_set0 {m : KV} {k : Value} {v : Int × Int} {o c : Int} (hc : c = 0) : tkF (setIf c m k (tV v)) k o = v := by
  subst hc
  have e : setIf 0 m k (tV v) = mset m k (tV v) := rfl
  unfold tkF
  rw [e, mget_set, if_pos rfl]; rfl
theorem tkF_setN {m : KV} {k v : Value} {o c : Int} (hc : c ≠ 0) : tkF (setIf c m k v) k o = tkF m k o := by
  have e : setIf c m k v = m := by
    unfold setIf
    rw [show (c == 0) = false from beq_eq_false_iff_ne.2 hc]; rfl
  rw [e]
theorem addIf_len {c : Int} {L : List Ent} {e : Ent} : (addIf c L e).length ≤ L.length + 1 := by
  unfold addIf
  cases c == 0 <;> simp
theorem tkF_nil {k : Value} {o : Int} : tkF [] k o = (o, 0) := rfl
structure OnceJ (bad : Bool) (t : Int × Int) (paid : Bool) : Prop where
  p : paid = (t.2 != 0)
  o : bad = false → t.1 < 16
  b : paid = true → bad = false
theorem OnceJ.start {xt xo m0 m1 m2 m3 : Int} : OnceJ (inBad xt xo m0 m1 m2 m3) (xo, 0) false := by
  refine ⟨rfl, fun h => ?_, fun h => by cases h⟩
  unfold inBad at h
  simp only [Bool.or_eq_false_iff, decide_eq_false_iff_not] at h
  have := h.2.1
  show xo < 16
  omega
theorem py_ok {bad right : Bool} {t : Int × Int} (h : pyC bad right t = 0) : bad = false ∧ right = true ∧ t.2 = 0 := by
  unfold pyC at h
  cases bad <;> cases right <;> simp at h ⊢
  cases h2 : (t.2 != 0)
  · exact bne_eq_false_iff_eq.1 h2
  · rw [h2] at h; cases h
theorem mv_ok {bad right : Bool} {t : Int × Int} {fr : Int} (h : mvC bad right t fr = 0) : bad = false ∧ right = true ∧ t.2 = 0 ∧ t.1 = fr := by
  unfold mvC at h
  cases bad <;> cases right <;> simp at h ⊢
  cases h2 : (t.2 != 0)
  · rw [h2] at h
    cases h3 : (t.1 != fr)
    · exact ⟨bne_eq_false_iff_eq.1 h2, bne_eq_false_iff_eq.1 h3⟩
    · rw [h3] at h; cases h
  · rw [h2] at h; cases h
theorem OnceJ.pay {bad paid : Bool} {t : Int × Int} {how : Int} (j : OnceJ bad t paid) (h : pyC bad (how == 1 || how == 2) t = 0) : paid = false ∧ OnceJ bad (t.1, how) true := by
  obtain ⟨h1, h2, h3⟩ := py_ok h
  have hp : paid = false := by rw [j.p, h3]; rfl
  refine ⟨hp, ?_, j.o, fun _ => h1⟩
  simp only [Bool.or_eq_true, beq_iff_eq] at h2
  symm
  show (how != 0) = true
  rcases h2 with rfl | rfl <;> rfl
theorem OnceJ.move {bad paid : Bool} {t : Int × Int} {fr to : Int} (j : OnceJ bad t paid) (h : mvC bad (decide (fr < 16) && decide (to < 16)) t fr = 0) : paid = false ∧ t.1 = fr ∧ to < 16 ∧ OnceJ bad (to, t.2) paid := by
  obtain ⟨h1, h2, h3, h4⟩ := mv_ok h
  have hp : paid = false := by rw [j.p, h3]; rfl
  simp only [Bool.and_eq_true, decide_eq_true_eq] at h2
  exact ⟨hp, h4, h2.2, ⟨j.p, fun _ => h2.2, j.b⟩⟩
theorem OnceJ.last {bad : Bool} {t : Int × Int} (j : OnceJ bad t true) : pyC bad ((1 : Int) == 1 || (1 : Int) == 2) t = 12 ∧ mvC bad (decide (t.1 < 16) && decide ((0 : Int) < 16)) t t.1 = 12 := by
  have hb := j.b rfl
  have ho := j.o hb
  have hp : (t.2 != 0) = true := j.p.symm
  subst hb
  constructor
  · unfold pyC; rw [hp]; rfl
  · unfold mvC; rw [hp, decide_eq_true ho]; rfl
end Go.Sx
namespace Go.Sx
theorem live1 {K : Value} : mvC (inBad 0 1 5 0 0 0) (decide ((1 : Int) < 16) && decide ((2 : Int) < 16)) (tkF [] K 1) 1 = 0 := rfl
theorem live2 {K : Value} : mvC (inBad 0 1 5 0 0 0) (decide ((1 : Int) < 16) && decide ((2 : Int) < 16)) (tkF (setIf (mvC (inBad 0 1 5 0 0 0) (decide ((1 : Int) < 16) && decide ((2 : Int) < 16)) (tkF [] K 1) 1) [] K (tV (2, (tkF [] K 1).2))) K 1) 1 = 13 := by
  rw [tkF_set0 live1]; rfl
theorem live3 {K : Value} {c : Int} {v : Value} (hc : c = 13) : (tkF (setIf c (setIf (mvC (inBad 0 1 5 0 0 0) (decide ((1 : Int) < 16) && decide ((2 : Int) < 16)) (tkF [] K 1) 1) [] K (tV (2, (tkF [] K 1).2))) K v) K 1).1 = 2 := by
  rw [tkF_setN (by rw [hc]; decide), tkF_set0 live1]
end Go.Sx
