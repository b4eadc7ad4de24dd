/- Tickets: what is computed. -/
import Derived.Test.YtohkmdnelbajiaaDoorSxH6
import Derived.Test.YtohkmdnelbajiaaDoorSxE6
import Derived.Test.YtohkmdnelbajiaaDoorSxB11
set_option linter.unusedVariables false
set_option linter.unusedSimpArgs false
namespace Go.Sx
open Go.RowKit
noncomputable def tkF (m : KV) (k : Value) (o : Int) : Int × Int := match mget m k with | some v => unT v | none => (o, 0)
theorem tkF_some {m : KV} {k : Value} {o : Int} {x : (Int × Int) × Bool} (h : x.1 = unT ((mget m k).getD (tV (0, 0))) ∧ x.2 = (mget m k).isSome) (h2 : x.2 = true) : tkF m k o = x.1 := by
  obtain ⟨h1, h3⟩ := h
  rw [h2] at h3
  unfold tkF
  cases hg : mget m k with
  | none => rw [hg] at h3; cases h3
  | some v => rw [h1, hg]; rfl
theorem tkF_none {m : KV} {k : Value} {o : Int} {x : (Int × Int) × Bool} (h : x.1 = unT ((mget m k).getD (tV (0, 0))) ∧ x.2 = (mget m k).isSome) (h2 : x.2 = false) : tkF m k o = (o, 0) := by
  obtain ⟨h1, h3⟩ := h
  rw [h2] at h3
  unfold tkF
  cases hg : mget m k with
  | none => rfl
  | some v => rw [hg] at h3; cases h3
/-- May an intent not be? -/
def inBad (xt xo m0 m1 m2 m3 : Int) : Bool := decide (xt ≥ 4) || (decide (xo ≥ 16) || (m0 == (0 : Int) && (m1 == (0 : Int) && (m2 == (0 : Int) && (m3 == (0 : Int))))))
def mvC (bad right : Bool) (t : Int × Int) (fr : Int) : Int := bif bad then 6 else bif !right then 1 else bif t.2 != 0 then 12 else bif t.1 != fr then 13 else 0
def pyC (bad right : Bool) (t : Int × Int) : Int := bif bad then 6 else bif !right then 1 else bif t.2 != 0 then 12 else 0
noncomputable def setIf (c : Int) (m : KV) (k v : Value) : KV := bif c == 0 then mset m k v else m
def addIf (c : Int) (L : List Ent) (e : Ent) : List Ent := bif c == 0 then L ++ [e] else L
theorem bifneT {c : Bool} {n : Int} (h : c = true) (hn : (n != 0) = true) : ((bif c then n else 0) != (0 : Int)) = true := by rw [h]; exact hn
theorem bifneF {c : Bool} {n : Int} (h : c = false) : ((bif c then n else 0) != (0 : Int)) = false := by rw [h]; rfl
theorem xeq4w {P : Program} {t e : TypeId} (hg : P.eqGuardType P.depth t = false) (he : P.underlying e = some (.int .u64)) (ha : ∀ w, (isAgg e).run P w = .ok false w) (hs : ∀ w, (sizeOf e).run P w = .ok 1 w) (hu : P.underlying t = some (.array 4 e)) (a0 a1 a2 a3 b0 b1 b2 b3 : Int) :
    PureRun P (xBin .eql t (.agg #[.int .u64 a0, .int .u64 a1, .int .u64 a2, .int .u64 a3]) (.agg #[.int .u64 b0, .int .u64 b1, .int .u64 b2, .int .u64 b3])) (.bool (a0 == b0 && (a1 == b1 && (a2 == b2 && (a3 == b3))))) := by
  intro w
  have h := eq_arr4 hu he ha hs a0 a1 a2 a3 b0 b1 b2 b3 w
  have g : (eqGuard .eql t (.const (.agg #[.int .u64 a0, .int .u64 a1, .int .u64 a2, .int .u64 a3])) (.const (.agg #[.int .u64 b0, .int .u64 b1, .int .u64 b2, .int .u64 b3])) (.agg #[.int .u64 a0, .int .u64 a1, .int .u64 a2, .int .u64 a3]) (.agg #[.int .u64 b0, .int .u64 b1, .int .u64 b2, .int .u64 b3])).run P w = .ok () w := run_eqGuard_agg (w := w) .eql t _ _ _ _ hg
  have q : (binOp .eql t (.agg #[.int .u64 a0, .int .u64 a1, .int .u64 a2, .int .u64 a3]) (.agg #[.int .u64 b0, .int .u64 b1, .int .u64 b2, .int .u64 b3])).run P w = .ok (.bool (a0 == b0 && (a1 == b1 && (a2 == b2 && (a3 == b3))))) w := by
    rw [run_eql_struct, h]; rfl
  simp [xBin, Sem.run_bind, g, q]
end Go.Sx
