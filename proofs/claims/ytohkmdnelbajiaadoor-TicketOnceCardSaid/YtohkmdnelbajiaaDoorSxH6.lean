/- Keys of 32 bytes; values of two bytes. -/
import Derived.Test.YtohkmdnelbajiaaDoorSxH5
set_option linter.unusedVariables false
set_option linter.unusedSimpArgs false
namespace Go.Sx
open Go.RowKit
theorem all_range_ints : ∀ (xs ys : List Int), xs.length = ys.length → ((List.range xs.length).all fun i => xs.getD i 0 == ys.getD i 0) = decide (xs = ys)
  | [], [], _ => rfl
  | x :: xs, y :: ys, h => by
    have ih := all_range_ints xs ys (by simpa using h)
    rw [List.length_cons, List.range_succ_eq_map, List.all_cons, List.all_map]
    simp only [List.getD_cons_zero, Function.comp_def, List.getD_cons_succ, ih]
    rw [Bool.eq_iff_iff]
    simp
  | [], _ :: _, h => by simp at h
  | _ :: _, [], h => by simp at h
theorem part_arrV {P : Program} {e : TypeId} {k : IntKind} {xs : List Int} {i : Nat} (ha : ∀ w, (isAgg e).run P w = .ok false w) (hi : i < xs.length) (w : World) : (part e (arrV k xs) (i * 1)).run P w = .ok (.int k (xs.getD i 0)) w := by
  have hg : (arrV k xs)[i]? = some (.int k (xs.getD i 0)) := by simp [arrV, hi]
  simp [part, ha w, hg]
theorem eq_arrn {P : Program} {t e : TypeId} {n : Nat} {k : IntKind} (w : World) (d : Nat) (ht : P.underlying t = some (.array n e)) (he : P.underlying e = some (.int k)) (ha : ∀ w, (isAgg e).run P w = .ok false w) (hsz : ∀ w, (sizeOf e).run P w = .ok 1 w)
    (xs ys : List Int) (hx : xs.length = n) (hy : ys.length = n) : (Op.equalIn (d + 2) t (.agg (arrV k xs)) (.agg (arrV k ys))).run P w = .ok (decide (xs = ys)) w := by
  rw [← all_range_ints xs ys (hx.trans hy.symm), hx, List.range_eq_range', Op.equalIn]
  simp only [Sem.run_bind, run_underlying ht, Result.andThen_ok, hsz, Std.Legacy.Range.forIn_eq_forIn_range', Std.Legacy.Range.size, Nat.sub_zero, Nat.add_sub_cancel, Nat.div_one]
  have hl : ∀ i ∈ List.range' 0 n 1, i < n := fun i hi => by simpa using (List.mem_range'_1.1 hi).2
  generalize List.range' 0 n 1 = l at hl ⊢
  induction l with
  | nil => simp
  | cons i l ih =>
    have hi : i < n := hl i (by simp)
    have px := part_arrV (k := k) (xs := xs) ha (show i < xs.length by omega) w
    have py := part_arrV (k := k) (xs := ys) ha (show i < ys.length by omega) w
    have pe : (Op.equalIn (d + 1) e (.int k (xs.getD i 0)) (.int k (ys.getD i 0))).run P w = .ok (xs.getD i 0 == ys.getD i 0) w := by
      have := run_equalIn_int (P := P) w d e k k (xs.getD i 0) (ys.getD i 0) he
      simpa using this
    simp only [List.forIn_cons, Sem.run_bind, px, py, pe, Result.andThen_ok, List.all_cons]
    cases hb : (xs.getD i 0 == ys.getD i 0)
    · simp
    · simp only [Bool.not_true, Bool.false_eq_true, if_false, Sem.run_pure, Result.andThen_ok, Bool.true_and]
      exact ih fun j hj => hl j (by simp [hj])
theorem check_arrn {P : Program} {t e : TypeId} {n : Nat} {k : IntKind} (w : World) (b : Bool) (d : Nat) (ht : P.underlying t = some (.array n e)) (he : P.underlying e = some (.int k)) (ha : ∀ w, (isAgg e).run P w = .ok false w) (hsz : ∀ w, (sizeOf e).run P w = .ok 1 w)
    (xs : List Int) (hx : xs.length = n) : (Instr.checkKey b (d + 2) t (.agg (arrV k xs))).run P w = .ok () w := by
  rw [Instr.checkKey]
  simp only [Sem.run_bind, run_underlying ht, Result.andThen_ok, hsz, Std.Legacy.Range.forIn_eq_forIn_range', Std.Legacy.Range.size, Nat.sub_zero, Nat.add_sub_cancel, Nat.div_one]
  have hl : ∀ i ∈ List.range' 0 n 1, i < n := fun i hi => by simpa using (List.mem_range'_1.1 hi).2
  generalize List.range' 0 n 1 = l at hl ⊢
  induction l with
  | nil => simp
  | cons i l ih =>
    have hi : i < n := hl i (by simp)
    have px := part_arrV (k := k) (xs := xs) ha (show i < xs.length by omega) w
    have pc : (Instr.checkKey b (d + 1) e (.int k (xs.getD i 0))).run P w = .ok () w := by
      rw [Instr.checkKey]
      simp only [Sem.run_bind, run_underlying he, Result.andThen_ok, Sem.run_pure]
    simp only [List.forIn_cons, Sem.run_bind, hsz, Result.andThen_ok, px, pc, Sem.run_pure]
    exact ih fun j hj => hl j (by simp [hj])
theorem hV_arr (f : Nat → Int) : hV f = .agg (arrV .u8 (l32 f)) := rfl
theorem l32_inj {f g : Nat → Int} (h : hV f = hV g) : l32 f = l32 g := by
  rw [hV_arr, hV_arr] at h
  injection h with h
  have e : ∀ l : List Int, (arrV .u8 l).toList.map ci = l := by
    intro l
    simp only [arrV]
    exact bv_ci l
  rw [← e (l32 f), ← e (l32 g), h]
theorem kl_arr32 {P : Program} {kt e : TypeId} (hu : P.underlying kt = some (.array 32 e)) (he : P.underlying e = some (.int .u8)) (ha : ∀ w, (isAgg e).run P w = .ok false w) (hsz : ∀ w, (sizeOf e).run P w = .ok 1 w) :
    KL P kt (fun v => ∃ f : Nat → Int, v = hV f) := by
  refine KL.of_asking hu ?_ ?_ ?_ ?_
  · rintro b _ w ⟨f, rfl⟩; exact check_arrn w b 9998 hu he ha hsz (l32 f) rfl
  · rintro _ _ ⟨f, rfl⟩ ⟨g, rfl⟩; rfl
  · rintro _ _ w ⟨f, rfl⟩ ⟨g, rfl⟩
    have h := eq_arrn w 9998 hu he ha hsz (l32 f) (l32 g) rfl rfl
    show (Op.equalIn 10000 kt (hV f) (hV g)).run P w = _
    rw [hV_arr f, hV_arr g, h]
    refine congrArg (fun b => Result.ok b w) ?_
    rw [← hV_arr f, ← hV_arr g]
    by_cases hfg : hV f = hV g
    · simp [hfg, l32_inj hfg]
    · have : l32 f ≠ l32 g := fun h => hfg (by rw [hV_arr, hV_arr, h])
      simp [hfg, this]
  · rintro _ ⟨f, rfl⟩
    show Instr.sameBits (9999 + 1) _ _ = true
    simp [Instr.sameBits, hV]
/-- Two bytes, as a value. -/
def tV (v : Int × Int) : Value := .agg #[.int .u8 v.1, .int .u8 v.2]
def unT (x : Value) : Int × Int := (ci (cell x 0), ci (cell x 1))
theorem unT_tV (v : Int × Int) : unT (tV v) = v := rfl
end Go.Sx
