/- What is written, and its sum. -/
import Derived.Test.YtohkmdnelbajiaaDoorSxH4
set_option linter.unusedVariables false
set_option linter.unusedSimpArgs false
namespace Go.Sx
open Go.RowKit
def iL (xi xt xo m0 m1 m2 m3 : Int) : List Int := nb4 (IntKind.u64.wrap xi) ++ nb1 (IntKind.u64.wrap xt) ++ nb1 (IntKind.u64.wrap xo) ++ l32 (ib4 m0 m1 m2 m3)
theorem iL_length (xi xt xo m0 m1 m2 m3 : Int) : (iL xi xt xo m0 m1 m2 m3).length = 38 := rfl
def rblk (r : Row) : Nat := vblk (sv r)
def rcap (r : Row) : Nat := vcap (sv r)
def rcs (r : Row) : Array Value := scells (ss 5 r)
theorem row_some {r : Row} (h : 0 < (dg r).length) : ∃ b vs ex, r = .mk b vs ex := by
  cases r with
  | nil => simp [dg, vals] at h
  | mk b vs ex => exact ⟨b, vs, ex, rfl⟩
theorem sv_some {r : Row} {n : Nat} (h : 0 < (dg r).length) (hn : (dg r).length = n) : sv r = .slice (some ⟨rblk r, 0, none⟩) n (rcap r) := by
  obtain ⟨b, vs, ex, rfl⟩ := row_some h
  rw [← hn, ← vals_len]; rfl
theorem ss_some {r : Row} (h : 0 < (dg r).length) : ss 5 r = .blk (rblk r) (.cells (rcs r) 5 (0, 0)) := by
  obtain ⟨b, vs, ex, rfl⟩ := row_some h
  rfl
theorem rcap_le {r : Row} : (dg r).length ≤ rcap r := by
  cases r with
  | nil => simp [dg, vals]
  | mk b vs ex => simp [dg, vals, rcap, sv, vcap]
theorem xtakeB {P : Program} {t : TypeId} {z : Value} (h : SlT P t 5 z) (r : Row) {n m : Nat} (hn : (dg r).length = n) (hm : m ≤ n) (h0 : 0 < n) (k : IntKind) :
    OpT P (do pure (.value (← Instr.sliceAt t (sv r) none (some (.int k (m : Nat))) none))) [ss 5 r] Unit (fun _ => .slice (some ⟨rblk r, 0, none⟩) m (rcap r)) (fun _ => [.blk (rblk r) (.cells (rcs r) 5 (0, 0))]) (fun _ => True) := by
  have hc := rcap_le (r := r)
  have h1 := xpart_h h ⟨rblk r, 0, none⟩ n (rcap r) k (m : Nat) m rfl (by omega)
  rw [← sv_some (by omega) hn] at h1
  rw [← ss_some (by omega)]
  exact fun _ w hO => ⟨(), w, trivial, .inl (h1 w), hO, Ext.refl w⟩
theorem xdropB {P : Program} {t e : TypeId} {z : Value} (h : SlT P t e z) (r : Row) {n m : Nat} (hn : (dg r).length = n) (hm : m ≤ n) (h0 : 0 < n) (k : IntKind) :
    PureRun P (do pure (.value (← Instr.sliceAt t (sv r) (some (.int k (m : Nat))) none none))) (.slice (some ⟨rblk r, if rcap r = m then 0 else m, none⟩) (n - m) (rcap r - m)) := by
  have h1 := xpart_l h (rblk r) 0 n (rcap r) k (m : Nat) m rfl hm
  rw [← sv_some (by omega) hn, Nat.zero_add] at h1
  exact h1
def F_takeB (n : Nat) : List Value → List Slot → Ctr := fun vs hs => ⟨Unit, fun _ => .slice (some ⟨vblk (varg vs 0), 0, none⟩) n (vcap (varg vs 0)), fun _ => [.blk (vblk (varg vs 0)) (.cells (scells (sarg hs 0)) 5 (0, 0))], fun _ => True⟩
def f_dropB (n m : Nat) : List Value → Value := fun vs => .slice (some ⟨vblk (varg vs 0), if vcap (varg vs 0) = n then 0 else n, none⟩) m (vcap (varg vs 0) - n)
def lf (l : List Int) : Nat → Int := fun k => l.getD k 0
theorem row_src {r : Row} (hb : BOK r) (hn : (dg r).length = 64) : SrcOK (rcs r) 0 ∧ ∀ k, k < 64 → qf (rcs r) 0 k = lf (dg r) k := by
  obtain ⟨b, vs, ex, rfl⟩ := row_some (r := r) (by omega)
  have hv : vs = bv (dg (.mk b vs ex)) := hb.eq
  have g : ∀ k, k < 64 → (rcs (.mk b vs ex))[0 + k]? = some (.int .u8 (lf (dg (.mk b vs ex)) k)) := by
    intro k hk
    have hl : k < vs.length := by
      have := vals_len (.mk b vs ex); simp only [vals] at this; omega
    have e1 : (rcs (.mk b vs ex))[0 + k]? = vs[k]? := by simp [rcs, ss, scells, List.getElem?_append_left hl]
    have hk' : k < (dg (.mk b vs ex)).length := by omega
    have e2 : vs[k]? = (bv (dg (.mk b vs ex)))[k]? := congrArg (fun l : List Value => l[k]?) hv
    rw [e1, e2]
    simp [bv, lf, hk', List.getElem?_eq_getElem hk']
  have g2 : ∀ k, k < 64 → qf (rcs (.mk b vs ex)) 0 k = lf (dg (.mk b vs ex)) k := by
    intro k hk
    have := g k hk
    unfold qf
    rw [Array.getD_eq_getD_getElem?, this]; rfl
  exact ⟨fun k hk => by rw [g k hk, g2 k hk], g2⟩
theorem cat4_congr {q q' : Nat → Int} {i : Nat} : ∀ n, (∀ k, k < n → q (4 * i + k) = q' (4 * i + k)) → cat4 q i n = cat4 q' i n
  | 0, _ => rfl
  | n + 1, h => by rw [cat4, cat4, cat4_congr n (fun k hk => h k (by omega)), h n (by omega)]
theorem wl_congr {q q' : Nat → Int} (h : ∀ k, k < 64 → q k = q' k) : ∀ i, wl q i = wl q' i
  | 0 => rfl
  | i + 1 => by
    rw [wl, wl, wl_congr h i]
    by_cases hi : i < 16
    · rw [if_pos hi, if_pos hi, cat4_congr 4 (fun k hk => h _ (by omega))]
    · rw [if_neg hi, if_neg hi]
theorem take8_congr {K : List Int} {q q' : Nat → Int} {s : S8} (h : ∀ k, k < 64 → q k = q' k) : take8 K q s = take8 K q' s := by
  unfold take8; rw [wl_congr h]
def S8.nth (s : S8) : Nat → Int
  | 0 => s.a | 1 => s.b | 2 => s.c | 3 => s.d | 4 => s.e | 5 => s.f | 6 => s.g | _ => s.h
def sumf (s : S8) (i : Nat) : Int := IntKind.u8.wrap (Int.fdiv (s.nth (i / 4)) (2 ^ (24 - 8 * (i % 4))))
def tail43 : List Int := [128, 0, 0, 0, 0, 0, 0, 0, 0, 0, 0, 0, 0, 0, 0, 0, 0, 0, 0, 1, 88]
def S8.ofl (l : List Int) : S8 := ⟨l.getD 0 0, l.getD 1 0, l.getD 2 0, l.getD 3 0, l.getD 4 0, l.getD 5 0, l.getD 6 0, l.getD 7 0⟩
def sum43 (l : List Int) : Nat → Int := sumf (take8 shaK (lf (l ++ tail43)) (S8.ofl shaH))
/-- An intent's id. -/
def idF (xi xt xo m0 m1 m2 m3 : Int) : Nat → Int := sum43 ([3, 0, 0, 0, 38] ++ iL xi xt xo m0 m1 m2 m3)
end Go.Sx
