/- SHA-256, as the program reckons it: numbers of 32 bits. -/
import Derived.Test.YtohkmdnelbajiaaDoorSxH2
set_option linter.unusedVariables false
set_option linter.unusedSimpArgs false
namespace Go.Sx
def xor32 (a b : Int) : Int := IntKind.u32.wrap (((BitVec.ofInt 32 a ^^^ BitVec.ofInt 32 b : BitVec 32).toNat : Nat) : Int)
def and32 (a b : Int) : Int := IntKind.u32.wrap (((BitVec.ofInt 32 a &&& BitVec.ofInt 32 b : BitVec 32).toNat : Nat) : Int)
def or32 (a b : Int) : Int := IntKind.u32.wrap (((BitVec.ofInt 32 a ||| BitVec.ofInt 32 b : BitVec 32).toNat : Nat) : Int)
def not32 (a : Int) : Int := IntKind.u32.wrap (((BitVec.ofInt 32 4294967295 ^^^ BitVec.ofInt 32 a : BitVec 32).toNat : Nat) : Int)
def add32 (a b : Int) : Int := IntKind.u32.wrap (a + b)
def shr32 (n : Nat) (a : Int) : Int := Int.fdiv a (2 ^ n)
def rotl (s : Nat) (x : Int) : Int := or32 (IntKind.u32.wrap (x * 2 ^ s)) (Int.fdiv x (2 ^ (32 - s)))
def rotr (n : Nat) (x : Int) : Int := rotl (32 - n) x
def tur (a b c : Nat) (x : Int) : Int := xor32 (xor32 (rotr a x) (rotr b x)) (rotr c x)
def sg0 (x : Int) : Int := xor32 (xor32 (rotr 7 x) (rotr 18 x)) (shr32 3 x)
def sg1 (x : Int) : Int := xor32 (xor32 (rotr 17 x) (rotr 19 x)) (shr32 10 x)
def cat4 (q : Nat → Int) (i : Nat) : Nat → Int
  | 0 => 0
  | k + 1 => or32 (IntKind.u32.wrap (cat4 q i k * 2 ^ 8)) (IntKind.u32.wrap (q (4 * i + k)))
def nx0 (l : List Int) (i : Nat) : Int := add32 (l.getD (i - 16) 0) (l.getD (i - 7) 0)
def nx (l : List Int) (i : Nat) : Int := add32 (add32 (nx0 l i) (sg0 (l.getD (i - 15) 0))) (sg1 (l.getD (i - 2) 0))
def wl (q : Nat → Int) : Nat → List Int
  | 0 => []
  | i + 1 => wl q i ++ [if i < 16 then cat4 q i 4 else nx (wl q i) i]
theorem wl_length (q : Nat → Int) : ∀ i, (wl q i).length = i
  | 0 => rfl
  | i + 1 => by simp [wl, wl_length q i]
def wz (q : Nat → Int) (i : Nat) : List Int := wl q i ++ List.replicate (64 - i) 0
theorem wz_length {q : Nat → Int} {i : Nat} (h : i ≤ 64) : (wz q i).length = 64 := by simp [wz, wl_length]; omega
theorem wz_get {q : Nat → Int} {i j : Nat} (h : j < i) : (wz q i).getD j 0 = (wl q i).getD j 0 := by
  simp [wz, List.getElem?_append_left (show j < (wl q i).length by rw [wl_length]; exact h)]
theorem wz_at {q : Nat → Int} {i : Nat} (h : i < 64) : (wz q i).getD i 0 = 0 := by
  simp [wz, List.getElem?_append_right (show (wl q i).length ≤ i by rw [wl_length]; exact Nat.le_refl _), wl_length, List.getElem?_replicate, show 0 < 64 - i by omega]
theorem wz_set {q : Nat → Int} {i : Nat} (h : i < 64) (v : Int) : (wz q i).set i v = wl q i ++ v :: List.replicate (63 - i) 0 := by
  have e : 64 - i = (63 - i) + 1 := by omega
  rw [wz, e, List.replicate_succ, List.set_append_right i v (by rw [wl_length]; exact Nat.le_refl _), wl_length]
  simp
theorem wz_step {q : Nat → Int} {i : Nat} (h : i < 64) {v : Int} (hv : v = if i < 16 then cat4 q i 4 else nx (wl q i) i) : (wz q i).set i v = wz q (i + 1) := by
  have e : 63 - i = 64 - (i + 1) := by omega
  rw [wz_set h, wz, wl, ← hv, e, List.append_assoc]
  rfl
theorem wz_64 (q : Nat → Int) : wz q 64 = wl q 64 := by simp [wz]
structure S8 where
  (a b c d e f g h : Int)
def S8.ch (s : S8) : Int := xor32 (and32 s.e s.f) (and32 (not32 s.e) s.g)
def S8.mj (s : S8) : Int := xor32 (xor32 (and32 s.a s.b) (and32 s.a s.c)) (and32 s.b s.c)
def S8.t1 (s : S8) (k w : Int) : Int := add32 (add32 (add32 (add32 s.h (tur 6 11 25 s.e)) s.ch) k) w
def S8.t2 (s : S8) : Int := add32 (tur 2 13 22 s.a) s.mj
def S8.rnd (s : S8) (k w : Int) : S8 := ⟨add32 (s.t1 k w) s.t2, s.a, s.b, s.c, add32 s.d (s.t1 k w), s.e, s.f, s.g⟩
def rnds (K W : List Int) (s : S8) : Nat → S8
  | 0 => s
  | i + 1 => (rnds K W s i).rnd (K.getD i 0) (W.getD i 0)
def take8 (K : List Int) (q : Nat → Int) (s : S8) : S8 :=
  let r := rnds K (wl q 64) s 64
  ⟨add32 s.a r.a, add32 s.b r.b, add32 s.c r.c, add32 s.d r.d, add32 s.e r.e, add32 s.f r.f, add32 s.g r.g, add32 s.h r.h⟩
/-! ### The words of a block -/
def ag64 (l : List Int) : Value := .agg #[.int .u32 (l.getD 0 0), .int .u32 (l.getD 1 0), .int .u32 (l.getD 2 0), .int .u32 (l.getD 3 0), .int .u32 (l.getD 4 0), .int .u32 (l.getD 5 0), .int .u32 (l.getD 6 0), .int .u32 (l.getD 7 0), .int .u32 (l.getD 8 0), .int .u32 (l.getD 9 0), .int .u32 (l.getD 10 0), .int .u32 (l.getD 11 0), .int .u32 (l.getD 12 0), .int .u32 (l.getD 13 0), .int .u32 (l.getD 14 0), .int .u32 (l.getD 15 0), .int .u32 (l.getD 16 0), .int .u32 (l.getD 17 0), .int .u32 (l.getD 18 0), .int .u32 (l.getD 19 0), .int .u32 (l.getD 20 0), .int .u32 (l.getD 21 0), .int .u32 (l.getD 22 0), .int .u32 (l.getD 23 0), .int .u32 (l.getD 24 0), .int .u32 (l.getD 25 0), .int .u32 (l.getD 26 0), .int .u32 (l.getD 27 0), .int .u32 (l.getD 28 0), .int .u32 (l.getD 29 0), .int .u32 (l.getD 30 0), .int .u32 (l.getD 31 0), .int .u32 (l.getD 32 0), .int .u32 (l.getD 33 0), .int .u32 (l.getD 34 0), .int .u32 (l.getD 35 0), .int .u32 (l.getD 36 0), .int .u32 (l.getD 37 0), .int .u32 (l.getD 38 0), .int .u32 (l.getD 39 0), .int .u32 (l.getD 40 0), .int .u32 (l.getD 41 0), .int .u32 (l.getD 42 0), .int .u32 (l.getD 43 0), .int .u32 (l.getD 44 0), .int .u32 (l.getD 45 0), .int .u32 (l.getD 46 0), .int .u32 (l.getD 47 0), .int .u32 (l.getD 48 0), .int .u32 (l.getD 49 0), .int .u32 (l.getD 50 0), .int .u32 (l.getD 51 0), .int .u32 (l.getD 52 0), .int .u32 (l.getD 53 0), .int .u32 (l.getD 54 0), .int .u32 (l.getD 55 0), .int .u32 (l.getD 56 0), .int .u32 (l.getD 57 0), .int .u32 (l.getD 58 0), .int .u32 (l.getD 59 0), .int .u32 (l.getD 60 0), .int .u32 (l.getD 61 0), .int .u32 (l.getD 62 0), .int .u32 (l.getD 63 0)]
theorem eta64 {l : List Int} (h : l.length = 64) : [l.getD 0 0, l.getD 1 0, l.getD 2 0, l.getD 3 0, l.getD 4 0, l.getD 5 0, l.getD 6 0, l.getD 7 0, l.getD 8 0, l.getD 9 0, l.getD 10 0, l.getD 11 0, l.getD 12 0, l.getD 13 0, l.getD 14 0, l.getD 15 0, l.getD 16 0, l.getD 17 0, l.getD 18 0, l.getD 19 0, l.getD 20 0, l.getD 21 0, l.getD 22 0, l.getD 23 0, l.getD 24 0, l.getD 25 0, l.getD 26 0, l.getD 27 0, l.getD 28 0, l.getD 29 0, l.getD 30 0, l.getD 31 0, l.getD 32 0, l.getD 33 0, l.getD 34 0, l.getD 35 0, l.getD 36 0, l.getD 37 0, l.getD 38 0, l.getD 39 0, l.getD 40 0, l.getD 41 0, l.getD 42 0, l.getD 43 0, l.getD 44 0, l.getD 45 0, l.getD 46 0, l.getD 47 0, l.getD 48 0, l.getD 49 0, l.getD 50 0, l.getD 51 0, l.getD 52 0, l.getD 53 0, l.getD 54 0, l.getD 55 0, l.getD 56 0, l.getD 57 0, l.getD 58 0, l.getD 59 0, l.getD 60 0, l.getD 61 0, l.getD 62 0, l.getD 63 0] = l := by
  have e : (List.range 64).map (fun i => l.getD i 0) = l := by
    apply List.ext_getElem
    · simp [h]
    · intro i h1 h2
      simp [h2]
  exact e
theorem ag64_eq {l : List Int} (h : l.length = 64) : ag64 l = .agg (arrV .u32 l) := by
  conv => rhs; rw [← eta64 h]
  rfl
def qf (cs : Array Value) (off : Nat) : Nat → Int := fun k => ci (cs.getD (off + k) undef)
def SrcOK (cs : Array Value) (off : Nat) : Prop := ∀ k, k < 64 → cs[off + k]? = some (.int .u8 (qf cs off k))
theorem set_get0 {l : List Int} {i : Nat} (h : i < l.length) : l.set i (l.getD i 0) = l := by
  apply List.ext_getElem
  · simp
  · intro j h1 h2
    rw [List.getElem_set]
    split
    · subst_vars; simp [h]
    · rfl
theorem words_0 {q : Nat → Int} {x : Nat} (h : x < 64) : wz q x = (wz q x).set x (cat4 q x 0) := by
  have := set_get0 (l := wz q x) (i := x) (by rw [wz_length (by omega)]; exact h)
  rw [wz_at h] at this
  exact this.symm
theorem words_in {cs : Array Value} {off x k : Nat} (hx : x < 64) :
    (arrV .u32 ((wz (qf cs off) x).set x (cat4 (qf cs off) x k))).setIfInBounds (Int.toNat ((x : Nat) : Int)) (.int .u32 (IntKind.u32.wrap ((BitVec.ofInt 32 (IntKind.u32.wrap (ci ((arrV .u32 ((wz (qf cs off) x).set x (cat4 (qf cs off) x k))).getD (Int.toNat ((x : Nat) : Int)) undef) * 2 ^ 8)) ||| BitVec.ofInt 32 (IntKind.u32.wrap (ci (cs.getD (off + Int.toNat (4 * ((x : Nat) : Int)) + Int.toNat ((k : Nat) : Int)) undef))) : BitVec 32).toNat : Int))) =
      arrV .u32 ((wz (qf cs off) x).set x (cat4 (qf cs off) x (k + 1))) := by
  have e1 : Int.toNat ((x : Nat) : Int) = x := by omega
  have e2 : off + Int.toNat (4 * ((x : Nat) : Int)) + Int.toNat ((k : Nat) : Int) = off + (4 * x + k) := by omega
  rw [e1, e2, arrV_ci (by rw [List.length_set, wz_length (by omega)]; exact hx), arrV_set, List.set_set]
  have e3 : ((wz (qf cs off) x).set x (cat4 (qf cs off) x k)).getD x 0 = cat4 (qf cs off) x k := by
    have : x < (wz (qf cs off) x).length := by rw [wz_length (by omega)]; exact hx
    simp [this]
  rw [e3]; rfl
theorem words_lo {q : Nat → Int} {x : Nat} (hx : x < 16) : (wz q x).set x (cat4 q x 4) = wz q (x + 1) := wz_step (by omega) (by rw [if_pos hx])
theorem words_lo4 {q : Nat → Int} {x k : Nat} (hx : x < 16) (hk : k = 4) : (wz q x).set x (cat4 q x k) = wz q (x + 1) := by rw [hk, words_lo hx]
theorem words_hi {q : Nat → Int} {x : Nat} (h1 : x < 64) (h0 : ¬ x < 16) {A : List Int} (hA : A = wz q x) {i16 i7 i15 i2 i : Nat} (e16 : i16 = x - 16) (e7 : i7 = x - 7) (e15 : i15 = x - 15) (e2 : i2 = x - 2) (ei : i = x) {v1 v2 v3 : Int}
    (h2 : v1 = IntKind.u32.wrap (ci ((arrV .u32 A).getD i16 undef) + ci ((arrV .u32 A).getD i7 undef)))
    (h3 : v2 = IntKind.u32.wrap (ci (((arrV .u32 A).setIfInBounds i (.int .u32 v1)).getD i undef) + sg0 (ci ((arrV .u32 A).getD i15 undef))))
    (h4 : v3 = IntKind.u32.wrap (ci ((((arrV .u32 A).setIfInBounds i (.int .u32 v1)).setIfInBounds i (.int .u32 v2)).getD i undef) + sg1 (ci ((arrV .u32 A).getD i2 undef)))) :
    (((arrV .u32 A).setIfInBounds i (.int .u32 v1)).setIfInBounds i (.int .u32 v2)).setIfInBounds i (.int .u32 v3) = arrV .u32 (wz q (x + 1)) := by
  subst hA e16 e7 e15 e2 ei
  have hl : (wz q i).length = 64 := wz_length (by omega)
  have g : ∀ j, j < i → ci ((arrV .u32 (wz q i)).getD j undef) = (wl q i).getD j 0 := fun j hj => by rw [arrV_ci (by omega), wz_get hj]
  have s1 : ∀ v : Int, ci ((arrV .u32 ((wz q i).set i v)).getD i undef) = v := fun v => by
    rw [arrV_ci (by rw [List.length_set]; omega)]
    simp [show i < (wz q i).length by omega]
  rw [g _ (by omega), g _ (by omega)] at h2
  rw [g _ (by omega), arrV_set, s1] at h3
  rw [g _ (by omega), arrV_set, arrV_set, List.set_set, s1] at h4
  rw [arrV_set, arrV_set, arrV_set, List.set_set, List.set_set]
  rw [wz_step h1 (v := v3)]
  rw [if_neg h0, h4, h3, h2]; rfl
theorem wz_last {q : Nat → Int} {x : Nat} (h : x + 1 = 64) : arrV .u32 (wz q (x + 1)) = arrV .u32 (wl q 64) := by rw [h, wz_64]
theorem arrS_get {k : IntKind} {cs : Array Value} {l : List Int} {i : Nat} (h : cs = arrV k l) (hi : i < l.length) : cs[i]? = some (.int k (ci (cs.getD i undef))) := by subst h; exact arrV_get hi
theorem words_arr {cs : Array Value} {l : List Int} (h : cs = arrV .u32 l) (hl : l.length = 64) : Value.agg cs = ag64 l := by rw [h, ag64_eq hl]
theorem xloadA {P : Program} {te : TypeId} {n : Nat} (ha : ∀ w, (isAgg te).run P w = .ok true w) (hs : ∀ w, (sizeOf te).run P w = .ok n w) {b : Nat} {cs : Array Value} {ty : TypeId} (hn : cs.size = n) {v : Value} (hv : Value.agg cs = v) :
    OpT P (do pure (.value (← Instr.loadAt te (.pointer (some ⟨b, 0, none⟩))))) [.blk b (.cells cs ty (0, 0))] Unit (fun _ => v) (fun _ => [.blk b (.cells cs ty (0, 0))]) (fun _ => True) := by
  intro R w ho
  have hb := ho.block (i := 0) rfl
  have hr := run_loadCells_list (P := P) w ⟨b, 0, none⟩ cs.toList (by
    intro j c hj
    have e : (⟨b, 0, none⟩ : Addr).add j = ⟨b, j, none⟩ := by rw [Addr.add_lit, Nat.zero_add]
    rw [e, cell_of_block hb rfl]
    simpa using hj)
  subst hv
  refine ⟨(), w, trivial, .inl ?_, ho, Ext.refl w⟩
  have hl : cs.toList.length = n := by simpa using hn
  rw [hl] at hr
  simp [Instr.loadAt, Instr.sureAddr, loadVar, Sem.run_bind, ha, hs, hr]
end Go.Sx
namespace Go.Sx
theorem src_any {cs : Array Value} {off o : Nat} (h : SrcOK cs off) (h1 : off ≤ o) (h2 : o < off + 64) : cs[o]? = some (.int .u8 (ci (cs.getD o undef))) := by
  have := h (o - off) (by omega)
  unfold qf at this
  rwa [show off + (o - off) = o by omega] at this
def f_part (m : Nat) : List Value → Value := fun vs => .slice (some ⟨vblk (varg vs 0), voff (varg vs 0) + (ci (varg vs 1)).toNat, none⟩) m (vcap (varg vs 0) - (ci (varg vs 1)).toNat)
def f_pidx : List Value → Value := fun vs => .pointer (some ⟨vblk (varg vs 0), voff (varg vs 0) + (ci (varg vs 1)).toNat, none⟩)
end Go.Sx
namespace Go.Sx
def shaK : List Int := [1116352408, 1899447441, 3049323471, 3921009573, 961987163, 1508970993, 2453635748, 2870763221, 3624381080, 310598401, 607225278, 1426881987, 1925078388, 2162078206, 2614888103, 3248222580, 3835390401, 4022224774, 264347078, 604807628, 770255983, 1249150122, 1555081692, 1996064986, 2554220882, 2821834349, 2952996808, 3210313671, 3336571891, 3584528711, 113926993, 338241895, 666307205, 773529912, 1294757372, 1396182291, 1695183700, 1986661051, 2177026350, 2456956037, 2730485921, 2820302411, 3259730800, 3345764771, 3516065817, 3600352804, 4094571909, 275423344, 430227734, 506948616, 659060556, 883997877, 958139571, 1322822218, 1537002063, 1747873779, 1955562222, 2024104815, 2227730452, 2361852424, 2428436474, 2756734187, 3204031479, 3329325298]
def shaH : List Int := [1779033703, 3144134277, 1013904242, 2773480762, 1359893119, 2600822924, 528734635, 1541459225]
theorem shaK_length : shaK.length = 64 := rfl
theorem xa64 {P : Program} {t e : TypeId} (hu : P.underlying t = some (.array 64 e)) (hs : ∀ w, (sizeOf e).run P w = .ok 1 w) (ha : ∀ w, (isAgg e).run P w = .ok false w) {l : List Int} (hl : l.length = 64) (ki : IntKind) (i : Int) (h0 : 0 ≤ i) (h1 : i < 64) :
    PureRun P (do pure (.value (← Instr.index t (ag64 l) (.int ki i)))) (.int .u32 (l.getD i.toNat 0)) := by
  rw [ag64_eq hl]
  exact xaval hu hs ha hl ki i i.toNat (by omega) (by omega)
end Go.Sx
