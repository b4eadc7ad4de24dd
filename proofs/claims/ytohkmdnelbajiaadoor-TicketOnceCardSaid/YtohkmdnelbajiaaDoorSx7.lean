/- A symbolic executor for the model's code, part 7: a whole region, drawn or not. -/
import Derived.Test.YtohkmdnelbajiaaDoorSx6
set_option linter.unusedVariables false
set_option linter.unusedSimpArgs false
namespace Go.Sx
open Go.RowKit

/-- The operations in a given order. -/
def seqW (P : Program) (n : Nat) (ops : Array Oper) : List (Nat × Ann) → St → (St → Prop) → Prop
  | [], s, K => K s
  | (i, a) :: l, s, K => match ops[i]? with | some o => opW P n ops o a s fun s' => seqW P n ops l s' K | none => False

theorem opW_mono {P : Program} {n : Nat} {ops : Array Oper} {o : Oper} {a : Ann} {s : St} {K K' : St → Prop} (hk : ∀ s, K s → K' s) (h : opW P n ops o a s K) : opW P n ops o a s K' := by
  have put : ∀ (d : Option Tmp) (v : Value) (fr : Nat → Value) (F : (Nat → Value) → St), putW n d v fr (fun f => K (F f)) → putW n d v fr (fun f => K' (F f)) := by
    intro d v fr F h
    unfold putW at h ⊢
    cases d with
    | none => exact hk _ h
    | some d => simp only at h ⊢; split <;> simp_all
  by_cases hd : isDfr a = false
  · rw [opW_eq hd] at h ⊢
    exact (good_t a).step _ _ _ h fun v H' _ hp => put _ _ _ _ hp
  · cases a <;> first | (exact absurd rfl hd) | skip
    obtain ⟨G, hG⟩ := guardW_iff (ops := ops) (o := o) (fr := s.fr)
    obtain ⟨hg, h⟩ := (hG _).1 h
    refine (hG _).2 ⟨hg, ?_⟩
    unfold dfrW at h ⊢
    split at h
    · split at h
      · exact put _ _ _ _ h
      · exact h.elim
    · exact h.elim

theorem seqW_mono {P : Program} {n : Nat} {ops : Array Oper} : ∀ {l : List (Nat × Ann)} {s : St} {K K' : St → Prop}, (∀ s, K s → K' s) → seqW P n ops l s K → seqW P n ops l s K'
  | [], _, _, _, hk, h => hk _ h
  | (i, a) :: l, s, K, K', hk, h => by
    simp only [seqW] at h ⊢
    cases ho : ops[i]? with
    | none => rw [ho] at h; exact h
    | some o => rw [ho] at h; exact opW_mono (fun s => seqW_mono hk) h

def indepI (n : Nat) (ops : Array Oper) (x y : Nat × Ann) : Bool :=
  match ops[x.1]?, ops[y.1]? with
  | some o1, some o2 => indep n ops o1 x.2 o2 y.2
  | _, _ => false

theorem seqW_front {P : Program} {n : Nat} {ops : Array Oper} {it : Nat × Ann} {L2 : List (Nat × Ann)} : ∀ {L1 : List (Nat × Ann)} {s : St} {K : St → Prop},
    (∀ x ∈ L1, indepI n ops x it = true) → seqW P n ops (L1 ++ it :: L2) s K → seqW P n ops (it :: (L1 ++ L2)) s K
  | [], _, _, _, h => h
  | x :: L1, s, K, hi, h => by
    have hx := hi x (by simp)
    obtain ⟨i, a⟩ := x
    obtain ⟨j, c⟩ := it
    unfold indepI at hx
    simp only at hx
    cases ho1 : ops[i]? with
    | none => rw [ho1] at hx; cases hx
    | some o1 =>
      cases ho2 : ops[j]? with
      | none => rw [ho1, ho2] at hx; cases hx
      | some o2 =>
        rw [ho1, ho2] at hx
        simp only [List.cons_append, seqW, ho1] at h
        have h2 := opW_mono (fun s hs => seqW_front (L1 := L1) (fun y hy => hi y (by simp [hy])) hs) h
        simp only [seqW, ho2] at h2
        have h3 := op_comm hx h2
        simp only [List.cons_append, seqW, ho1, ho2]
        exact h3

/-! ### A region in the text's order -/
theorem seq_sound {P : Program} {n : Nat} {r : Option Nat} {ops : Array Oper} {R : HP} {Q : Exit → Act → World → Prop} : ∀ (l : List (Nat × Ann)) {s : St} {K : St → Prop} {act : Act} {w : World},
    (r = none ∨ ∀ x ∈ l, isDfr x.2 = false) → seqW P n ops l s K → Rel n s act → Own s.H R w → (∀ a' w', After n K R w a' w' → Q .normal a' w') →
    wpOpsIn (FrR r) 0 P ops Q (l.map (·.1)) act w
  | [], s, K, act, w, _, h, hr, ho, hq => hq _ _ ⟨s, h, hr, ho, .refl _⟩
  | (i, a) :: l, s, K, act, w, hd, h, hr, ho, hq => by
    simp only [seqW] at h
    simp only [List.map_cons, wpOpsIn]
    cases hop : ops[i]? with
    | none => rw [hop] at h; exact h.elim
    | some o =>
      rw [hop] at h
      exact op_sound (hd.imp id fun h => h (i, a) (by simp)) h hr ho fun a' w' ⟨s', hs, hr', ho', he⟩ =>
        seq_sound l (hd.imp id fun h x hx => h x (by simp [hx])) hs hr' ho' fun a'' w'' ⟨s'', hs', hr'', ho'', he'⟩ => hq _ _ ⟨s'', hs', hr'', ho'', he.trans he'⟩

def zipFrom (i : Nat) : List Ann → List (Nat × Ann)
  | [] => []
  | a :: l => (i, a) :: zipFrom (i + 1) l

theorem zipFrom_idx : ∀ (as : List Ann) (i : Nat), (zipFrom i as).map (·.1) = List.range' i as.length
  | [], _ => rfl
  | a :: l, i => by simp [zipFrom, zipFrom_idx l (i + 1), List.range'_succ]

def lenIs : List Ann → Nat → Bool
  | [], n => Nat.beq n 0
  | _ :: l, n + 1 => lenIs l n
  | _ :: _, 0 => false
theorem lenIs_iff : ∀ {l : List Ann} {n : Nat}, lenIs l n = true → l.length = n
  | [], n, h => (Nat.eq_of_beq_eq_true h).symm
  | _ :: l, n + 1, h => by simp [lenIs_iff (l := l) (n := n) h]
  | _ :: _, 0, h => by cases h

theorem region_sound {P : Program} {n : Nat} {r : Option Nat} {id : Nat} {ops : Array Oper} {as : List Ann} {s : St} {K : St → Prop} {act : Act} {w : World} {R : HP} {Q : Exit → Act → World → Prop}
    (hl : lenIs as ops.size = true) (hd : r = none ∨ as.all (fun a => !isDfr a) = true) (h : seqW P n ops (zipFrom 0 as) s K) (hr : Rel n s act) (ho : Own s.H R w)
    (hq : ∀ a' w', After n K R w a' w' → Q .normal a' w') : (Code.region id ops false).wpIn (FrR r) 0 P Q act w := by
  refine wpIn_region ?_
  have e : List.range ops.size = (zipFrom 0 as).map (·.1) := by rw [zipFrom_idx, lenIs_iff hl, List.range_eq_range']
  rw [e]
  refine seq_sound _ (hd.imp _root_.id fun hd x hx => ?_) h hr ho hq
  have mem : ∀ (as : List Ann) (i : Nat) x, x ∈ zipFrom i as → x.2 ∈ as := by
    intro as
    induction as with
    | nil => intro i x hx; cases hx
    | cons a l ih =>
      intro i x hx
      rcases List.mem_cons.1 hx with rfl | hx
      · simp
      · exact List.mem_cons.2 (.inr (ih _ x hx))
  have := List.all_eq_true.1 hd x.2 (mem as 0 x hx)
  simpa using this

/-! ### A region that draws its order -/
inductive Prec (ops : Array Oper) : Nat → Nat → Prop where
  | direct {o : Oper} {e : Edge} {i : Nat} (ho : ops[i]? = some o) (he : e ∈ o.after) (hb : Region.binds .any e = true) : Prec ops e.on i
  | trans {o : Oper} {e : Edge} {x i : Nat} (ho : ops[i]? = some o) (he : e ∈ o.after) (hb : Region.binds .any e = true) (h : Prec ops x e.on) : Prec ops x i

def maskOf (o : Oper) (acc : List Nat) : Nat :=
  o.after.toList.foldl (fun m e => bif Region.binds .any e then m ||| 2 ^ e.on ||| acc.getD e.on 0 else m) 0

theorem maskOf_bit {o : Oper} {acc : List Nat} {x : Nat} (h : (maskOf o acc).testBit x = true) : ∃ e ∈ o.after, Region.binds .any e = true ∧ (x = e.on ∨ (acc.getD e.on 0).testBit x = true) := by
  have key : ∀ (l : List Edge) (m : Nat), (l.foldl (fun m e => bif Region.binds .any e then m ||| 2 ^ e.on ||| acc.getD e.on 0 else m) m).testBit x = true →
      m.testBit x = true ∨ ∃ e ∈ l, Region.binds .any e = true ∧ (x = e.on ∨ (acc.getD e.on 0).testBit x = true) := by
    intro l
    induction l with
    | nil => exact fun m h => .inl h
    | cons e l ih =>
      intro m h
      rcases ih _ h with h | ⟨e', he', h⟩
      · cases hb : Region.binds .any e with
        | false => simp only [hb, cond_false] at h; exact .inl h
        | true =>
          simp only [hb, cond_true, Nat.testBit_or, Bool.or_eq_true] at h
          rcases h with (h | h) | h
          · exact .inl h
          · rw [Nat.testBit_two_pow] at h
            exact .inr ⟨e, by simp, hb, .inl (by simpa using (of_decide_eq_true h).symm)⟩
          · exact .inr ⟨e, by simp, hb, .inr h⟩
      · exact .inr ⟨e', by simp [he'], h⟩
  rcases key _ _ h with h | ⟨e, he, h⟩
  · simp at h
  · exact ⟨e, Array.mem_toList_iff.1 he, h⟩

/-- Each operation behind those ahead of it: an edge leads there, or they touch unlike things; and edges lead back alone. -/
def chk (n : Nat) (ops : Array Oper) : (i : Nat) → (done : List (Nat × Ann)) → (masks : List Nat) → List Ann → Bool
  | _, _, _, [] => true
  | i, done, masks, a :: l =>
    match ops[i]? with
    | none => false
    | some o =>
      o.after.toList.all (fun e => !Region.binds .any e || Nat.blt e.on i) && ((done.all fun x => (maskOf o masks).testBit x.1 || indepI n ops x (i, a)) &&
        chk n ops (i + 1) (done ++ [(i, a)]) (masks ++ [maskOf o masks]) l)

/-- What the check says of each pair. -/
structure Drawn (n : Nat) (ops : Array Oper) (L : List (Nat × Ann)) : Prop where
  pair : ∀ L1 it L2, L = L1 ++ it :: L2 → ∀ x ∈ L1, Prec ops x.1 it.1 ∨ indepI n ops x it = true

theorem chk_sound {n : Nat} {ops : Array Oper} : ∀ (l : List Ann) (i : Nat) (done : List (Nat × Ann)) (masks : List Nat),
    chk n ops i done masks l = true → masks.length = i → (∀ y x, y < i → (masks.getD y 0).testBit x = true → Prec ops x y) →
    (∀ it, it ∈ zipFrom i l → ∃ o, ops[it.1]? = some o ∧ ∀ e ∈ o.after, Region.binds .any e = true → e.on < it.1) ∧
    (∀ L1 it L2, zipFrom i l = L1 ++ it :: L2 → ∀ x, x ∈ done ++ L1 → Prec ops x.1 it.1 ∨ indepI n ops x it = true)
  | [], i, done, masks, _, _, _ => ⟨fun it h => (by cases h), fun L1 it L2 h => (by simp [zipFrom] at h)⟩
  | a :: l, i, done, masks, h, hm, hp => by
    simp only [chk] at h
    cases ho : ops[i]? with
    | none => rw [ho] at h; cases h
    | some o =>
      rw [ho] at h
      simp only [Bool.and_eq_true] at h
      obtain ⟨h1, h2, h3⟩ := h
      have hback : ∀ e ∈ o.after, Region.binds .any e = true → e.on < i := by
        intro e he hb
        have := List.all_eq_true.1 h1 e (Array.mem_toList_iff.2 he)
        simp only [hb, Bool.not_true, Bool.false_or] at this
        simpa [Nat.blt_eq] using this
      have hmask : ∀ x, (maskOf o masks).testBit x = true → Prec ops x i := by
        intro x hx
        obtain ⟨e, he, hb, h⟩ := maskOf_bit hx
        rcases h with rfl | h
        · exact .direct ho he hb
        · exact .trans ho he hb (hp e.on x (hback e he hb) h)
      obtain ⟨r1, r2⟩ := chk_sound l (i + 1) (done ++ [(i, a)]) (masks ++ [maskOf o masks]) h3 (by simp [hm]) (by
        intro y x hy hb
        by_cases e : y = i
        · subst e
          rw [List.getD_eq_getElem?_getD, List.getElem?_append_right (by omega)] at hb
          simp [hm] at hb
          exact hmask x hb
        · rw [List.getD_eq_getElem?_getD, List.getElem?_append_left (by omega), ← List.getD_eq_getElem?_getD] at hb
          exact hp y x (by omega) hb)
      refine ⟨fun it hit => ?_, fun L1 it L2 hL x hx => ?_⟩
      · rcases List.mem_cons.1 hit with rfl | hit
        · exact ⟨o, ho, hback⟩
        · exact r1 it hit
      · cases L1 with
        | nil =>
          simp only [zipFrom, List.nil_append, List.cons.injEq] at hL
          obtain ⟨rfl, -⟩ := hL
          rw [List.append_nil] at hx
          have := List.all_eq_true.1 h2 x hx
          rcases Bool.or_eq_true _ _ ▸ this with h | h
          · exact .inl (hmask x.1 h)
          · exact .inr h
        | cons y L1 =>
          simp only [zipFrom, List.cons_append, List.cons.injEq] at hL
          obtain ⟨rfl, hL⟩ := hL
          exact r2 L1 it L2 hL x (by simp at hx ⊢; rcases hx with h | h | h <;> simp [h])

theorem go_acc {m : Region.Mode} {ops : Array Oper} : ∀ (fuel t : Nat) (listed : Array Bool) (acc : List Nat),
    Region.linearise.go m ops fuel t listed acc = acc.reverse ++ Region.linearise.go m ops fuel t listed []
  | 0, t, listed, acc => by simp [Region.linearise.go]
  | fuel + 1, t, listed, acc => by
    simp only [Region.linearise.go]
    split
    · rename_i i _
      rw [go_acc fuel _ _ (i :: acc), go_acc fuel _ _ [i]]
      simp
    · simp

theorem draw_sound {P : Program} {n : Nat} {r : Option Nat} {ops : Array Oper} {R : HP} {Q : Exit → Act → World → Prop} (fuel : Nat) : ∀ (t : Nat) (listed : Array Bool) (L : List (Nat × Ann)) {s : St} {K : St → Prop} {act : Act} {w : World},
    L.length = fuel → listed.size = ops.size → (∀ i, i < ops.size → (listed.getD i true = false ↔ i ∈ L.map (·.1))) →
    (L.map (·.1)).Nodup →
    (∀ it ∈ L, it.1 < ops.size) →
    (∀ i o e, ops[i]? = some o → listed.getD i true = true → e ∈ o.after → Region.binds .any e = true → listed.getD e.on false = true) →
    (∀ it L2, L = it :: L2 → ∀ o e, ops[it.1]? = some o → e ∈ o.after → Region.binds .any e = true → listed.getD e.on false = true) →
    (∀ L1 it L2, L = L1 ++ it :: L2 → ∀ o e, ops[it.1]? = some o → e ∈ o.after → Region.binds .any e = true → listed.getD e.on false = true ∨ e.on ∈ L1.map (·.1)) →
    (∀ L1 it L2, L = L1 ++ it :: L2 → ∀ x ∈ L1, Prec ops x.1 it.1 ∨ indepI n ops x it = true) →
    (r = none ∨ ∀ x ∈ L, isDfr x.2 = false) → seqW P n ops L s K → Rel n s act → Own s.H R w → (∀ a' w', After n K R w a' w' → Q .normal a' w') →
    wpOpsIn (FrR r) 0 P ops Q (Region.linearise.go .any ops fuel t listed []) act w := by
  induction fuel with
  | zero =>
    intro t listed L s K act w hlen _ _ _ _ _ _ _ _ _ h hr ho hq
    cases L with
    | nil => exact hq _ _ ⟨s, h, hr, ho, .refl _⟩
    | cons a l => simp at hlen
  | succ fuel ih =>
    intro t listed L s K act w hlen hsz hin hnd hlt hdown hfirst hedge hpair hd h hr ho hq
    simp only [Region.linearise.go]
    generalize hrs : (List.range ops.size).filter (fun i => !listed.getD i true && ((ops[i]?).map (·.after.all fun e => !Region.binds .any e || listed.getD e.on false)).getD false) = rs
    have hmem : ∀ i, i ∈ rs ↔ i < ops.size ∧ listed.getD i true = false ∧ ∃ o, ops[i]? = some o ∧ ∀ e ∈ o.after, Region.binds .any e = true → listed.getD e.on false = true := by
      intro i
      rw [← hrs, List.mem_filter, List.mem_range]
      constructor
      · rintro ⟨h1, h2⟩
        simp only [Bool.and_eq_true, Bool.not_eq_true'] at h2
        refine ⟨h1, h2.1, ?_⟩
        cases hop : ops[i]? with
        | none => rw [hop] at h2; simp at h2
        | some o =>
          rw [hop] at h2
          refine ⟨o, rfl, fun e he hb => ?_⟩
          have := Array.all_eq_true'.1 h2.2 e he
          simpa [hb] using this
      · rintro ⟨h1, h2, o, hop, he⟩
        refine ⟨h1, ?_⟩
        simp only [Bool.and_eq_true, Bool.not_eq_true']
        refine ⟨h2, ?_⟩
        rw [hop]
        refine Array.all_eq_true'.2 fun e hea => ?_
        cases hb : Region.binds .any e with
        | false => rfl
        | true => simp [he e hea hb]
    have hne : rs.length ≠ 0 := by
      cases L with
      | nil => simp at hlen
      | cons it L2 =>
        have hl := hlt it (by simp)
        have : it.1 ∈ rs := (hmem it.1).2 ⟨hl, (hin it.1 hl).2 (by simp), ops[it.1], by simp [hl], fun e he hb => hfirst it L2 rfl _ e (by simp [hl]) he hb⟩
        intro h0
        rw [List.length_eq_zero_iff] at h0
        rw [h0] at this
        cases this
    have hidx : t % rs.length < rs.length := Nat.mod_lt _ (Nat.pos_of_ne_zero hne)
    rw [List.getElem?_eq_getElem hidx]
    generalize hi : rs[t % rs.length] = i
    have hi' : i ∈ rs := hi ▸ List.getElem_mem hidx
    obtain ⟨hil, hil2, o, hop, hready⟩ := (hmem i).1 hi'
    simp only
    rw [go_acc]
    simp only [List.reverse_cons, List.reverse_nil, List.nil_append, List.singleton_append]
    have hiL := (hin i hil).1 hil2
    obtain ⟨it, hit, rfl⟩ := List.mem_map.1 hiL
    obtain ⟨L1, L2, rfl⟩ := List.append_of_mem hit
    -- nothing that is left ahead of it leads to it
    have hnoprec : ∀ x ∈ L1, ¬ Prec ops x.1 it.1 := by
      have closed : ∀ {a b : Nat}, Prec ops a b → (listed.getD b true = true ∨ b = it.1) → listed.getD a false = true := by
        intro a b hp
        induction hp with
        | direct ho' he hb =>
          rintro (hl | rfl)
          · exact hdown _ _ _ ho' hl he hb
          · rw [hop] at ho'; cases ho'; exact hready _ he hb
        | @trans o' e x i ho' he hb _ ihp =>
          intro hl
          have h1 : listed.getD e.on false = true := by
            rcases hl with hl | rfl
            · exact hdown _ _ _ ho' hl he hb
            · rw [hop] at ho'; cases ho'; exact hready _ he hb
          refine ihp (.inl ?_)
          simp only [Array.getD_eq_getD_getElem?] at h1 ⊢
          cases hx : listed[e.on]? with
          | none => rw [hx] at h1; simp at h1
          | some b => rw [hx] at h1; simpa using h1
      intro x hx hp
      have hxl := hlt x (by simp [hx])
      have h1 := closed hp (.inr rfl)
      have h2 := (hin x.1 hxl).2 (by simp; exact .inl ⟨x.2, hx⟩)
      simp only [Array.getD_eq_getD_getElem?] at h1 h2
      cases hx' : listed[x.1]? with
      | none => rw [hx'] at h1; simp at h1
      | some b => rw [hx'] at h1 h2; simp at h1 h2; rw [h1] at h2; cases h2
    have hfront := seqW_front (fun x hx => (hpair L1 it L2 rfl x hx).resolve_left (hnoprec x hx)) h
    obtain ⟨i, a⟩ := it
    simp only [seqW] at hfront
    simp only [wpOpsIn]
    rw [hop] at hfront ⊢
    refine op_sound (hd.imp id fun h => h (i, a) (by simp)) hfront hr ho fun a' w' ⟨s', hs, hr', ho', he⟩ => ?_
    have hget : ∀ j, (listed.setIfInBounds i true).getD j true = if j = i then true else listed.getD j true := by
      intro j
      simp only [Array.getD_eq_getD_getElem?, Array.getElem?_setIfInBounds]
      by_cases e : j = i
      · subst e; simp; split <;> rfl
      · simp [e, Ne.symm e]
    have hgetf : ∀ j, listed.getD j false = true ∨ j = i → (listed.setIfInBounds i true).getD j false = true := by
      intro j hj
      simp only [Array.getD_eq_getD_getElem?, Array.getElem?_setIfInBounds] at hj ⊢
      by_cases e : j = i
      · subst e; simp [hsz]; simp at hil; simp [hil]
      · rcases hj with hj | hj
        · simp [Ne.symm e]; simpa using hj
        · exact absurd hj e
    rw [List.map_append, List.map_cons] at hnd
    have hnd' : ((L1 ++ L2).map (·.1)).Nodup := by
      rw [List.map_append]
      exact List.Nodup.sublist (List.Sublist.append_left (List.sublist_cons_self _ _) _) hnd
    have hni : i ∉ (L1 ++ L2).map (·.1) := by
      rw [List.map_append, List.mem_append]
      rw [List.nodup_append] at hnd
      obtain ⟨_, h2, h3⟩ := hnd
      rw [List.nodup_cons] at h2
      rintro (h | h)
      · exact h3 i h i (by simp) rfl
      · exact h2.1 h
    have hsub : ∀ M1 y M2, L1 ++ L2 = M1 ++ y :: M2 → ∃ N1 N2, L1 ++ (i, a) :: L2 = N1 ++ y :: N2 ∧ (∀ x ∈ M1, x ∈ N1) ∧ (∀ x ∈ N1, x ∈ M1 ∨ x = (i, a)) := by
      intro M1 y M2 hM
      rcases List.append_eq_append_iff.1 hM with ⟨as, h1, h2⟩ | ⟨bs, h1, h2⟩
      · -- M1 = L1 ++ as, L2 = as ++ y :: M2
        subst h1
        refine ⟨L1 ++ (i, a) :: as, M2, by rw [h2]; simp, fun x hx => ?_, fun x hx => ?_⟩
        · rw [List.mem_append] at hx ⊢; rcases hx with h | h <;> simp [h]
        · rw [List.mem_append, List.mem_cons] at hx; rw [List.mem_append]; rcases hx with h | h | h <;> simp [h]
      · -- L1 = M1 ++ bs, y :: M2 = bs ++ L2
        subst h1
        cases bs with
        | nil =>
          simp only [List.nil_append] at h2
          subst h2
          exact ⟨M1 ++ [(i, a)], M2, by simp, fun x hx => by simp [hx], fun x hx => by simp at hx; rcases hx with h | h <;> simp [h]⟩
        | cons b bs =>
          simp only [List.cons_append, List.cons.injEq] at h2
          obtain ⟨rfl, rfl⟩ := h2
          exact ⟨M1, bs ++ (i, a) :: L2, by simp, fun x hx => hx, fun x hx => .inl hx⟩
    have hstep := ih (t / rs.length) (listed.setIfInBounds i true) (L1 ++ L2) (s := s') (K := K) (act := a') (w := w') (by simp at hlen ⊢; omega) (by simp [hsz])
      (fun j hj => by
        rw [hget]
        by_cases e : j = i
        · subst e; simp only [if_true]; exact ⟨fun h => (by cases h), fun h => absurd h hni⟩
        · rw [if_neg e, hin j hj]; simp [e])
      hnd' (fun it hit => hlt it (by simp at hit ⊢; rcases hit with h | h <;> simp [h]))
      (fun j o' e ho' hl hea hb => by
        rw [hget] at hl
        by_cases ej : j = i
        · subst ej; rw [hop] at ho'; cases ho'; exact hgetf _ (.inl (hready e hea hb))
        · rw [if_neg ej] at hl; exact hgetf _ (.inl (hdown j o' e ho' hl hea hb)))
      (fun y M2 hM o' e ho' hea hb => by
        obtain ⟨N1, N2, hN, _, hN2⟩ := hsub [] y M2 hM
        rcases hedge N1 y N2 hN o' e ho' hea hb with h | h
        · exact hgetf _ (.inl h)
        · obtain ⟨x, hx, hxe⟩ := List.mem_map.1 h
          rcases hN2 x hx with h | rfl
          · cases h
          · exact hgetf _ (.inr hxe.symm))
      (fun M1 y M2 hM o' e ho' hea hb => by
        obtain ⟨N1, N2, hN, hN1, hN2⟩ := hsub M1 y M2 hM
        rcases hedge N1 y N2 hN o' e ho' hea hb with h | h
        · exact .inl (hgetf _ (.inl h))
        · obtain ⟨x, hx, hxe⟩ := List.mem_map.1 h
          rcases hN2 x hx with h | rfl
          · exact .inr (List.mem_map.2 ⟨x, h, hxe⟩)
          · exact .inl (hgetf _ (.inr hxe.symm)))
      (fun M1 y M2 hM x hx => by
        obtain ⟨N1, N2, hN, hN1, _⟩ := hsub M1 y M2 hM
        exact hpair N1 y N2 hN x (hN1 x hx))
      (hd.imp id fun h x hx => h x (by simp at hx ⊢; rcases hx with h | h <;> simp [h])) hs hr' ho' (fun a'' w'' ⟨s'', hs', hr'', ho'', he'⟩ => hq _ _ ⟨s'', hs', hr'', ho'', he.trans he'⟩)
    exact hstep

def regOK (n : Nat) (ops : Array Oper) (as : List Ann) : Bool := lenIs as ops.size && chk n ops 0 [] [] as

theorem region_draw_sound {P : Program} {n : Nat} {r : Option Nat} {id : Nat} {ops : Array Oper} {as : List Ann} {s : St} {K : St → Prop} {act : Act} {w : World} {R : HP} {Q : Exit → Act → World → Prop}
    (hP : P.follows .mixedOrders = true) (hc : regOK n ops as = true) (hd : r = none ∨ as.all (fun a => !isDfr a) = true) (h : seqW P n ops (zipFrom 0 as) s K) (hr : Rel n s act) (ho : Own s.H R w)
    (hq : ∀ a' w', After n K R w a' w' → Q .normal a' w') : (Code.region id ops true).wpIn (FrR r) 0 P Q act w := by
  refine wpIn_region_draw fun t => ?_
  simp only [regOK, Bool.and_eq_true] at hc
  have hlen := lenIs_iff hc.1
  rw [hP]
  simp only [Region.schedule, Bool.true_or, if_true, Region.linearise]
  obtain ⟨c1, c2⟩ := chk_sound as 0 [] [] hc.2 rfl (fun y x hy => by omega)
  have hidx := zipFrom_idx as 0
  have hzlen : (zipFrom 0 as).length = ops.size := by rw [← List.length_map (f := (·.1)), hidx]; simp [hlen]
  have hmemlt : ∀ it ∈ zipFrom 0 as, it.1 < ops.size := by
    intro it hit
    have : it.1 ∈ (zipFrom 0 as).map (·.1) := List.mem_map.2 ⟨it, hit, rfl⟩
    rw [hidx, List.mem_range'_1] at this
    omega
  -- in a list of numbers that rise one by one, what is less stands ahead
  have hahead : ∀ L1 it L2, zipFrom 0 as = L1 ++ it :: L2 → ∀ j, j < it.1 → j ∈ L1.map (·.1) := by
    intro L1 it L2 hL j hj
    have h1 : (L1.map (·.1)) ++ it.1 :: L2.map (·.1) = List.range' 0 as.length := by rw [← hidx, hL]; simp
    have hsort : ((L1.map (·.1)) ++ it.1 :: L2.map (·.1)).Pairwise (· < ·) := by rw [h1]; exact List.pairwise_lt_range'
    have hin : it.1 ∈ List.range' 0 as.length := by rw [← h1]; simp
    have hj' : j ∈ (L1.map (·.1)) ++ it.1 :: L2.map (·.1) := by
      rw [h1, List.mem_range'_1]
      rw [List.mem_range'_1] at hin
      omega
    rcases List.mem_append.1 hj' with h | h
    · exact h
    · rcases List.mem_cons.1 h with h | h
      · omega
      · have := (List.pairwise_cons.1 (List.pairwise_append.1 hsort).2.1).1 j h
        omega
  have hw0 : Own s.H R { w with drawn := w.drawn + 1 } := ho.same fun _ _ h => h
  refine draw_sound ops.size t (Array.replicate ops.size false) (zipFrom 0 as) hzlen (by simp) ?_ (by rw [hidx]; exact List.nodup_range') hmemlt ?_ ?_ ?_ (fun L1 it L2 hL x hx => c2 L1 it L2 hL x (by simpa using hx)) ?_ h hr hw0 ?_
  · intro i hi
    rw [hidx, List.mem_range'_1]
    simp [Array.getD_eq_getD_getElem?, hi, hlen]
  · intro i o e hop hl
    have hi : i < ops.size := by
      rcases Nat.lt_or_ge i ops.size with h | h
      · exact h
      · simp [Array.getElem?_eq_none h] at hop
    simp [Array.getD_eq_getD_getElem?, hi] at hl
  · intro it L2 hL o e hop hea hb
    obtain ⟨o', ho', hb'⟩ := c1 it (by rw [hL]; simp)
    rw [hop] at ho'
    cases ho'
    have := hahead [] it L2 hL e.on (hb' e hea hb)
    cases this
  · intro L1 it L2 hL o e hop hea hb
    obtain ⟨o', ho', hb'⟩ := c1 it (by rw [hL]; simp)
    rw [hop] at ho'
    cases ho'
    exact .inr (hahead L1 it L2 hL e.on (hb' e hea hb))
  · refine hd.imp _root_.id fun hd x hx => ?_
    have mem : ∀ (as : List Ann) (i : Nat) x, x ∈ zipFrom i as → x.2 ∈ as := by
      intro as
      induction as with
      | nil => intro i x hx; cases hx
      | cons a l ih =>
        intro i x hx
        rcases List.mem_cons.1 hx with rfl | hx
        · simp
        · exact List.mem_cons.2 (.inr (ih _ x hx))
    have := List.all_eq_true.1 hd x.2 (mem as 0 x hx)
    simpa using this
  · rintro a' w' ⟨s', hs, hr', ho', he⟩
    exact hq _ _ ⟨s', hs, hr', ho', Ext.trans (b := { w with drawn := w.drawn + 1 }) ⟨rfl, rfl, rfl, Nat.le_refl _⟩ he⟩
end Go.Sx
