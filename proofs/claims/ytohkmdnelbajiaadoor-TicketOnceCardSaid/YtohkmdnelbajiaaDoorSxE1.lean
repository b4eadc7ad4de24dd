/- Bundles: several slots as one, with what is hidden. -/
import Derived.Test.YtohkmdnelbajiaaDoorSx9
set_option linter.unusedVariables false
set_option linter.unusedSimpArgs false
namespace Go.Sx
open Go.RowKit
def Hl.emp : Hl := fun _ => none
def Hl.un (p q : Hl) : Hl := fun b => match p b with | some o => some o | none => q b
theorem un_some {p q : Hl} {b : Nat} {o : Obj} (h : Hl.un p q b = some o) : p b = some o ∨ q b = some o := by
  unfold Hl.un at h
  cases hp : p b with
  | some x => rw [hp] at h; exact .inl h
  | none => rw [hp] at h; exact .inr h
theorem un_left {p q : Hl} {b : Nat} {o : Obj} (h : p b = some o) : Hl.un p q b = some o := by unfold Hl.un; rw [h]
theorem un_right {p q : Hl} (d : p.disj q) {b : Nat} {o : Obj} (h : q b = some o) : Hl.un p q b = some o := by
  unfold Hl.un
  rcases d b with h' | h'
  · rw [h']; exact h
  · rw [h] at h'; cases h'
theorem un_none {p q : Hl} {b : Nat} (h : p b = none) (k : q b = none) : Hl.un p q b = none := by unfold Hl.un; rw [h]; exact k
theorem un_none_iff {p q : Hl} {b : Nat} : Hl.un p q b = none ↔ p b = none ∧ q b = none := by
  constructor
  · intro h
    unfold Hl.un at h
    cases hp : p b with
    | some x => rw [hp] at h; cases h
    | none => rw [hp] at h; exact ⟨rfl, h⟩
  · exact fun h => un_none h.1 h.2
theorem disj_symm {p q : Hl} (h : p.disj q) : q.disj p := fun b => (h b).symm
theorem disj_un {p q r : Hl} : (Hl.un p q).disj r ↔ p.disj r ∧ q.disj r := by
  constructor
  · intro h
    refine ⟨fun b => ?_, fun b => ?_⟩ <;> rcases h b with h' | h'
    · exact .inl (un_none_iff.1 h').1
    · exact .inr h'
    · exact .inl (un_none_iff.1 h').2
    · exact .inr h'
  · intro ⟨h1, h2⟩ b
    rcases h1 b with a | a
    · rcases h2 b with c | c
      · exact .inl (un_none a c)
      · exact .inr c
    · exact .inr a
theorem disj_un' {p q r : Hl} : r.disj (Hl.un p q) ↔ r.disj p ∧ r.disj q :=
  ⟨fun h => let ⟨a, b⟩ := disj_un.1 (disj_symm h); ⟨disj_symm a, disj_symm b⟩, fun ⟨a, b⟩ => disj_symm (disj_un.2 ⟨disj_symm a, disj_symm b⟩)⟩
theorem disj_emp {p : Hl} : p.disj Hl.emp := fun _ => .inr rfl
theorem un_emp {p : Hl} : Hl.un p Hl.emp = p := by funext b; unfold Hl.un; cases p b <;> rfl
theorem emp_un {p : Hl} : Hl.un Hl.emp p = p := rfl
theorem un_assoc {p q r : Hl} : Hl.un (Hl.un p q) r = Hl.un p (Hl.un q r) := by
  funext b; unfold Hl.un; cases p b <;> simp
theorem un_comm {p q : Hl} (d : p.disj q) : Hl.un p q = Hl.un q p := by
  funext b
  unfold Hl.un
  rcases d b with h | h <;> rw [h]
  · cases q b <;> rfl
  · cases p b <;> rfl
theorem inw_un {p q : Hl} {w : World} (h : p.inw w) (k : q.inw w) : (Hl.un p q).inw w := fun b o hb => (un_some hb).elim (h b o) (k b o)
theorem inw_left {p q : Hl} {w : World} (h : (Hl.un p q).inw w) : p.inw w := fun b o hb => h b o (un_left hb)
theorem inw_right {p q : Hl} {w : World} (d : p.disj q) (h : (Hl.un p q).inw w) : q.inw w := fun b o hb => h b o (un_right d hb)
/-! ### Lists of slots, as one piece of the heap -/
def SepL : List Slot → Hl → Prop
  | [], h => h = Hl.emp
  | s :: l, h => ∃ p q, s.sat p ∧ SepL l q ∧ p.disj q ∧ h = Hl.un p q
theorem sep_nil {h : Hl} : SepL [] h ↔ h = Hl.emp := Iff.rfl
theorem sep_append : ∀ (a b : List Slot) {h : Hl}, SepL (a ++ b) h ↔ ∃ p q, SepL a p ∧ SepL b q ∧ p.disj q ∧ h = Hl.un p q
  | [], b, h => ⟨fun hb => ⟨Hl.emp, h, rfl, hb, fun _ => .inl rfl, rfl⟩, fun ⟨p, q, hp, hq, _, e⟩ => by cases hp; subst e; exact hq⟩
  | s :: a, b, h => by
    constructor
    · rintro ⟨p, q, hs, hr, d, rfl⟩
      obtain ⟨p2, q2, ha, hb, d2, rfl⟩ := (sep_append a b).1 hr
      have d' := disj_un'.1 d
      exact ⟨Hl.un p p2, q2, ⟨p, p2, hs, ha, d'.1, rfl⟩, hb, disj_un.2 ⟨d'.2, d2⟩, un_assoc.symm⟩
    · rintro ⟨p, q, ⟨p1, p2, hs, ha, d1, rfl⟩, hb, d, rfl⟩
      have d' := disj_un.1 d
      exact ⟨p1, Hl.un p2 q, hs, (sep_append a b).2 ⟨p2, q, ha, hb, d'.2, rfl⟩, disj_un'.2 ⟨d1, d'.1⟩, un_assoc⟩
theorem sep_swap {a b : List Slot} {h : Hl} (k : SepL (a ++ b) h) : SepL (b ++ a) h := by
  obtain ⟨p, q, hp, hq, d, rfl⟩ := (sep_append a b).1 k
  exact (sep_append b a).2 ⟨q, p, hq, hp, disj_symm d, un_comm d⟩
theorem sep_mid {a b c : List Slot} {h : Hl} : SepL (a ++ b ++ c) h ↔ SepL (b ++ (a ++ c)) h := by
  constructor
  · intro k
    rw [List.append_assoc] at k
    obtain ⟨p, q, hp, hq, d, rfl⟩ := (sep_append a (b ++ c)).1 k
    obtain ⟨p2, q2, hp2, hq2, d2, rfl⟩ := (sep_append b c).1 hq
    have d' := disj_un'.1 d
    refine (sep_append b (a ++ c)).2 ⟨p2, Hl.un p q2, hp2, (sep_append a c).2 ⟨p, q2, hp, hq2, d'.2, rfl⟩, disj_un'.2 ⟨disj_symm d'.1, d2⟩, ?_⟩
    rw [← un_assoc, un_comm d'.1, un_assoc]
  · intro k
    obtain ⟨p, q, hp, hq, d, rfl⟩ := (sep_append b (a ++ c)).1 k
    obtain ⟨p2, q2, hp2, hq2, d2, rfl⟩ := (sep_append a c).1 hq
    have d' := disj_un'.1 d
    rw [List.append_assoc]
    refine (sep_append a (b ++ c)).2 ⟨p2, Hl.un p q2, hp2, (sep_append b c).2 ⟨p, q2, hp, hq2, d'.2, rfl⟩, disj_un'.2 ⟨disj_symm d'.1, d2⟩, ?_⟩
    rw [← un_assoc, un_comm d'.1, un_assoc]
theorem sep_weaken {s : Slot} {l : List Slot} {h : Hl} (k : SepL (s :: l) h) : ∃ h', SepL l h' ∧ ∀ b o, h' b = some o → h b = some o := by
  obtain ⟨p, q, _, hl, d, rfl⟩ := k
  exact ⟨q, hl, fun b o hb => un_right d hb⟩
/-! ### What is owned, as one piece -/
theorem own_sep : ∀ {l : List Slot} {R : HP} {w : World}, Own (ofList l) R w ↔ ∃ h q, SepL l h ∧ R q ∧ h.inw w ∧ q.inw w ∧ h.disj q
  | [], R, w => by
    constructor
    · rintro ⟨p, q, hs, hq, hp, hqw, hd, hdq⟩
      exact ⟨Hl.emp, q, rfl, hq, fun b o hb => (by cases hb), hqw, fun _ => .inl rfl⟩
    · rintro ⟨h, q, _, hq, _, hqw, _⟩
      exact ⟨fun _ _ => none, q, fun i => fun _ => rfl, hq, fun i b o hb => (by cases hb), hqw, fun i j _ b => .inl rfl, fun i b => .inl rfl⟩
  | s :: l, R, w => by
    constructor
    · rintro ⟨p, q, hs, hq, hp, hqw, hd, hdq⟩
      have : Own (ofList l) (fun q' => ∃ q0, R q0 ∧ q' = Hl.un (p 0) q0 ∧ q0.inw w ∧ (p 0).disj q0) w := by
        refine ⟨fun i => p (i + 1), Hl.un (p 0) q, fun i => hs (i + 1), ⟨q, hq, rfl, hqw, hdq 0⟩, fun i => hp (i + 1), inw_un (hp 0) hqw, fun i j h => hd _ _ (fun e => h (Nat.succ.inj e)), fun i => disj_un'.2 ⟨hd _ _ (by omega), hdq _⟩⟩
      obtain ⟨h, q', hl, ⟨q0, hq0, rfl, hq0w, d0⟩, hw, hqw', d⟩ := own_sep.1 this
      have d' := disj_un'.1 d
      exact ⟨Hl.un (p 0) h, q0, ⟨p 0, h, hs 0, hl, disj_symm d'.1, rfl⟩, hq0, inw_un (hp 0) hw, hq0w, disj_un.2 ⟨d0, d'.2⟩⟩
    · rintro ⟨h, q, ⟨p, h', hs, hl, d, rfl⟩, hq, hw, hqw, dq⟩
      have dq' := disj_un.1 dq
      have : Own (ofList l) (fun q' => q' = Hl.un p q) w := own_sep.2 ⟨h', Hl.un p q, hl, rfl, inw_right d hw, inw_un (inw_left hw) hqw, disj_un'.2 ⟨disj_symm d, dq'.2⟩⟩
      obtain ⟨pp, q2, hs2, rfl, hp2, hq2, hd2, hdq2⟩ := this
      refine ⟨fun i => match i with | 0 => p | i + 1 => pp i, q, fun i => ?_, hq, fun i => ?_, hqw, fun i j hij => ?_, fun i => ?_⟩
      · cases i with
        | zero => exact hs
        | succ i => exact hs2 i
      · cases i with
        | zero => exact inw_left hw
        | succ i => exact hp2 i
      · cases i with
        | zero =>
          cases j with
          | zero => exact absurd rfl hij
          | succ j => exact disj_symm (disj_un'.1 (hdq2 j)).1
        | succ i =>
          cases j with
          | zero => exact (disj_un'.1 (hdq2 i)).1
          | succ j => exact hd2 i j (fun e => hij (e ▸ rfl))
      · cases i with
        | zero => exact dq'.1
        | succ i => exact (disj_un'.1 (hdq2 i)).2
/-- Slots that say no less. -/
def Imp (a b : List Slot) : Prop := ∀ (R : HP) (w : World), Own (ofList a) R w → Own (ofList b) R w
theorem Imp.of {a b : List Slot} (h : ∀ p, SepL a p → ∃ q, SepL b q ∧ ∀ x o, q x = some o → p x = some o) : Imp a b := by
  intro R w ho
  obtain ⟨p, r, hp, hr, hpw, hrw, d⟩ := own_sep.1 ho
  obtain ⟨q, hq, hsub⟩ := h p hp
  refine own_sep.2 ⟨q, r, hq, hr, fun b o hb => hpw b o (hsub b o hb), hrw, fun b => ?_⟩
  rcases d b with h' | h'
  · left
    cases hqb : q b with
    | none => rfl
    | some o => rw [hsub b o hqb] at h'; cases h'
  · exact .inr h'
theorem Imp.same {a b : List Slot} (h : ∀ p, SepL a p → SepL b p) : Imp a b := .of fun p hp => ⟨p, h p hp, fun _ _ h => h⟩
theorem Imp.refl (a : List Slot) : Imp a a := fun _ _ h => h
theorem Imp.trans {a b c : List Slot} (h : Imp a b) (k : Imp b c) : Imp a c := fun R w x => k R w (h R w x)
theorem Imp.swap (a b : List Slot) : Imp (a ++ b) (b ++ a) := .same fun _ => sep_swap
theorem Imp.mid (a b c : List Slot) : Imp (a ++ b ++ c) (b ++ (a ++ c)) := .same fun _ => sep_mid.1
theorem Imp.unmid (a b c : List Slot) : Imp (b ++ (a ++ c)) (a ++ b ++ c) := .same fun _ => sep_mid.2
theorem Imp.drop (a b : List Slot) : Imp (a ++ b) a := .of fun p hp => by
  obtain ⟨p, q, ha, hb, d, rfl⟩ := (sep_append a b).1 hp
  exact ⟨p, ha, fun x o h => un_left h⟩
/-! ### Bundles -/
/-- Slots as one: the numbers ns and the data d tell what they are; E is what is hidden. -/
def bun {E : Type} (ns : List Nat) (d : Dat) (F : E → List Slot) : Slot := .par ns d (fun h => ∃ e, SepL (F e) h)
theorem bun_shut {E : Type} {ns : List Nat} {d : Dat} {F : E → List Slot} (e : E) (l : List Slot) : Imp (F e ++ l) (bun ns d F :: l) := .same fun p hp => by
  obtain ⟨p, q, ha, hb, d, rfl⟩ := (sep_append _ _).1 hp
  exact ⟨p, q, ⟨e, ha⟩, hb, d, rfl⟩
theorem bun_open {E : Type} {ns : List Nat} {d : Dat} {F : E → List Slot} {l : List Slot} {R : HP} {w : World} (h : Own (ofList (bun ns d F :: l)) R w) : ∃ e, Own (ofList (F e ++ l)) R w := by
  obtain ⟨h, q, ⟨p, h', ⟨e, hs⟩, hl, d, rfl⟩, hq, hw, hqw, dq⟩ := own_sep.1 h
  exact ⟨e, own_sep.2 ⟨_, q, (sep_append _ _).2 ⟨p, h', hs, hl, d, rfl⟩, hq, hw, hqw, dq⟩⟩
/-! ### A contract over some slots, used among others; over bundles -/
theorem own_frame {a b : List Slot} {R : HP} {w : World} : Own (ofList (a ++ b)) R w ↔ Own (ofList a) (fun q => ∃ h r, SepL b h ∧ R r ∧ h.disj r ∧ q = Hl.un h r) w := by
  constructor
  · intro ho
    obtain ⟨h, q, hab, hq, hw, hqw, d⟩ := own_sep.1 ho
    obtain ⟨p1, p2, ha, hb, d12, rfl⟩ := (sep_append a b).1 hab
    have dd := disj_un.1 d
    exact own_sep.2 ⟨p1, Hl.un p2 q, ha, ⟨p2, q, hb, hq, dd.2, rfl⟩, inw_left hw, inw_un (inw_right d12 hw) hqw, disj_un'.2 ⟨d12, dd.1⟩⟩
  · intro ho
    obtain ⟨p1, q, ha, ⟨p2, r, hb, hr, dr, rfl⟩, hw, hqw, d⟩ := own_sep.1 ho
    have dd := disj_un'.1 d
    exact own_sep.2 ⟨Hl.un p1 p2, r, (sep_append a b).2 ⟨p1, p2, ha, hb, dd.1, rfl⟩, hr, inw_un hw (inw_left hqw), inw_right dr hqw, disj_un.2 ⟨dd.2, dr⟩⟩
theorem CallT.frame {P : Program} {f : FuncId} {args : Array Value} {Hs : List Slot} {X : Type} {val : X → Value} {us : X → List Slot} {Φ : X → Prop} (h : CallT P f args Hs X val us Φ) (l : List Slot) :
    CallT P f args (Hs ++ l) X val (fun x => us x ++ l) Φ :=
  ⟨h.enter, fun R w ho => (h.calls _ w (own_frame.1 ho)).mono fun _ _ ⟨x, hx, he, ho', hext⟩ => ⟨x, hx, he, own_frame.2 ho', hext⟩⟩
/-- The slots that a contract asks for are in what one has; what it leaves says enough. -/
theorem CallT.conv {P : Program} {f : FuncId} {args : Array Value} {Hs Ks : List Slot} {X : Type} {val : X → Value} {us vs : X → List Slot} {Φ : X → Prop} (h : CallT P f args Hs X val us Φ) (hi : Imp Ks Hs) (ho : ∀ x, Φ x → Imp (us x) (vs x)) :
    CallT P f args Ks X val vs Φ :=
  ⟨h.enter, fun R w hw => (h.calls R w (hi R w hw)).mono fun _ _ ⟨x, hx, he, ho', hext⟩ => ⟨x, hx, he, ho x hx _ _ ho', hext⟩⟩
/-- A bundle is opened: whatever is hidden, the contract holds. -/
theorem CallT.unbun {P : Program} {f : FuncId} {args : Array Value} {E : Type} {ns : List Nat} {d : Dat} {F : E → List Slot} {l : List Slot} {X : Type} {val : X → Value} {us : X → List Slot} {Φ : X → Prop}
    (h : ∀ e, CallT P f args (F e ++ l) X val us Φ) (e0 : EnterOK P f) : CallT P f args (bun ns d F :: l) X val us Φ :=
  ⟨e0, fun R w hw => let ⟨e, he⟩ := bun_open hw; (h e).calls R w he⟩
theorem CallT.exists {P : Program} {f : FuncId} {args : Array Value} {Hs : List Slot} {X Y : Type} {val : X → Value} {us : X → List Slot} {Φ : X → Prop} {val' : Y → Value} {us' : Y → List Slot} {Ψ : Y → Prop}
    (h : CallT P f args Hs X val us Φ) (hk : ∀ x, Φ x → ∃ y, Ψ y ∧ val x = val' y ∧ Imp (us x) (us' y)) : CallT P f args Hs Y val' us' Ψ :=
  ⟨h.enter, fun R w hw => (h.calls R w hw).mono fun _ _ ⟨x, hx, he, ho, hext⟩ => let ⟨y, hy, h1, h2⟩ := hk x hx; ⟨y, hy, h1 ▸ he, h2 _ _ ho, hext⟩⟩
end Go.Sx
