/- A symbolic executor for the model's code, part 4: operations that touch unlike things commute; a region that draws its order is walked in the text's order. -/
import Derived.Test.YtohkmdnelbajiaaDoorSx3
set_option linter.unusedVariables false
set_option linter.unusedSimpArgs false
namespace Go.Sx
open Go.RowKit

def rdA : List Acc → List Nat
  | [] => []
  | .rd i :: l | .rv i _ :: l => i :: rdA l
  | _ :: l => rdA l
def wrA : List Acc → List Nat
  | [] => []
  | .wr i :: l | .ws i :: l | .nw i :: l => i :: wrA l
  | _ :: l => wrA l

theorem symW_step {P : Program} {α : Type} (m : Sem α) : ∀ (acc : List Acc) (H : Hp) (K K' : α → Hp → List Acc → Prop), symW P m acc H K →
    (∀ a H' r, (∀ i, i ∉ wrA acc → H' i = H i) → K a H' r → K' a H' r) → symW P m acc H K' := by
  induction m with
  | pure a => exact fun acc H K K' h hk => hk a H acc (fun _ _ => rfl) h
  | load m a k ih =>
    intro acc H K K' h hk
    match acc, h, hk with
    | .rd i :: acc, h, hk =>
      simp only [symW] at h ⊢
      cases hs : H i with
      | blk b o =>
        rw [hs] at h
        cases o with
        | cells c t f =>
          obtain ⟨h1, h2, h3⟩ := h
          refine ⟨h1, h2, ?_⟩
          cases hv : c[a.off]? with
          | none => rw [hv] at h3; exact h3.elim
          | some v => rw [hv] at h3; exact ih v acc H K K' h3 hk
        | _ => exact h.elim
      | _ => rw [hs] at h; exact h.elim
    | .rv i g :: acc, h, hk =>
      simp only [symW] at h ⊢
      cases hs : H i with
      | blk b o =>
        rw [hs] at h
        cases o with
        | cells c t f =>
          obtain ⟨h1, h2, h3, h4⟩ := h
          exact ⟨h1, h2, h3, ih _ acc H K K' h4 hk⟩
        | _ => exact h.elim
      | _ => rw [hs] at h; exact h.elim
    | .wr _ :: _, h, _ | .ws _ :: _, h, _ | .nw _ :: _, h, _ | .ch :: _, h, _ | [], h, _ => exact h.elim
  | store m a v k ih =>
    intro acc H K K' h hk
    have later : ∀ (i : Nat) (acc : List Acc) (sl : Slot), (∀ a H' r, (∀ j, j ∉ i :: wrA acc → H' j = H j) → K a H' r → K' a H' r) → symW P k acc (upd H i sl) K → symW P k acc (upd H i sl) K' := by
      intro i acc sl hk h
      refine ih acc _ K K' h (fun a H' r hH hka => hk a H' r (fun j hj => ?_) hka)
      rw [List.mem_cons, not_or] at hj
      exact (hH j hj.2).trans (upd_other _ _ hj.1)
    match acc, h, hk with
    | .wr i :: acc, h, hk =>
      simp only [symW] at h ⊢
      cases hv : notAgg v with
      | false => rw [hv] at h; exact h.elim
      | true =>
        rw [hv] at h
        cases hs : H i with
        | blk b o =>
          rw [hs] at h
          cases o with
          | cells c t f =>
            obtain ⟨h1, h2, h3⟩ := h
            refine ⟨h1, h2, ?_⟩
            cases hl : Nat.blt a.off c.size with
            | false => rw [hl] at h3; exact h3.elim
            | true =>
              cases hf : frz f a.off with
              | true => rw [hl, hf] at h3; exact h3.elim
              | false => rw [hl, hf] at h3; exact later i acc _ hk h3
          | _ => exact h.elim
        | _ => rw [hs] at h; exact h.elim
    | .ws i :: acc, h, hk =>
      simp only [symW] at h ⊢
      cases hs : H i with
      | blk b o =>
        rw [hs] at h
        cases o with
        | cells c t f =>
          obtain ⟨h1, h2, h3, h4, h5, h6⟩ := h
          exact ⟨h1, h2, h3, h4, h5, later i acc _ hk h6⟩
        | _ => exact h.elim
      | _ => rw [hs] at h; exact h.elim
    | .rd _ :: _, h, _ | .rv _ _ :: _, h, _ | .nw _ :: _, h, _ | .ch :: _, h, _ | [], h, _ => cases v <;> exact h.elim
  | new o k ih =>
    intro acc H K K' h hk
    match acc, h, hk with
    | .nw i :: acc, h, hk =>
      simp only [symW] at h ⊢
      intro b
      refine ih b acc _ K K' (h b) (fun a H' r hH hka => hk a H' r (fun j hj => ?_) hka)
      simp only [wrA] at hj
      rw [List.mem_cons, not_or] at hj
      exact (hH j hj.2).trans (upd_other _ _ hj.1)
    | .rd _ :: _, h, _ | .rv _ _ :: _, h, _ | .wr _ :: _, h, _ | .ws _ :: _, h, _ | .ch :: _, h, _ | [], h, _ => exact h.elim
  | shape r k ih =>
    intro acc H K K' h hk
    match acc, h, hk with
    | .rd i :: acc, h, hk =>
      simp only [symW] at h ⊢
      cases hs : H i with
      | blk b o => rw [hs] at h; exact ⟨h.1, ih _ acc H K K' h.2 hk⟩
      | _ => rw [hs] at h; exact h.elim
    | .rv _ _ :: _, h, _ | .wr _ :: _, h, _ | .ws _ :: _, h, _ | .nw _ :: _, h, _ | .ch :: _, h, _ | [], h, _ => exact h.elim
  | freeze a n k ih =>
    intro acc H K K' h hk
    match acc, h, hk with
    | .wr i :: acc, h, hk =>
      simp only [symW] at h ⊢
      cases hs : H i with
      | blk b o =>
        rw [hs] at h
        refine ⟨h.1, ih acc _ K K' h.2 (fun a H' r hH hka => hk a H' r (fun j hj => ?_) hka)⟩
        simp only [wrA] at hj
        rw [List.mem_cons, not_or] at hj
        exact (hH j hj.2).trans (upd_other _ _ hj.1)
      | _ => rw [hs] at h; exact h.elim
    | .rd _ :: _, h, _ | .rv _ _ :: _, h, _ | .ws _ :: _, h, _ | .nw _ :: _, h, _ | .ch :: _, h, _ | [], h, _ => exact h.elim
  | frozen a k ih =>
    intro acc H K K' h hk
    match acc, h, hk with
    | .rd i :: acc, h, hk =>
      simp only [symW] at h ⊢
      cases hs : H i with
      | blk b o => rw [hs] at h; exact ⟨h.1, ih _ acc H K K' h.2 hk⟩
      | _ => rw [hs] at h; exact h.elim
    | .rv _ _ :: _, h, _ | .wr _ :: _, h, _ | .ws _ :: _, h, _ | .nw _ :: _, h, _ | .ch :: _, h, _ | [], h, _ => exact h.elim
  | getObj r k ih =>
    intro acc H K K' h hk
    match acc, h, hk with
    | .rd i :: acc, h, hk =>
      simp only [symW] at h ⊢
      cases hs : H i with
      | blk b o =>
        rw [hs] at h
        obtain ⟨h1, h2⟩ := h
        refine ⟨h1, ?_⟩
        cases hc : isCells o with
        | true => rw [hc] at h2; exact h2.elim
        | false => rw [hc] at h2; exact ih _ acc H K K' h2 hk
      | _ => rw [hs] at h; exact h.elim
    | .rv _ _ :: _, h, _ | .wr _ :: _, h, _ | .ws _ :: _, h, _ | .nw _ :: _, h, _ | .ch :: _, h, _ | [], h, _ => exact h.elim
  | setObj r o k ih =>
    intro acc H K K' h hk
    match acc, h, hk with
    | .wr i :: acc, h, hk =>
      simp only [symW] at h ⊢
      cases hs : H i with
      | blk b o' =>
        rw [hs] at h
        obtain ⟨h1, h2⟩ := h
        refine ⟨h1, ?_⟩
        cases hc : isCells o' with
        | true => rw [hc] at h2; exact h2.elim
        | false =>
          rw [hc] at h2
          refine ih acc _ K K' h2 (fun a H' r hH hka => hk a H' r (fun j hj => ?_) hka)
          simp only [wrA] at hj
          rw [List.mem_cons, not_or] at hj
          exact (hH j hj.2).trans (upd_other _ _ hj.1)
      | _ => rw [hs] at h; exact h.elim
    | .rd _ :: _, h, _ | .rv _ _ :: _, h, _ | .ws _ :: _, h, _ | .nw _ :: _, h, _ | .ch :: _, h, _ | [], h, _ => exact h.elim
  | choose q k ih =>
    intro acc H K K' h hk
    match acc, h, hk with
    | .ch :: acc, h, hk =>
      simp only [symW] at h ⊢
      exact fun t h1 h2 => ih t acc H K K' (h t h1 h2) hk
    | .rd _ :: _, h, _ | .rv _ _ :: _, h, _ | .wr _ :: _, h, _ | .ws _ :: _, h, _ | .nw _ :: _, h, _ | [], h, _ => exact h.elim
  | sys c k ih => intro acc H K K' h; cases acc <;> exact h.elim
  | program k ih => intro acc H K K' h hk; cases acc <;> exact ih P _ H K K' h hk
  | mark m k ih => intro acc H K K' h hk; cases acc <;> exact ih _ H K K' h hk
  | halt x => intro acc H K K' h; cases acc <;> exact h.elim

/-- What commutes with a transformer T: its footprint. -/
structure Good (T : (Value → Hp → Prop) → Hp → Prop) (rd wr : List Nat) : Prop where
  step : ∀ K K' H, T K H → (∀ v H', (∀ i, i ∉ wr → H' i = H i) → K v H' → K' v H') → T K' H
  set : ∀ K H i sl, i ∉ rd → i ∉ wr → T K (upd H i sl) → T (fun v H' => K v (upd H' i sl)) H
  all : ∀ (β : Type) (_ : Nonempty β) (K : β → Value → Hp → Prop) H, (∀ b, T (K b) H) → T (fun v H' => ∀ b, K b v H') H

theorem symW_set {P : Program} {α : Type} (m : Sem α) : ∀ (acc : List Acc) (H : Hp) (K : α → Hp → List Acc → Prop) (i : Nat) (sl : Slot), i ∉ rdA acc → i ∉ wrA acc →
    symW P m acc (upd H i sl) K → symW P m acc H fun a H' r => K a (upd H' i sl) r := by
  induction m with
  | pure a => exact fun acc H K i sl _ _ h => h
  | load m a k ih =>
    intro acc H K i sl hr hw h
    match acc, h, hr, hw with
    | .rd j :: acc, h, hr, hw =>
      simp only [rdA, List.mem_cons, not_or] at hr
      simp only [symW] at h ⊢
      rw [upd_other _ _ (Ne.symm hr.1)] at h
      cases hs : H j with
      | blk b o =>
        rw [hs] at h
        cases o with
        | cells c t f =>
          obtain ⟨h1, h2, h3⟩ := h
          refine ⟨h1, h2, ?_⟩
          cases hv : c[a.off]? with
          | none => rw [hv] at h3; exact h3.elim
          | some v => rw [hv] at h3; exact ih v acc H K i sl hr.2 hw h3
        | _ => exact h.elim
      | _ => rw [hs] at h; exact h.elim
    | .rv j g :: acc, h, hr, hw =>
      simp only [rdA, List.mem_cons, not_or] at hr
      simp only [symW] at h ⊢
      rw [upd_other _ _ (Ne.symm hr.1)] at h
      cases hs : H j with
      | blk b o =>
        rw [hs] at h
        cases o with
        | cells c t f => exact ⟨h.1, h.2.1, h.2.2.1, ih _ acc H K i sl hr.2 hw h.2.2.2⟩
        | _ => exact h.elim
      | _ => rw [hs] at h; exact h.elim
    | .wr _ :: _, h, _, _ | .ws _ :: _, h, _, _ | .nw _ :: _, h, _, _ | .ch :: _, h, _, _ | [], h, _, _ => exact h.elim
  | store m a v k ih =>
    intro acc H K i sl hr hw h
    match acc, h, hr, hw with
    | .wr j :: acc, h, hr, hw =>
      simp only [wrA, List.mem_cons, not_or] at hw
      simp only [symW] at h ⊢
      rw [upd_other _ _ (Ne.symm hw.1)] at h
      cases hv : notAgg v with
      | false => rw [hv] at h; exact h.elim
      | true =>
        rw [hv] at h
        cases hs : H j with
        | blk b o =>
          rw [hs] at h
          cases o with
          | cells c t f =>
            obtain ⟨h1, h2, h3⟩ := h
            refine ⟨h1, h2, ?_⟩
            cases hl : Nat.blt a.off c.size with
            | false => rw [hl] at h3; exact h3.elim
            | true =>
              cases hf : frz f a.off with
              | true => rw [hl, hf] at h3; exact h3.elim
              | false => rw [hl, hf] at h3; simp only at h3; rw [upd_comm _ _ _ hw.1] at h3; exact ih acc _ K i sl hr hw.2 h3
          | _ => exact h.elim
        | _ => rw [hs] at h; exact h.elim
    | .ws j :: acc, h, hr, hw =>
      simp only [wrA, List.mem_cons, not_or] at hw
      simp only [symW] at h ⊢
      rw [upd_other _ _ (Ne.symm hw.1)] at h
      cases hs : H j with
      | blk b o =>
        rw [hs] at h
        cases o with
        | cells c t f =>
          obtain ⟨h1, h2, h3, h4, h5, h6⟩ := h
          rw [upd_comm _ _ _ hw.1] at h6
          exact ⟨h1, h2, h3, h4, h5, ih acc _ K i sl hr hw.2 h6⟩
        | _ => exact h.elim
      | _ => rw [hs] at h; exact h.elim
    | .rd _ :: _, h, _, _ | .rv _ _ :: _, h, _, _ | .nw _ :: _, h, _, _ | .ch :: _, h, _, _ | [], h, _, _ => cases v <;> exact h.elim
  | new o k ih =>
    intro acc H K i sl hr hw h
    match acc, h, hr, hw with
    | .nw j :: acc, h, hr, hw =>
      simp only [wrA, List.mem_cons, not_or] at hw
      simp only [symW] at h ⊢
      intro b
      have := h b
      rw [upd_comm _ _ _ hw.1] at this
      exact ih b acc _ K i sl hr hw.2 this
    | .rd _ :: _, h, _, _ | .rv _ _ :: _, h, _, _ | .wr _ :: _, h, _, _ | .ws _ :: _, h, _, _ | .ch :: _, h, _, _ | [], h, _, _ => exact h.elim
  | shape r k ih =>
    intro acc H K i sl hr hw h
    match acc, h, hr, hw with
    | .rd j :: acc, h, hr, hw =>
      simp only [rdA, List.mem_cons, not_or] at hr
      simp only [symW] at h ⊢
      rw [upd_other _ _ (Ne.symm hr.1)] at h
      cases hs : H j with
      | blk b o => rw [hs] at h; exact ⟨h.1, ih _ acc H K i sl hr.2 hw h.2⟩
      | _ => rw [hs] at h; exact h.elim
    | .rv _ _ :: _, h, _, _ | .wr _ :: _, h, _, _ | .ws _ :: _, h, _, _ | .nw _ :: _, h, _, _ | .ch :: _, h, _, _ | [], h, _, _ => exact h.elim
  | freeze a n k ih =>
    intro acc H K i sl hr hw h
    match acc, h, hr, hw with
    | .wr j :: acc, h, hr, hw =>
      simp only [wrA, List.mem_cons, not_or] at hw
      simp only [symW] at h ⊢
      rw [upd_other _ _ (Ne.symm hw.1)] at h
      cases hs : H j with
      | blk b o =>
        rw [hs] at h
        obtain ⟨h1, h2⟩ := h
        rw [upd_comm _ _ _ hw.1] at h2
        exact ⟨h1, ih acc _ K i sl hr hw.2 h2⟩
      | _ => rw [hs] at h; exact h.elim
    | .rd _ :: _, h, _, _ | .rv _ _ :: _, h, _, _ | .ws _ :: _, h, _, _ | .nw _ :: _, h, _, _ | .ch :: _, h, _, _ | [], h, _, _ => exact h.elim
  | frozen a k ih =>
    intro acc H K i sl hr hw h
    match acc, h, hr, hw with
    | .rd j :: acc, h, hr, hw =>
      simp only [rdA, List.mem_cons, not_or] at hr
      simp only [symW] at h ⊢
      rw [upd_other _ _ (Ne.symm hr.1)] at h
      cases hs : H j with
      | blk b o => rw [hs] at h; exact ⟨h.1, ih _ acc H K i sl hr.2 hw h.2⟩
      | _ => rw [hs] at h; exact h.elim
    | .rv _ _ :: _, h, _, _ | .wr _ :: _, h, _, _ | .ws _ :: _, h, _, _ | .nw _ :: _, h, _, _ | .ch :: _, h, _, _ | [], h, _, _ => exact h.elim
  | getObj r k ih =>
    intro acc H K i sl hr hw h
    match acc, h, hr, hw with
    | .rd j :: acc, h, hr, hw =>
      simp only [rdA, List.mem_cons, not_or] at hr
      simp only [symW] at h ⊢
      rw [upd_other _ _ (Ne.symm hr.1)] at h
      cases hs : H j with
      | blk b o =>
        rw [hs] at h
        obtain ⟨h1, h2⟩ := h
        refine ⟨h1, ?_⟩
        cases hc : isCells o with
        | true => rw [hc] at h2; exact h2.elim
        | false => rw [hc] at h2; exact ih _ acc H K i sl hr.2 hw h2
      | _ => rw [hs] at h; exact h.elim
    | .rv _ _ :: _, h, _, _ | .wr _ :: _, h, _, _ | .ws _ :: _, h, _, _ | .nw _ :: _, h, _, _ | .ch :: _, h, _, _ | [], h, _, _ => exact h.elim
  | setObj r o k ih =>
    intro acc H K i sl hr hw h
    match acc, h, hr, hw with
    | .wr j :: acc, h, hr, hw =>
      simp only [wrA, List.mem_cons, not_or] at hw
      simp only [symW] at h ⊢
      rw [upd_other _ _ (Ne.symm hw.1)] at h
      cases hs : H j with
      | blk b o' =>
        rw [hs] at h
        obtain ⟨h1, h2⟩ := h
        refine ⟨h1, ?_⟩
        cases hc : isCells o' with
        | true => rw [hc] at h2; exact h2.elim
        | false =>
          rw [hc] at h2
          simp only at h2
          rw [upd_comm _ _ _ hw.1] at h2
          exact ih acc _ K i sl hr hw.2 h2
      | _ => rw [hs] at h; exact h.elim
    | .rd _ :: _, h, _, _ | .rv _ _ :: _, h, _, _ | .ws _ :: _, h, _, _ | .nw _ :: _, h, _, _ | .ch :: _, h, _, _ | [], h, _, _ => exact h.elim
  | choose q k ih =>
    intro acc H K i sl hr hw h
    match acc, h, hr, hw with
    | .ch :: acc, h, hr, hw =>
      simp only [symW] at h ⊢
      exact fun t h1 h2 => ih t acc H K i sl hr hw (h t h1 h2)
    | .rd _ :: _, h, _, _ | .rv _ _ :: _, h, _, _ | .wr _ :: _, h, _, _ | .ws _ :: _, h, _, _ | .nw _ :: _, h, _, _ | [], h, _, _ => exact h.elim
  | sys c k ih => intro acc H K i sl hr hw h; cases acc <;> exact h.elim
  | program k ih => intro acc H K i sl hr hw h; cases acc <;> exact ih P _ H K i sl hr hw h
  | mark m k ih => intro acc H K i sl hr hw h; cases acc <;> exact ih _ H K i sl hr hw h
  | halt x => intro acc H K i sl hr hw h; cases acc <;> exact h.elim

theorem symW_all {P : Program} {α : Type} (m : Sem α) : ∀ (acc : List Acc) (H : Hp) (β : Type) (_ : Nonempty β) (K : β → α → Hp → List Acc → Prop),
    (∀ b, symW P m acc H (K b)) → symW P m acc H fun a H' r => ∀ b, K b a H' r := by
  induction m with
  | pure a => exact fun acc H β _ K h => h
  | load m a k ih =>
    intro acc H β hne K h
    obtain ⟨b0⟩ := hne
    match acc, h with
    | .rd i :: acc, h =>
      simp only [symW] at h ⊢
      cases hs : H i with
      | blk b o =>
        rw [hs] at h
        cases o with
        | cells c t f =>
          refine ⟨(h b0).1, (h b0).2.1, ?_⟩
          have h3 := fun x => (h x).2.2
          cases hv : c[a.off]? with
          | none => rw [hv] at h3; exact h3 b0
          | some v => rw [hv] at h3; exact ih v acc H β ⟨b0⟩ K h3
        | _ => exact (h b0).elim
      | _ => rw [hs] at h; exact (h b0).elim
    | .rv i g :: acc, h =>
      simp only [symW] at h ⊢
      cases hs : H i with
      | blk b o =>
        rw [hs] at h
        cases o with
        | cells c t f => exact ⟨(h b0).1, (h b0).2.1, (h b0).2.2.1, ih _ acc H β ⟨b0⟩ K fun x => (h x).2.2.2⟩
        | _ => exact (h b0).elim
      | _ => rw [hs] at h; exact (h b0).elim
    | .wr _ :: _, h | .ws _ :: _, h | .nw _ :: _, h | .ch :: _, h | [], h => exact (h b0).elim
  | store m a v k ih =>
    intro acc H β hne K h
    obtain ⟨b0⟩ := hne
    match acc, h with
    | .wr i :: acc, h =>
      simp only [symW] at h ⊢
      cases hv : notAgg v with
      | false => rw [hv] at h; exact (h b0).elim
      | true =>
        rw [hv] at h
        cases hs : H i with
        | blk b o =>
          rw [hs] at h
          cases o with
          | cells c t f =>
            refine ⟨(h b0).1, (h b0).2.1, ?_⟩
            have h3 := fun x => (h x).2.2
            cases hl : Nat.blt a.off c.size with
            | false => rw [hl] at h3; exact (h3 b0).elim
            | true =>
              cases hf : frz f a.off with
              | true => rw [hl, hf] at h3; exact (h3 b0).elim
              | false => rw [hl, hf] at h3; exact ih acc _ β ⟨b0⟩ K h3
          | _ => exact (h b0).elim
        | _ => rw [hs] at h; exact (h b0).elim
    | .ws i :: acc, h =>
      simp only [symW] at h ⊢
      cases hs : H i with
      | blk b o =>
        rw [hs] at h
        cases o with
        | cells c t f =>
          obtain ⟨h1, h2, h3, h4, h5, _⟩ := h b0
          exact ⟨h1, h2, h3, h4, h5, ih acc _ β ⟨b0⟩ K fun x => (h x).2.2.2.2.2⟩
        | _ => exact (h b0).elim
      | _ => rw [hs] at h; exact (h b0).elim
    | .rd _ :: _, h | .rv _ _ :: _, h | .nw _ :: _, h | .ch :: _, h | [], h => cases v <;> exact (h b0).elim
  | new o k ih =>
    intro acc H β hne K h
    obtain ⟨b0⟩ := hne
    match acc, h with
    | .nw i :: acc, h => simp only [symW] at h ⊢; exact fun b => ih b acc _ β ⟨b0⟩ K fun x => h x b
    | .rd _ :: _, h | .rv _ _ :: _, h | .wr _ :: _, h | .ws _ :: _, h | .ch :: _, h | [], h => exact (h b0).elim
  | shape r k ih =>
    intro acc H β hne K h
    obtain ⟨b0⟩ := hne
    match acc, h with
    | .rd i :: acc, h =>
      simp only [symW] at h ⊢
      cases hs : H i with
      | blk b o => rw [hs] at h; exact ⟨(h b0).1, ih _ acc H β ⟨b0⟩ K fun x => (h x).2⟩
      | _ => rw [hs] at h; exact (h b0).elim
    | .rv _ _ :: _, h | .wr _ :: _, h | .ws _ :: _, h | .nw _ :: _, h | .ch :: _, h | [], h => exact (h b0).elim
  | freeze a n k ih =>
    intro acc H β hne K h
    obtain ⟨b0⟩ := hne
    match acc, h with
    | .wr i :: acc, h =>
      simp only [symW] at h ⊢
      cases hs : H i with
      | blk b o => rw [hs] at h; exact ⟨(h b0).1, ih acc _ β ⟨b0⟩ K fun x => (h x).2⟩
      | _ => rw [hs] at h; exact (h b0).elim
    | .rd _ :: _, h | .rv _ _ :: _, h | .ws _ :: _, h | .nw _ :: _, h | .ch :: _, h | [], h => exact (h b0).elim
  | frozen a k ih =>
    intro acc H β hne K h
    obtain ⟨b0⟩ := hne
    match acc, h with
    | .rd i :: acc, h =>
      simp only [symW] at h ⊢
      cases hs : H i with
      | blk b o => rw [hs] at h; exact ⟨(h b0).1, ih _ acc H β ⟨b0⟩ K fun x => (h x).2⟩
      | _ => rw [hs] at h; exact (h b0).elim
    | .rv _ _ :: _, h | .wr _ :: _, h | .ws _ :: _, h | .nw _ :: _, h | .ch :: _, h | [], h => exact (h b0).elim
  | getObj r k ih =>
    intro acc H β hne K h
    obtain ⟨b0⟩ := hne
    match acc, h with
    | .rd i :: acc, h =>
      simp only [symW] at h ⊢
      cases hs : H i with
      | blk b o =>
        rw [hs] at h
        have h2 := fun x => (h x).2
        refine ⟨(h b0).1, ?_⟩
        cases hc : isCells o with
        | true => rw [hc] at h2; exact (h2 b0).elim
        | false => rw [hc] at h2; exact ih _ acc H β ⟨b0⟩ K h2
      | _ => rw [hs] at h; exact (h b0).elim
    | .rv _ _ :: _, h | .wr _ :: _, h | .ws _ :: _, h | .nw _ :: _, h | .ch :: _, h | [], h => exact (h b0).elim
  | setObj r o k ih =>
    intro acc H β hne K h
    obtain ⟨b0⟩ := hne
    match acc, h with
    | .wr i :: acc, h =>
      simp only [symW] at h ⊢
      cases hs : H i with
      | blk b o' =>
        rw [hs] at h
        have h2 := fun x => (h x).2
        refine ⟨(h b0).1, ?_⟩
        cases hc : isCells o' with
        | true => rw [hc] at h2; exact (h2 b0).elim
        | false => rw [hc] at h2; exact ih acc _ β ⟨b0⟩ K h2
      | _ => rw [hs] at h; exact (h b0).elim
    | .rd _ :: _, h | .rv _ _ :: _, h | .ws _ :: _, h | .nw _ :: _, h | .ch :: _, h | [], h => exact (h b0).elim
  | choose q k ih =>
    intro acc H β hne K h
    obtain ⟨b0⟩ := hne
    match acc, h with
    | .ch :: acc, h => simp only [symW] at h ⊢; exact fun t h1 h2 => ih t acc H β ⟨b0⟩ K fun x => h x t h1 h2
    | .rd _ :: _, h | .rv _ _ :: _, h | .wr _ :: _, h | .ws _ :: _, h | .nw _ :: _, h | [], h => exact (h b0).elim
  | sys c k ih => intro acc H β hne K h; obtain ⟨b0⟩ := hne; cases acc <;> exact (h b0).elim
  | program k ih => intro acc H β hne K h; cases acc <;> exact ih P _ H β hne K h
  | mark m k ih => intro acc H β hne K h; cases acc <;> exact ih _ H β hne K h
  | halt x => intro acc H β hne K h; obtain ⟨b0⟩ := hne; cases acc <;> exact (h b0).elim

/-- One Sem and a transformer that touches other slots. -/
theorem symW_comm {P : Program} {α : Type} {T : (Value → Hp → Prop) → Hp → Prop} {rd wr : List Nat} (hT : Good T rd wr) (m : Sem α) :
    ∀ (acc : List Acc) (H : Hp) (K : α → Value → Hp → List Acc → Prop), (∀ x ∈ wrA acc, x ∉ rd ∧ x ∉ wr) → (∀ x ∈ wr, x ∉ rdA acc) →
    symW P m acc H (fun a H1 r => T (fun v H2 => K a v H2 r) H1) → T (fun v H2 => symW P m acc H2 fun a H1 r => K a v H1 r) H := by
  have keep : ∀ {K K' : Value → Hp → Prop} {H : Hp}, T K H → (∀ v H', (∀ i, i ∉ wr → H' i = H i) → K v H' → K' v H') → T K' H := fun h hk => hT.step _ _ _ h hk
  induction m with
  | pure a => exact fun acc H K _ _ h => h
  | load m a k ih =>
    intro acc H K hw hr h
    match acc, h, hw, hr with
    | .rd i :: acc, h, hw, hr =>
      have hi : i ∉ wr := fun hx => (hr i hx) (by simp [rdA])
      simp only [symW] at h
      cases hs : H i with
      | blk b o =>
        rw [hs] at h
        cases o with
        | cells c t f =>
          obtain ⟨h1, h2, h3⟩ := h
          cases hv : c[a.off]? with
          | none => rw [hv] at h3; exact h3.elim
          | some v =>
            rw [hv] at h3
            refine keep (ih v acc H K hw (fun x hx hy => hr x hx (by simp [rdA, hy])) h3) (fun v2 H2 hH h => ?_)
            simp only [symW, hH i hi, hs, hv]
            exact ⟨h1, h2, h⟩
        | _ => exact h.elim
      | _ => rw [hs] at h; exact h.elim
    | .rv i g :: acc, h, hw, hr =>
      have hi : i ∉ wr := fun hx => (hr i hx) (by simp [rdA])
      simp only [symW] at h
      cases hs : H i with
      | blk b o =>
        rw [hs] at h
        cases o with
        | cells c t f =>
          obtain ⟨h1, h2, h3, h4⟩ := h
          refine keep (ih _ acc H K hw (fun x hx hy => hr x hx (by simp [rdA, hy])) h4) (fun v2 H2 hH h => ?_)
          simp only [symW, hH i hi, hs]
          exact ⟨h1, h2, h3, h⟩
        | _ => exact h.elim
      | _ => rw [hs] at h; exact h.elim
    | .wr _ :: _, h, _, _ | .ws _ :: _, h, _, _ | .nw _ :: _, h, _, _ | .ch :: _, h, _, _ | [], h, _, _ => exact h.elim
  | store m a v k ih =>
    intro acc H K hw hr h
    match acc, h, hw, hr with
    | .wr i :: acc, h, hw, hr =>
      have hi := hw i (by simp [wrA])
      simp only [symW] at h
      cases hv : notAgg v with
      | false => rw [hv] at h; exact h.elim
      | true =>
        rw [hv] at h
        cases hs : H i with
        | blk b o =>
          rw [hs] at h
          cases o with
          | cells c t f =>
            obtain ⟨h1, h2, h3⟩ := h
            cases hl : Nat.blt a.off c.size with
            | false => rw [hl] at h3; exact h3.elim
            | true =>
              cases hf : frz f a.off with
              | true => rw [hl, hf] at h3; exact h3.elim
              | false =>
                rw [hl, hf] at h3
                refine keep (hT.set _ _ _ _ hi.1 hi.2 (ih acc _ K (fun x hx => hw x (by simp [wrA, hx])) hr h3)) (fun v2 H2 hH h => ?_)
                simp only [symW, hH i hi.2, hs, hv, hl, hf]
                exact ⟨h1, h2, h⟩
          | _ => exact h.elim
        | _ => rw [hs] at h; exact h.elim
    | .ws i :: acc, h, hw, hr =>
      have hi := hw i (by simp [wrA])
      simp only [symW] at h
      cases hs : H i with
      | blk b o =>
        rw [hs] at h
        cases o with
        | cells c t f =>
          obtain ⟨h1, h2, h3, h4, h5, h6⟩ := h
          refine keep (hT.set _ _ _ _ hi.1 hi.2 (ih acc _ K (fun x hx => hw x (by simp [wrA, hx])) hr h6)) (fun v2 H2 hH h => ?_)
          simp only [symW, hH i hi.2, hs]
          exact ⟨h1, h2, h3, h4, h5, h⟩
        | _ => exact h.elim
      | _ => rw [hs] at h; exact h.elim
    | .rd _ :: _, h, _, _ | .rv _ _ :: _, h, _, _ | .nw _ :: _, h, _, _ | .ch :: _, h, _, _ | [], h, _, _ => cases v <;> exact h.elim
  | new o k ih =>
    intro acc H K hw hr h
    match acc, h, hw, hr with
    | .nw i :: acc, h, hw, hr =>
      have hi := hw i (by simp [wrA])
      simp only [symW] at h
      refine keep (hT.all Nat ⟨0⟩ _ _ fun b => hT.set _ _ _ _ hi.1 hi.2 (ih b acc _ K (fun x hx => hw x (by simp [wrA, hx])) hr (h b))) (fun v2 H2 hH h => ?_)
      simp only [symW]
      exact h
    | .rd _ :: _, h, _, _ | .rv _ _ :: _, h, _, _ | .wr _ :: _, h, _, _ | .ws _ :: _, h, _, _ | .ch :: _, h, _, _ | [], h, _, _ => exact h.elim
  | shape r k ih =>
    intro acc H K hw hr h
    match acc, h, hw, hr with
    | .rd i :: acc, h, hw, hr =>
      have hi : i ∉ wr := fun hx => (hr i hx) (by simp [rdA])
      simp only [symW] at h
      cases hs : H i with
      | blk b o =>
        rw [hs] at h
        obtain ⟨h1, h2⟩ := h
        refine keep (ih _ acc H K hw (fun x hx hy => hr x hx (by simp [rdA, hy])) h2) (fun v2 H2 hH h => ?_)
        simp only [symW, hH i hi, hs]
        exact ⟨h1, h⟩
      | _ => rw [hs] at h; exact h.elim
    | .rv _ _ :: _, h, _, _ | .wr _ :: _, h, _, _ | .ws _ :: _, h, _, _ | .nw _ :: _, h, _, _ | .ch :: _, h, _, _ | [], h, _, _ => exact h.elim
  | freeze a n k ih =>
    intro acc H K hw hr h
    match acc, h, hw, hr with
    | .wr i :: acc, h, hw, hr =>
      have hi := hw i (by simp [wrA])
      simp only [symW] at h
      cases hs : H i with
      | blk b o =>
        rw [hs] at h
        obtain ⟨h1, h2⟩ := h
        refine keep (hT.set _ _ _ _ hi.1 hi.2 (ih acc _ K (fun x hx => hw x (by simp [wrA, hx])) hr h2)) (fun v2 H2 hH h => ?_)
        simp only [symW, hH i hi.2, hs]
        exact ⟨h1, h⟩
      | _ => rw [hs] at h; exact h.elim
    | .rd _ :: _, h, _, _ | .rv _ _ :: _, h, _, _ | .ws _ :: _, h, _, _ | .nw _ :: _, h, _, _ | .ch :: _, h, _, _ | [], h, _, _ => exact h.elim
  | frozen a k ih =>
    intro acc H K hw hr h
    match acc, h, hw, hr with
    | .rd i :: acc, h, hw, hr =>
      have hi : i ∉ wr := fun hx => (hr i hx) (by simp [rdA])
      simp only [symW] at h
      cases hs : H i with
      | blk b o =>
        rw [hs] at h
        obtain ⟨h1, h2⟩ := h
        refine keep (ih _ acc H K hw (fun x hx hy => hr x hx (by simp [rdA, hy])) h2) (fun v2 H2 hH h => ?_)
        simp only [symW, hH i hi, hs]
        exact ⟨h1, h⟩
      | _ => rw [hs] at h; exact h.elim
    | .rv _ _ :: _, h, _, _ | .wr _ :: _, h, _, _ | .ws _ :: _, h, _, _ | .nw _ :: _, h, _, _ | .ch :: _, h, _, _ | [], h, _, _ => exact h.elim
  | getObj r k ih =>
    intro acc H K hw hr h
    match acc, h, hw, hr with
    | .rd i :: acc, h, hw, hr =>
      have hi : i ∉ wr := fun hx => (hr i hx) (by simp [rdA])
      simp only [symW] at h
      cases hs : H i with
      | blk b o =>
        rw [hs] at h
        obtain ⟨h1, h2⟩ := h
        cases hc : isCells o with
        | true => rw [hc] at h2; exact h2.elim
        | false =>
          rw [hc] at h2
          refine keep (ih _ acc H K hw (fun x hx hy => hr x hx (by simp [rdA, hy])) h2) (fun v2 H2 hH h => ?_)
          simp only [symW, hH i hi, hs, hc]
          exact ⟨h1, h⟩
      | _ => rw [hs] at h; exact h.elim
    | .rv _ _ :: _, h, _, _ | .wr _ :: _, h, _, _ | .ws _ :: _, h, _, _ | .nw _ :: _, h, _, _ | .ch :: _, h, _, _ | [], h, _, _ => exact h.elim
  | setObj r o k ih =>
    intro acc H K hw hr h
    match acc, h, hw, hr with
    | .wr i :: acc, h, hw, hr =>
      have hi := hw i (by simp [wrA])
      simp only [symW] at h
      cases hs : H i with
      | blk b o' =>
        rw [hs] at h
        obtain ⟨h1, h2⟩ := h
        cases hc : isCells o' with
        | true => rw [hc] at h2; exact h2.elim
        | false =>
          rw [hc] at h2
          refine keep (hT.set _ _ _ _ hi.1 hi.2 (ih acc _ K (fun x hx => hw x (by simp [wrA, hx])) hr h2)) (fun v2 H2 hH h => ?_)
          simp only [symW, hH i hi.2, hs, hc]
          exact ⟨h1, h⟩
      | _ => rw [hs] at h; exact h.elim
    | .rd _ :: _, h, _, _ | .rv _ _ :: _, h, _, _ | .ws _ :: _, h, _, _ | .nw _ :: _, h, _, _ | .ch :: _, h, _, _ | [], h, _, _ => exact h.elim
  | choose q k ih =>
    intro acc H K hw hr h
    match acc, h, hw, hr with
    | .ch :: acc, h, hw, hr =>
      simp only [symW] at h
      let β : Type := { t : Nat // (q.forced = true → t = 0) ∧ (q.forced = false → ∃ u, t = q.cut u) }
      have hne : Nonempty β := by
        cases hf : q.forced with
        | true => exact ⟨⟨0, fun _ => rfl, fun e => by rw [hf] at e; cases e⟩⟩
        | false => exact ⟨⟨q.cut 0, fun e => (by rw [hf] at e; cases e), fun _ => ⟨0, rfl⟩⟩⟩
      refine keep (hT.all β hne (fun t v H2 => symW P (k t.1) acc H2 fun a H1 r => K a v H1 r) H fun t => ih t.1 acc H K hw hr (h t.1 t.2.1 t.2.2)) (fun v2 H2 hH h => ?_)
      simp only [symW]
      exact fun t h1 h2 => h ⟨t, h1, h2⟩
    | .rd _ :: _, h, _, _ | .rv _ _ :: _, h, _, _ | .wr _ :: _, h, _, _ | .ws _ :: _, h, _, _ | .nw _ :: _, h, _, _ | [], h, _, _ => exact h.elim
  | sys c k ih => intro acc H K hw hr h; cases acc <;> exact h.elim
  | program k ih =>
    intro acc H K hw hr h
    have e : ∀ (H : Hp) (K : α → Hp → List Acc → Prop), symW P (.program k) acc H K = symW P (k P) acc H K := fun _ _ => by cases acc <;> rfl
    simp only [e] at h ⊢
    exact ih P acc H K hw hr h
  | mark m k ih =>
    intro acc H K hw hr h
    have e : ∀ (H : Hp) (K : α → Hp → List Acc → Prop), symW P (.mark m k) acc H K = symW P k acc H K := fun _ _ => by cases acc <;> rfl
    simp only [e] at h ⊢
    exact ih acc H K hw hr h
  | halt x => intro acc H K hw hr h; cases acc <;> exact h.elim
end Go.Sx
