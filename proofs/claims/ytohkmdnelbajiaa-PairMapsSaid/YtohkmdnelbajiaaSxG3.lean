/- Taking back: the journal's Back, out of its walk and a round's. -/
import Derived.Test.YtohkmdnelbajiaaSxG2
set_option linter.unusedVariables false
set_option linter.unusedSimpArgs false
namespace Go.Sx
open Go.RowKit
theorem ents_cut {L : List Ent} {A : List N4} (h : A.length = L.length) (m : Nat) : ents L A = ents (L.take m) (A.take m) ++ ents (L.drop m) (A.drop m) := by
  unfold ents
  rw [← List.flatMap_append, ← List.zip_append (by simp [h]), List.take_append_drop, List.take_append_drop]
theorem fns_take {L : List Ent} {A : List N4} (m : Nat) : (fns L A).take m = fns (L.take m) (A.take m) := by
  unfold fns; rw [← List.map_take]; congr 1; simp [List.zip, List.take_zipWith]
theorem fns_get {L : List Ent} {A : List N4} {i : Nat} {e : Ent} {a : N4} (he : L[i]? = some e) (ha : A[i]? = some a) : (fns L A)[i]? = some (e.fn a) := by
  unfold fns; rw [List.getElem?_map, (List.getElem?_zip_eq_some (z := (e, a))).2 ⟨he, ha⟩]; rfl
theorem back_of {P : Program} {f : FuncId} {K : JK} {bj : Nat} {L : List Ent} {mark : Int} {Ms : List MS3} (he : EnterOK P f) {A B : Code} {ps : Array Tmp} {n : Nat}
    (hraw : ∀ (row : Row) (T : Nat → List Slot), mark ≤ ((vals row).length : Nat) → (vals row).length ≤ 1073741824 →
      (∀ (l D : Nat) (fn : FuncId) (tmps : Array Value), tmps.size = n → ∀ x, 0 < x → x ≤ vlen (vdrop (sv row) (Int.toNat mark)) →
        RoundT P l #[.int .i64 (((x : Nat) : Int) - 1), (vals row).getD (Int.toNat mark + Int.toNat (((x : Nat) : Int) - 1)) undef] [loopB l (recOf fn tmps ps A B D), bunL (T x)] Unit (fun _ => .bool true) (fun _ => [loopB l (recOf fn tmps ps A B D), bunL (T (x - 1))]) (fun _ => True)) →
      CallT P f #[ptr bj, .int .i64 mark] [.blk bj (.cells #[sv row] K.tj (0, 0)), ss K.ft row, bunL (T (vlen (vdrop (sv row) (Int.toNat mark))))] Unit (fun _ => .bool true) (fun _ => [.blk bj (.cells #[vtake (sv row) (Int.toNat mark)] K.tj (0, 0)), ss K.ft row, bunL (T 0)]) (fun _ => True))
    (hround : ∀ (l D : Nat) (fn : FuncId) (tmps : Array Value) (i : Int) (e : Ent) (a : N4) (S1 S0 : List Slot), tmps.size = n →
      CallT P e.g #[ptr a.1, ptr a.2.1, ptr a.2.2.1, ptr a.2.2.2] [bunL S1] Unit (fun _ => undef) (fun _ => [bunL S0]) (fun _ => True) →
      RoundT P l #[.int .i64 i, Ent.fn e a] [loopB l (recOf fn tmps ps A B D), bunL S1] Unit (fun _ => .bool true) (fun _ => [loopB l (recOf fn tmps ps A B D), bunL S0]) (fun _ => True))
    (h0 : 0 ≤ mark) (h1 : mark ≤ ((L.length : Nat) : Int)) (hl : L.length ≤ 1000000) (hE : ∀ e ∈ L.drop (Int.toNat mark), ∃ y ∈ Ms, y.2.1 = e.b ∧ EOK P bj y.1 e) :
    CallT P f #[ptr bj, .int .i64 mark] (jS K bj L :: mSs bj Ms) Unit (fun _ => .bool true) (fun _ => jS K bj (L.take (Int.toNat mark)) :: mSs bj (undoAll (L.drop (Int.toNat mark)) Ms)) (fun _ => (Ms.map (·.2.1)).Nodup) :=
  ⟨he, fun R w ho => by
    obtain ⟨row, As, hv, hlen, ho'⟩ := jS_open ho
    have hvl : (vals row).length = L.length := by rw [hv, fns_len hlen]
    have hnd : (Ms.map (·.2.1)).Nodup := by
      obtain ⟨p, q, hp, _⟩ := own_sep.1 ho
      obtain ⟨p1, p2, _, hm, _⟩ := hp
      exact (mSs_nodup hm).1
    have hm0 : Int.toNat mark ≤ L.length := by omega
    have hcut := ents_cut hlen (Int.toNat mark)
    have hvd : vlen (vdrop (sv row) (Int.toNat mark)) = (L.drop (Int.toNat mark)).length := by rw [vlen_drop, hvl, List.length_drop]
    have hAl : (As.drop (Int.toNat mark)).length = (L.drop (Int.toNat mark)).length := by simp [hlen]
    have c := hraw row (stepT bj Ms (L.drop (Int.toNat mark)) (As.drop (Int.toNat mark))) (by rw [hvl]; exact h1) (by omega) (fun l D fn tmps hz x hx0 hx => by
      rw [hvd] at hx
      obtain ⟨e, a, h1, h2, hc⟩ := step_call hAl hnd hE hx0 hx
      have h3 : (vals row).getD (Int.toNat mark + Int.toNat (((x : Nat) : Int) - 1)) undef = e.fn a := by
        rw [List.getElem?_drop] at h1 h2
        have : Int.toNat mark + Int.toNat (((x : Nat) : Int) - 1) = Int.toNat mark + (x - 1) := by omega
        rw [this, List.getD_eq_getElem?_getD, hv, fns_get h1 h2]; rfl
      rw [h3]
      exact hround l D fn tmps _ e a _ _ hz hc)
    have c2 := c.frame (ents (L.take (Int.toNat mark)) (As.take (Int.toNat mark)))
    have o2 : Own (ofList ([.blk bj (.cells #[sv row] K.tj (0, 0)), ss K.ft row, bunL (stepT bj Ms (L.drop (Int.toNat mark)) (As.drop (Int.toNat mark)) (vlen (vdrop (sv row) (Int.toNat mark))))] ++ ents (L.take (Int.toNat mark)) (As.take (Int.toNat mark)))) R w := by
      have hT : stepT bj Ms (L.drop (Int.toNat mark)) (As.drop (Int.toNat mark)) (vlen (vdrop (sv row) (Int.toNat mark))) = mSs bj Ms ++ ents (L.drop (Int.toNat mark)) (As.drop (Int.toNat mark)) := by
        unfold stepT; rw [hvd, List.drop_length]; rfl
      rw [hT]
      have o3 : Own (ofList ((mSs bj Ms ++ ents (L.drop (Int.toNat mark)) (As.drop (Int.toNat mark))) ++ (.blk bj (.cells #[sv row] K.tj (0, 0)) :: ss K.ft row :: ents (L.take (Int.toNat mark)) (As.take (Int.toNat mark))))) R w := by
        refine Imp.perm ?_ R w ho'
        rw [hcut]
        classical
        rw [List.perm_iff_count]
        intro s
        simp only [List.count_append, List.count_cons]
        omega
      refine Imp.perm ?_ R w (bunL_shut _ _ R w o3)
      classical
      rw [List.perm_iff_count]
      intro s
      simp only [List.count_append, List.count_cons, List.count_nil]
      omega
    refine (c2.calls R w o2).mono fun e w' hh => ?_
    obtain ⟨_, _, e1, o4, ext⟩ := hh
    refine ⟨(), hnd, e1, ?_, ext⟩
    have o5 : Own (ofList ((mSs bj (undoAll (L.drop (Int.toNat mark)) Ms) ++ ents (L.drop (Int.toNat mark)) (As.drop (Int.toNat mark))) ++ (.blk bj (.cells #[vtake (sv row) (Int.toNat mark)] K.tj (0, 0)) :: ss K.ft row :: ents (L.take (Int.toNat mark)) (As.take (Int.toNat mark))))) R w' := by
      refine bunL_open _ _ R w' (Imp.perm ?_ R w' o4)
      classical
      rw [List.perm_iff_count]
      intro s
      simp only [List.count_append, List.count_cons, List.count_nil]
      show _ = _ + _
      unfold stepT
      simp only [List.drop_zero]
      omega
    have hss : ss K.ft row = ss K.ft (row.take (Int.toNat mark)) := (ss_take row K.ft _).symm
    rw [vtake_sv row _ (by rw [hvl]; exact hm0), hss] at o5
    have hvt : vals (row.take (Int.toNat mark)) = (vals row).take (Int.toNat mark) := vals_take row _
    have o6 : Own (ofList ((.blk bj (.cells #[sv (row.take (Int.toNat mark))] K.tj (0, 0)) :: ss K.ft (row.take (Int.toNat mark)) :: (ents (L.take (Int.toNat mark)) (As.take (Int.toNat mark)) ++ mSs bj (undoAll (L.drop (Int.toNat mark)) Ms))) ++ ents (L.drop (Int.toNat mark)) (As.drop (Int.toNat mark)))) R w' := by
      refine Imp.perm ?_ R w' o5
      classical
      rw [List.perm_iff_count]
      intro s
      simp only [List.count_append, List.count_cons]
      omega
    exact jS_shut (by rw [hvt, hv, fns_take]) (by simp [hlen]) _ R w' (Imp.drop _ _ R w' o6)⟩
end Go.Sx
