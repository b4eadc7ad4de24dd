/- A part of the prover's own frame for walking code (see the claim's other texts). -/
import Derived.Test.YtndpgncojcpnjaaGreatF1
import Derived.Test.YtndpgncojcpnjaaGreatF2
import Derived.Laws.BytesString
set_option linter.unusedVariables false
set_option linter.unusedSimpArgs false
namespace Go.Sx
open Go.RowKit
theorem ents_cut {L:List Ent} {A:List N4} (h:A.length=L.length) (m:Nat):ents L A=ents (L.take m) (A.take m)++ents (L.drop m) (A.drop m):=by
  unfold ents
  rw [←List.flatMap_append,←List.zip_append (by simp [h]),List.take_append_drop,List.take_append_drop]
theorem fns_take {L:List Ent} {A:List N4} (m:Nat):(fns L A).take m=fns (L.take m) (A.take m):=by
  unfold fns;rw [←List.map_take];congr 1;simp [List.zip,List.take_zipWith]
theorem fns_get {L:List Ent} {A:List N4} {i:Nat} {e:Ent} {a:N4} (he:L[i]? =some e) (ha:A[i]? =some a):(fns L A)[i]? =some (e.fn a):=by
  unfold fns;rw [List.getElem?_map,(List.getElem?_zip_eq_some (z:=(e,a))).2 ⟨he,ha⟩];rfl
theorem back_of {P : Program} {f : FuncId} {K : JK} {bj : Nat} {L : List Ent} {mark : Int} {Ms : List MS3} (he : EnterOK P f) {A B : Code} {ps : Array Tmp} {n : Nat}
    (hraw: ∀ (row:Row) (T:Nat->List Slot),mark<=((vals row).length:Nat)->(vals row).length<=1073741824->
      (∀ (l D:Nat) (fn:FuncId) (tmps:Array Value),tmps.size=n-> ∀x,0<x->x<=vlen (vdrop (sv row) (Int.toNat mark))->
        RoundT P l #[.int .i64 (((x:Nat):Int) - 1),(vals row).getD (Int.toNat mark+Int.toNat (((x:Nat):Int) - 1)) undef] [loopB l (recOf fn tmps ps A B D),bunL (T x)] Unit (fun _=> .bool true) (fun _=> [loopB l (recOf fn tmps ps A B D),bunL (T (x - 1))]) (fun _=>True))->
      CallT P f #[ptr bj, .int .i64 mark] [.blk bj (.cells #[sv row] K.tj (0,0)),ss K.ft row,bunL (T (vlen (vdrop (sv row) (Int.toNat mark))))] Unit (fun _=> .bool true) (fun _=> [.blk bj (.cells #[vtake (sv row) (Int.toNat mark)] K.tj (0,0)),ss K.ft row,bunL (T 0)]) (fun _=>True))
    (hround: ∀ (l D:Nat) (fn:FuncId) (tmps:Array Value) (i:Int) (e:Ent) (a:N4) (S1 S0:List Slot),tmps.size=n->
      CallT P e.g #[ptr a.1,ptr a.2.1,ptr a.2.2.1,ptr a.2.2.2] [bunL S1] Unit (fun _=>undef) (fun _=> [bunL S0]) (fun _=>True)->
      RoundT P l #[.int .i64 i,Ent.fn e a] [loopB l (recOf fn tmps ps A B D),bunL S1] Unit (fun _=> .bool true) (fun _=> [loopB l (recOf fn tmps ps A B D),bunL S0]) (fun _=>True))
    (h0:0<=mark) (h1:mark<=((L.length:Nat):Int)) (hl:L.length<=1000000) (hE: ∀e∈L.drop (Int.toNat mark),∃y∈Ms,y.2.1=e.b/\EOK P bj y.1 e):
    CallT P f #[ptr bj, .int .i64 mark] (jS K bj L::mSs bj Ms) Unit (fun _=> .bool true) (fun _=>jS K bj (L.take (Int.toNat mark))::mSs bj (undoAll (L.drop (Int.toNat mark)) Ms)) (fun _=>(Ms.map (·.2.1)).Nodup):=
  ⟨he,fun R w ho=>by
    obtain ⟨row,As,hv,hlen,ho'⟩:=jS_open ho
    have hvl:(vals row).length=L.length:=by rw [hv,fns_len hlen]
    have hnd:(Ms.map (·.2.1)).Nodup:=by
      obtain ⟨p,q,hp,_⟩:=own_sep.1 ho
      obtain ⟨p1,p2,_,hm,_⟩:=hp
      exact (mSs_nodup hm).1
    have hm0:Int.toNat mark<=L.length:=by omega
    have hcut:=ents_cut hlen (Int.toNat mark)
    have hvd:vlen (vdrop (sv row) (Int.toNat mark))=(L.drop (Int.toNat mark)).length:=by rw [vlen_drop,hvl,List.length_drop]
    have hAl:(As.drop (Int.toNat mark)).length=(L.drop (Int.toNat mark)).length:=by simp [hlen]
    have c:=hraw row (stepT bj Ms (L.drop (Int.toNat mark)) (As.drop (Int.toNat mark))) (by rw [hvl];exact h1) (by omega) (fun l D fn tmps hz x hx0 hx=>by
      rw [hvd] at hx
      obtain ⟨e,a,h1,h2,hc⟩:=step_call hAl hnd hE hx0 hx
      have h3:(vals row).getD (Int.toNat mark+Int.toNat (((x:Nat):Int) - 1)) undef=e.fn a:=by
        rw [List.getElem?_drop] at h1 h2
        have:Int.toNat mark+Int.toNat (((x:Nat):Int) - 1)=Int.toNat mark+(x - 1):=by omega
        rw [this,List.getD_eq_getElem?_getD,hv,fns_get h1 h2];rfl
      rw [h3]
      exact hround l D fn tmps _ e a _ _ hz hc)
    have c2:=c.frame (ents (L.take (Int.toNat mark)) (As.take (Int.toNat mark)))
    have o2:Own (ofList ([.blk bj (.cells #[sv row] K.tj (0,0)),ss K.ft row,bunL (stepT bj Ms (L.drop (Int.toNat mark)) (As.drop (Int.toNat mark)) (vlen (vdrop (sv row) (Int.toNat mark))))]++ents (L.take (Int.toNat mark)) (As.take (Int.toNat mark)))) R w:=by
      have hT:stepT bj Ms (L.drop (Int.toNat mark)) (As.drop (Int.toNat mark)) (vlen (vdrop (sv row) (Int.toNat mark)))=mSs bj Ms++ents (L.drop (Int.toNat mark)) (As.drop (Int.toNat mark)):=by
        unfold stepT;rw [hvd,List.drop_length];rfl
      rw [hT]
      have o3:Own (ofList ((mSs bj Ms++ents (L.drop (Int.toNat mark)) (As.drop (Int.toNat mark)))++(.blk bj (.cells #[sv row] K.tj (0,0))::ss K.ft row::ents (L.take (Int.toNat mark)) (As.take (Int.toNat mark))))) R w:=by
        refine Imp.perm ?_ R w ho'
        rw [hcut]
        classical
        rw [List.perm_iff_count]
        intro s
        simp only [List.count_append,List.count_cons]
        omega
      refine Imp.perm ?_ R w (bunL_shut _ _ R w o3)
      classical
      rw [List.perm_iff_count]
      intro s
      simp only [List.count_append,List.count_cons,List.count_nil]
      omega
    refine (c2.calls R w o2).mono fun e w' hh=> ?_
    obtain ⟨_,_,e1,o4,ext⟩:=hh
    refine ⟨(),hnd,e1,?_,ext⟩
    have o5:Own (ofList ((mSs bj (undoAll (L.drop (Int.toNat mark)) Ms)++ents (L.drop (Int.toNat mark)) (As.drop (Int.toNat mark)))++(.blk bj (.cells #[vtake (sv row) (Int.toNat mark)] K.tj (0,0))::ss K.ft row::ents (L.take (Int.toNat mark)) (As.take (Int.toNat mark))))) R w' :=by
      refine bunL_open _ _ R w' (Imp.perm ?_ R w' o4)
      classical
      rw [List.perm_iff_count]
      intro s
      simp only [List.count_append,List.count_cons,List.count_nil]
      show _=_+_
      unfold stepT
      simp only [List.drop_zero]
      omega
    have hss:ss K.ft row=ss K.ft (row.take (Int.toNat mark)):=(ss_take row K.ft _).symm
    rw [vtake_sv row _ (by rw [hvl];exact hm0),hss] at o5
    have hvt:vals (row.take (Int.toNat mark))=(vals row).take (Int.toNat mark):=vals_take row _
    have o6:Own (ofList ((.blk bj (.cells #[sv (row.take (Int.toNat mark))] K.tj (0,0))::ss K.ft (row.take (Int.toNat mark))::(ents (L.take (Int.toNat mark)) (As.take (Int.toNat mark))++mSs bj (undoAll (L.drop (Int.toNat mark)) Ms)))++ents (L.drop (Int.toNat mark)) (As.drop (Int.toNat mark)))) R w' :=by
      refine Imp.perm ?_ R w' o5
      classical
      rw [List.perm_iff_count]
      intro s
      simp only [List.count_append,List.count_cons]
      omega
    exact jS_shut (by rw [hvt,hv,fns_take]) (by simp [hlen]) _ R w' (Imp.drop _ _ R w' o6)⟩
end Go.Sx
namespace Go.Sx
open Go.RowKit
def EqM (a b:KV):Prop:= ∀k,mget a k=mget b k
theorem EqM.refl (a:KV):EqM a a:=fun _=>rfl
theorem EqM.trans {a b c:KV} (h:EqM a b) (k:EqM b c):EqM a c:=fun x=>(h x).trans (k x)
theorem EqM.symm {a b:KV} (h:EqM a b):EqM b a:=fun x=>(h x).symm
theorem mget_of_mem {m:KV} (hm:MOK m) {e:Value×Value} (he:e∈m):mget m e.1=some e.2:=by
  induction m with
  | nil=>cases he
  | cons x m ih =>
    have hn:x.1∉m.map (·.1)/\(m.map (·.1)).Nodup:=List.nodup_cons.1 hm
    rw [mget_cons]
    rcases List.mem_cons.1 he with rfl | h
    · rw [if_pos rfl]
    · rw [if_neg (fun e' =>hn.1 (by rw [e'];exact List.mem_map_of_mem h)),ih hn.2 h]
theorem KOK.of_eq {K:MK} {m m' :KV} (h:KOK K m) (hm:MOK m') (e:EqM m' m):KOK K m' :=
  ⟨hm,fun x hx=>h.ok x (by
    have h1:=mget_of_mem hm hx
    rw [e x.1] at h1
    have:=mget_mem h1
    exact this)⟩
theorem nodup_len {α:Type} [DecidableEq α]: ∀ {l l' :List α},l.Nodup->(∀x∈l,x∈l')->l.length<=l'.length
  | [],_,_,_=>Nat.zero_le _
  | a :: l, l', hn, hs => by
    have ha:a∈l' :=hs a (List.mem_cons_self ..)
    have hn' :=List.nodup_cons.1 hn
    have:=nodup_len (l:=l) (l' :=l'.erase a) hn'.2 (fun x hx=>(List.mem_erase_of_ne (fun e=>hn'.1 (by rw [←e];exact hx))).2 (hs x (List.mem_cons_of_mem _ hx)))
    rw [List.length_erase_of_mem ha] at this
    have h0:0<l'.length:=List.length_pos_of_mem ha
    simp only [List.length_cons]
    omega
theorem EqM.len {a b:KV} (h:EqM a b) (ha:MOK a) (hb:MOK b):a.length=b.length:=by
  have key: ∀ {a b:KV},EqM a b->MOK a->a.length<=b.length:=by
    intro a b h ha
    have:=nodup_len (l:=a.map (·.1)) (l' :=b.map (·.1)) (show (a.map (·.1)).Nodup from ha) (fun x hx=>by
      obtain ⟨e,he,rfl⟩:=List.mem_map.1 hx
      have h1:=mget_of_mem ha he
      rw [h e.1] at h1
      exact List.mem_map_of_mem (f:=(·.1)) (mget_mem h1))
    simpa using this
  exact Nat.le_antisymm (key h ha) (key h.symm hb)
theorem EqM.set {a b:KV} (h:EqM a b) (k v:Value):EqM (mset a k v) (mset b k v):=fun x=>by rw [mget_set,mget_set,h x]
theorem EqM.del {a b:KV} (h:EqM a b) (ha:MOK a) (hb:MOK b) (k:Value):EqM (mdel a k) (mdel b k):=fun x=>by rw [mget_del ha,mget_del hb,h x]
noncomputable def undoB (b:Nat) (E:List Ent) (m:KV):KV:=E.foldr (fun e m=>if b=e.b then e.undo m else m) m
theorem undoB_snoc (b:Nat) (E:List Ent) (e:Ent) (m:KV):undoB b (E++ [e]) m=undoB b E (if b=e.b then e.undo m else m):=by unfold undoB;rw [List.foldr_append];rfl
theorem undoAll_map (E:List Ent) (Ms:List MS3):undoAll E Ms=Ms.map fun x=>(x.1,x.2.1,undoB x.2.1 E x.2.2):=by
  induction E with
  | nil=>unfold undoAll;simp [undoB]
  | cons e E ih =>
    show undo1 e (undoAll E Ms)=_
    rw [ih]
    unfold undo1
    rw [List.map_map]
    refine List.map_congr_left fun x _=> ?_
    show (if x.2.1=e.b then (x.1,x.2.1,e.undo (undoB x.2.1 E x.2.2)) else (x.1,x.2.1,undoB x.2.1 E x.2.2))=(x.1,x.2.1,if x.2.1=e.b then e.undo (undoB x.2.1 E x.2.2) else undoB x.2.1 E x.2.2)
    split<;>rfl
def Und (b:Nat) (m m' :KV) (E:List Ent):Prop:= ∀m2,MOK m2->EqM m2 m' ->MOK (undoB b E m2)/\EqM (undoB b E m2) m
theorem Und.nil (b:Nat) (m:KV):Und b m m []:=fun m2 h e=>⟨h,e⟩
theorem Und.other {b:Nat} {m m' :KV} {E:List Ent} (h:Und b m m' E) {e:Ent} (hb:e.b≠b):Und b m m' (E++ [e]):=fun m2 h2 e2=>by
  rw [undoB_snoc,if_neg (fun q=>hb q.symm)];exact h m2 h2 e2
theorem undo_mok {e:Ent} {m:KV} (h:MOK m):MOK (e.undo m):=by
  unfold Ent.undo
  cases e.was with
  | none=>exact h.del _
  | some v=>exact h.set _ _
theorem mget_undo {e:Ent} {m:KV} (h:MOK m) (k:Value):mget (e.undo m) k=if k=e.key then e.was else mget m k:=by
  unfold Ent.undo
  cases e.was with
  | none=>exact mget_del h _ _
  | some v=>exact mget_set _ _ _ _
theorem Und.snoc {b:Nat} {m m' m3:KV} {E:List Ent} (h:Und b m m' E) {e:Ent} (hb:e.b=b) (hw:e.was=mget m' e.key) (ho: ∀k,k≠e.key->mget m3 k=mget m' k):Und b m m3 (E++ [e]):=fun m2 h2 e2=>by
  rw [undoB_snoc,if_pos hb.symm]
  refine h _ (undo_mok h2) fun k=> ?_
  rw [mget_undo h2]
  by_cases hk:k=e.key
  · rw [if_pos hk,hw,hk]
  · rw [if_neg hk,e2 k,ho k hk]
theorem Und.set {b:Nat} {m m' :KV} {E:List Ent} (h:Und b m m' E) {e:Ent} (hb:e.b=b) (hw:e.was=mget m' e.key) (v:Value):Und b m (mset m' e.key v) (E++ [e]):=
  h.snoc hb hw fun k hk=>by rw [mget_set,if_neg hk]
structure PMs where
  mn:KV
  mx:KV
  mb:KV
  ms:KV
structure PMOK (Kn Kx Kb Ks:MK) (s:PMs):Prop where
  n:KOK Kn s.mn
  x:KOK Kx s.mx
  b:KOK Kb s.mb
  s:KOK Ks s.ms
def TryM (Kx Kb Ks:MK) (fl:Bool) (mx mb ms:KV) (k v:Int) (e:Int) (mx' mb' ms' :KV):Prop:=
  KOK Kx mx' /\KOK Kb mb' /\KOK Ks ms' /\((fl=true/\e=11/\EqM mx' mx/\bal mb' 0 2=bal mb 0 2/\sup ms' 0=sup ms 0)∨(fl=false/\e=0/\mx' =mset mx (.int .i64 k) (.int .i64 v)/\bal mb' 0 2=bal mb 0 2+1/\sup ms' 0=sup ms 0+1))
structure PMI (Kx Kb Ks:MK) (i:Nat) (mx mb ms mv:KV) (sum:Int):Prop where
  x:KOK Kx mx
  b:KOK Kb mb
  s:KOK Ks ms
  v:KOK Kx mv
  eq:EqM mx mv
  bal:bal mb 0 2=sum
  sup:sup ms 0=sum
  lo:0<=sum
  hi:sum<=i
theorem PMI.start {Kx Kb Ks:MK}:PMI Kx Kb Ks 0 [] [] [] [] 0:=⟨KOK.nil,KOK.nil,KOK.nil,KOK.nil,EqM.refl _,bal_nil 0 2,sup_nil 0,Int.le_refl _,Int.le_refl _⟩
theorem PMI.done {Kx Kb Ks:MK} {i:Nat} {mx mb ms mv mx' mb' ms' :KV} {sum k v e:Int} (h:PMI Kx Kb Ks i mx mb ms mv sum) (ok:Kx.OkK (.int .i64 k)) (ov:Kx.OkV (.int .i64 v)) (t:TryM Kx Kb Ks false mx mb ms k v e mx' mb' ms'):e=0/\PMI Kx Kb Ks (i+1) mx' mb' ms' (mset mv (.int .i64 k) (.int .i64 v)) (sum+1):=by
  obtain ⟨h1,h2,h3,⟨h4,_⟩ | ⟨_,h4,h5,h6,h7⟩⟩:=t
  · cases h4
  · exact ⟨h4,h1,h2,h3,h.v.set ok ov,by rw [h5];exact h.eq.set _ _,by rw [h6,h.bal],by rw [h7,h.sup],by have:=h.lo;omega,by have:=h.hi;omega⟩
theorem SlX.cells {X:Type} {w:World} {n:Nat} {val:X->Value} {Ok:X->Prop} {v:Value} {xs:List X} (h:SlX w n val Ok v xs):v.cells= #[v]:=by
  rcases h.sl.form with rfl | ⟨a,len,cap,rfl⟩<;>rfl
end Go.Sx
namespace Go.Sx
open Go.RowKit
structure EntOK (b:Nat) (ent:KV->Value->Ent):Prop where
  b: ∀m k,(ent m k).b=b
  key: ∀m k,(ent m k).key=k
  was: ∀m k,(ent m k).was=mget m k
def Jr (K:MK) (ent:KV->Value->Ent) (hs:List KV) (L:List Ent) (m:KV):Prop:=
  hs.length=L.length/\ ∀i e,L[i]? =some e-> ∃m0 key h h',e=ent m0 key/\K.OkK key/\KOK K m0/\hs[i]? =some h/\(hs++ [m])[i+1]? =some h' /\EqM m0 h/\ ∀k,k≠key->mget h' k=mget h k
theorem Jr.nil {K:MK} {ent:KV->Value->Ent} (m:KV):Jr K ent [] [] m:=⟨rfl,fun i e h=>by simp at h⟩
theorem Jr.push {K:MK} {ent:KV->Value->Ent} {hs:List KV} {L:List Ent} {m m' :KV} (h:Jr K ent hs L m) (hk:KOK K m) {key:Value} (ok:K.OkK key) (ho: ∀k,k≠key->mget m' k=mget m k):Jr K ent (hs++ [m]) (L++ [ent m key]) m' :=by
  refine ⟨by simp [h.1],fun i e he=> ?_⟩
  rcases Nat.lt_or_ge i L.length with q | q
  · rw [List.getElem?_append_left q] at he
    obtain ⟨m0,k0,h0,h1,e1,e2,e3,e4,e5,e6,e7⟩:=h.2 i e he
    refine ⟨m0,k0,h0,h1,e1,e2,e3,?_,?_,e6,e7⟩
    · rw [List.getElem?_append_left (by rw [h.1];exact q)];exact e4
    · rw [List.getElem?_append_left (by simp [h.1];omega)];exact e5
  · have hi:i=L.length:=by
      have:=(List.getElem?_eq_some_iff.1 he).1
      simp at this;omega
    subst hi
    simp at he;subst he
    refine ⟨m,key,m,m',rfl,ok,hk,by simp [←h.1],?_,EqM.refl _,ho⟩
    rw [List.getElem?_append_right (by simp [h.1])]
    simp [h.1]
theorem Und.cons {b:Nat} {h h' m:KV} {E:List Ent} (u:Und b h' m E) {e:Ent} (hb:e.b=b) (hw:e.was=mget h e.key) (ho: ∀k,k≠e.key->mget h' k=mget h k):Und b h m (e::E):=fun m2 h2 e2=>by
  obtain ⟨a1,a2⟩:=u m2 h2 e2
  have e3:undoB b (e::E) m2=e.undo (undoB b E m2):=by
    show (if b=e.b then e.undo (undoB b E m2) else undoB b E m2)=_
    rw [if_pos hb.symm]
  rw [e3]
  refine ⟨undo_mok a1,fun k=> ?_⟩
  rw [mget_undo a1]
  by_cases hk:k=e.key
  · rw [if_pos hk,hw,hk]
  · rw [if_neg hk,a2 k,ho k hk]
theorem Jr.und {K:MK} {ent:KV->Value->Ent} {b:Nat} (E:EntOK b ent) {hs:List KV} {L:List Ent} {m:KV} (h:Jr K ent hs L m): ∀ (d n:Nat),n+d=L.length-> ∀h0,(hs++ [m])[n]? =some h0->Und b h0 m (L.drop n)
  | 0, n, hd, h0, hn => by
    have:n=hs.length:=by rw [h.1];omega
    subst this
    simp at hn;subst hn
    rw [List.drop_eq_nil_of_le (by rw [h.1];exact Nat.le_refl _)];exact Und.nil b _
  | d + 1, n, hd, h0, hn => by
    have hlt:n<L.length:=by omega
    obtain ⟨m0,key,a,a',e1,_,_,e4,e5,e6,e7⟩:=h.2 n L[n] (List.getElem?_eq_getElem hlt)
    have ha:h0=a:=by
      rw [List.getElem?_append_left (by rw [h.1];exact hlt),e4] at hn
      injection hn with hn;exact hn.symm
    subst ha
    rw [List.drop_eq_getElem_cons hlt]
    refine Und.cons (h.und E d (n+1) (by omega) a' e5) (by rw [e1];exact E.b _ _) ?_ ?_
    · rw [e1,E.was,E.key];exact e6 key
    · intro k hk
      rw [e1,E.key] at hk
      exact e7 k hk
theorem Jr.back {K:MK} {ent:KV->Value->Ent} {b:Nat} (E:EntOK b ent) {hs:List KV} {L:List Ent} {m:KV} (h:Jr K ent hs L m) (hk:KOK K m) {n:Nat} (hn:n<=L.length) {h0:KV} (h1:(hs++ [m])[n]? =some h0):
    KOK K (undoB b (L.drop n) m)/\EqM (undoB b (L.drop n) m) h0/\Jr K ent (hs.take n) (L.take n) (undoB b (L.drop n) m):=by
  obtain ⟨a1,a2⟩:=h.und E (L.length - n) n (by omega) h0 h1 m hk.once (EqM.refl _)
  have hK:KOK K (undoB b (L.drop n) m):=by
    rcases Nat.lt_or_ge n L.length with q | q
    · obtain ⟨m0,key,a,a',_,_,e3,e4,_,e6,_⟩:=h.2 n L[n] (List.getElem?_eq_getElem q)
      rw [List.getElem?_append_left (by rw [h.1];exact q),e4] at h1
      injection h1 with h1
      exact e3.of_eq a1 (a2.trans (h1▸e6.symm))
    · rw [List.drop_eq_nil_of_le q];exact hk
  refine ⟨hK,a2,by simp [h.1],fun i e he=> ?_⟩
  have hi:i<n/\i<L.length:=by
    have:=(List.getElem?_eq_some_iff.1 he).1
    simp only [List.length_take] at this;omega
  rw [List.getElem?_take_of_lt hi.1] at he
  obtain ⟨m0,key,a,a',e1,e2,e3,e4,e5,e6,e7⟩:=h.2 i e he
  have e4' :(hs.take n)[i]? =some a:=by rw [List.getElem?_take_of_lt hi.1];exact e4
  rcases Nat.lt_or_ge (i+1) n with q | q
  · refine ⟨m0,key,a,a',e1,e2,e3,e4',?_,e6,e7⟩
    rw [List.getElem?_append_left (by simp [h.1];omega),List.getElem?_take_of_lt q]
    rw [List.getElem?_append_left (by rw [h.1];omega)] at e5
    exact e5
  · have hq:i+1=n:=by omega
    refine ⟨m0,key,a,undoB b (L.drop n) m,e1,e2,e3,e4',?_,e6,fun k hk=> ?_⟩
    · rw [List.getElem?_append_right (by simp [h.1];omega)]
      have:i+1 - (hs.take n).length=0:=by simp [h.1];omega
      rw [this];rfl
    · rw [a2 k]
      have:h0=a' :=by rw [hq,h1] at e5;injection e5
      rw [this];exact e7 k hk
theorem keys_le {m:KV} (hm:MOK m) {l:List Value} (h: ∀k v,mget m k=some v->k∈l):m.length<=l.length:=by
  have:=nodup_len (l:=m.map (·.1)) (l' :=l) (show (m.map (·.1)).Nodup from hm) (fun x hx=>by
    obtain ⟨e,he,rfl⟩:=List.mem_map.1 hx
    exact h _ _ (mget_of_mem hm he))
  simpa using this
theorem KeysOf.len {kk:IntKind} {m:KV} {l:List Value} (h:KeysOf kk m l):l.length=m.length:=by simpa using h.1.length_eq
theorem KeysOf.mem {kk:IntKind} {m:KV} {l:List Value} (h:KeysOf kk m l) (hm:MOK m) {i:Nat} {k:Value} (hi:l[i]? =some k): ∃v,mget m k=some v:=by
  have hk:k∈m.map (·.1):=h.1.mem_iff.1 (List.mem_of_getElem? hi)
  obtain ⟨e,he,rfl⟩:=List.mem_map.1 hk
  exact ⟨e.2,mget_of_mem hm he⟩
theorem pairs_at {z:Value} {m:KV} {l:List Value} {i:Nat} {x:Int×Int} (h:(pairsOf z m l)[i]? =some (p2V x)):l[i]? =some (.int .i64 x.1)/\(mget m (.int .i64 x.1)).getD z= .int .i64 x.2:=by
  unfold pairsOf at h
  rw [List.getElem?_map] at h
  cases hl:l[i]? with
  | none=>rw [hl] at h;cases h
  | some k =>
    rw [hl] at h
    simp only [Option.map_some,p2V,Option.some.injEq,Value.agg.injEq] at h
    have h1:=congrArg Array.toList h
    simp only [List.cons.injEq,and_true] at h1
    obtain ⟨rfl,h2⟩:=h1
    exact ⟨rfl,h2⟩
theorem pairs_len {z:Value} {m:KV} {l:List Value}:(pairsOf z m l).length=l.length:=by unfold pairsOf;simp
theorem keys_eq {kk:IntKind} {m n:KV} (hm:MOK m) (hn:MOK n) (h:EqM m n) {l l' :List Value} (h1:KeysOf kk m l) (h2:KeysOf kk n l'):l=l' :=by
  have key: ∀ {a b:KV},MOK a->EqM a b-> ∀v,v∈a.map (·.1)->v∈b.map (·.1):=by
    intro a b ha h v hv
    obtain ⟨e,he,rfl⟩:=List.mem_map.1 hv
    have:=mget_of_mem ha he
    rw [h e.1] at this
    exact List.mem_map_of_mem (f:=(·.1)) (mget_mem this)
  exact rise_unique h1.2.1 h2.2.1 h1.2.2 h2.2.2 fun v=>⟨fun hv=>h2.1.mem_iff.2 (key hm h v (h1.1.mem_iff.1 hv)),fun hv=>h1.1.mem_iff.2 (key hn h.symm v (h2.1.mem_iff.1 hv))⟩
end Go.Sx
namespace Go.Sx
open Go.RowKit
theorem Jr.set {K:MK} {ent:KV->Value->Ent} {hs:List KV} {L:List Ent} {m:KV} (h:Jr K ent hs L m) (hk:KOK K m) {k v:Value} (ok:K.OkK k) (ov:K.OkV v):Jr K ent (hs++ [m]) (L++ [ent m k]) (mset m k v)/\KOK K (mset m k v):=
  ⟨h.push hk ok fun k' hk' =>by rw [mget_set,if_neg hk'],hk.set ok ov⟩
theorem Jr.del {K:MK} {ent:KV->Value->Ent} {hs:List KV} {L:List Ent} {m:KV} (h:Jr K ent hs L m) (hk:KOK K m) {k:Value} (ok:K.OkK k):Jr K ent (hs++ [m]) (L++ [ent m k]) (mdel m k)/\KOK K (mdel m k):=
  ⟨h.push hk ok fun k' hk' =>by rw [mget_del hk.once,if_neg hk'],hk.del k⟩
abbrev iv (n:Int):Value:= .int .i64 n
structure IntK (K:MK):Prop where
  k: ∀n,K.OkK (iv n)
  k' : ∀v,K.OkK v-> ∃n,v=iv n
  v: ∀n:Int,(Lit.int .i64 n).wf=true->K.OkV (iv n)
  v' : ∀x,K.OkV x-> ∃n:Int,(Lit.int .i64 n).wf=true/\x=iv n
def SO1 (K:MK) (ls:List Int) (i:Nat) (m:KV) (n:Nat):Prop:=i<=ls.length/\KOK K m/\(∀k v,mget m k=some v->v=iv 1/\ ∃j z,j<i/\ls[j]? =some z/\k=iv z)/\n=i
theorem SO1.start {K:MK} {ls:List Int}:SO1 K ls 0 [] 0:=by
  refine ⟨Nat.zero_le _,KOK.nil,fun k v h=> ?_,rfl⟩
  rw [mget_nil] at h;cases h
theorem SO1.step {K:MK} (I:IntK K) {ls:List Int} {i:Nat} {m:KV} {n:Nat} (h:SO1 K ls i m n) {z:Int} (hz:ls[i]? =some z):SO1 K ls (i+1) (mset m (iv z) (iv 1)) (n+1):=by
  have hlt:=(List.getElem?_eq_some_iff.1 hz).1
  refine ⟨hlt,h.2.1.set (I.k z) (I.v 1 rfl),fun k v hk=> ?_,by rw [h.2.2.2]⟩
  rw [mget_set] at hk
  by_cases e:k=iv z
  · rw [if_pos e] at hk
    injection hk with hk
    exact ⟨hk.symm,i,z,Nat.lt_succ_self i,hz,e⟩
  · rw [if_neg e] at hk
    obtain ⟨h1,j,y,hj,h2,h3⟩:=h.2.2.1 k v hk
    exact ⟨h1,j,y,Nat.lt_succ_of_lt hj,h2,h3⟩
theorem SO1.len {K:MK} {ls:List Int} {i:Nat} {m:KV} {n:Nat} (h:SO1 K ls i m n):m.length<=ls.length:=by
  have:=keys_le h.2.1.once (l:=ls.map iv) (fun k v hk=>by
    obtain ⟨_,j,z,_,hz,rfl⟩:=h.2.2.1 k v hk
    exact List.mem_map_of_mem (List.mem_of_getElem? hz))
  simpa using this
theorem SO1.int {K:MK} (I:IntK K) {m:KV} (h:KOK K m):IntKeys .i64 m:=⟨fun v hv=>by
  obtain ⟨e,he,rfl⟩:=List.mem_map.1 hv
  exact I.k' _ (h.ok e he).1,h.once⟩
def SO2 (K:MK) (ls:List Int) (i:Nat) (m:KV) (n:Nat):Prop:=i<=ls.length/\KOK K m/\(∀k v,mget m k=some v-> ∃j z,i<=j/\ls[j]? =some z/\k=iv z)/\n<=ls.length+2*i
theorem SO1.next {K:MK} {ls:List Int} {m:KV} {n i:Nat} (h:SO1 K ls i m n):SO2 K ls 0 m n:=⟨Nat.zero_le _,h.2.1,fun k v hk=>by
  obtain ⟨_,j,z,_,h1,h2⟩:=h.2.2.1 k v hk
  exact ⟨j,z,Nat.zero_le _,h1,h2⟩,by rw [h.2.2.2];have:=h.1;omega⟩
theorem SO2.step {K:MK} (I:IntK K) {ls:List Int} {i:Nat} {m:KV} {n n' :Nat} (h:SO2 K ls i m n) {z:Int} (hz:ls[i]? =some z) (hn:n' <=n+2):SO2 K ls (i+1) (mdel (mset m (iv z) (iv 2)) (iv z)) n' :=by
  have hlt:=(List.getElem?_eq_some_iff.1 hz).1
  have hs:=h.2.1.set (I.k z) (I.v 2 rfl)
  refine ⟨hlt,hs.del _,fun k v hk=> ?_,by have:=h.2.2.2;omega⟩
  rw [mget_del hs.once] at hk
  by_cases e:k=iv z
  · rw [if_pos e] at hk;cases hk
  · rw [if_neg e,mget_set,if_neg e] at hk
    obtain ⟨j,y,hj,h2,h3⟩:=h.2.2.1 k v hk
    refine ⟨j,y,?_,h2,h3⟩
    rcases Nat.lt_or_ge i j with q | q
    · exact q
    · have:j=i:=by omega
      subst this
      rw [hz] at h2
      injection h2 with h2
      exact absurd (by rw [h3,h2]) e
theorem SO2.done {K:MK} {ls:List Int} {m:KV} {n:Nat} (h:SO2 K ls ls.length m n):m.length=0:=by
  have:=keys_le h.2.1.once (l:= []) (fun k v hk=>by
    obtain ⟨j,z,h1,h2,_⟩:=h.2.2.1 k v hk
    rw [List.getElem?_eq_none h1] at h2;cases h2)
  exact Nat.le_antisymm this (Nat.zero_le _)
def SO3 (K:MK) (y:Row) (g:RK 2):Prop:= ∃m,KOK K m/\KeysOf .i64 m (vals y)/\vals g.1=pairsOf (iv 0) m (vals y)/\ ∀k v,mget m k=some v->v=iv 1
theorem SO3.of {K:MK} {ls:List Int} {i n:Nat} {m:KV} (h:SO1 K ls i m n) {x y:Row} (hx:KeysOf .i64 m (vals x)) (hy:KeysOf .i64 m (vals y)) {g:RK 2} (hg:vals g.1=pairsOf (iv 0) m (vals x)):SO3 K y g:=
  ⟨m,h.2.1,hy,by rw [hg,keys_eq h.2.1.once h.2.1.once (EqM.refl _) hx hy],fun k v hk=>(h.2.2.1 k v hk).1⟩
theorem SO3.len {K:MK} {y:Row} {g:RK 2} (h:SO3 K y g):(vals g.1).length=(vals y).length:=by
  obtain ⟨m,_,_,h3,_⟩:=h
  rw [h3,pairs_len]
theorem SO3.shape {K:MK} (I:IntK K) {y:Row} {g:RK 2} (h:SO3 K y g) {i:Nat} (hi:i<(vals g.1).length): ∃x0,(vals g.1)[i]? =some (p2V x0):=by
  have hl:=h.len
  obtain ⟨m,h1,h2,h3,_⟩:=h
  obtain ⟨z,hz⟩:=int_at h2.2.2 (n:=i) (by omega)
  obtain ⟨w,_,hw⟩:=I.v' _ (kok_val h1 (z:=iv 0) (I.v 0 rfl) (iv z))
  refine ⟨(z,w),?_⟩
  rw [h3]
  unfold pairsOf
  rw [List.getElem?_map,hz,Option.map_some]
  show some (Value.agg #[iv z,(mget m (iv z)).getD (iv 0)])=_
  rw [hw]
theorem SO3.at {K:MK} {y:Row} {g:RK 2} (h:SO3 K y g) {i:Nat} {x:Int×Int} (hx:(vals g.1)[i]? =some (p2V x)) {z:Int} (hz:(vals y)[i]? =some (iv z)):x.1=z/\x.2=1:=by
  obtain ⟨m,h1,h2,h3,h4⟩:=h
  rw [h3] at hx
  obtain ⟨a,b⟩:=pairs_at hx
  rw [hz] at a
  injection a with a
  injection a with _ a
  refine ⟨a.symm,?_⟩
  obtain ⟨v,hv⟩:=h2.mem h1.once hz
  rw [←a,hv] at b
  have:=h4 _ _ hv
  simp only [Option.getD_some] at b
  rw [b] at this
  injection this
end Go.Sx
set_option linter.unusedVariables false
set_option linter.unusedSimpArgs false
namespace Go.Sx
open Go.RowKit
abbrev u32v (n:Int):Value:= .int .u32 n
abbrev u64v (n:Int):Value:= .int .u64 n
structure WdK (K:MK):Prop where
  k: ∀n,K.OkK (u32v n)
  k' : ∀v,K.OkK v-> ∃n,v=u32v n
  v: ∀n:Int,W n->K.OkV (u64v n)
  v' : ∀x,K.OkV x-> ∃n:Int,W n/\x=u64v n
noncomputable def wd (m:KV) (w:Int):Int:=ci ((mget m (u32v w)).getD (u64v 0))
theorem wd_W {K:MK} (I:WdK K) {m:KV} (h:KOK K m) (w:Int):W (wd m w):=by
  unfold wd
  cases hg:mget m (u32v w) with
  | none=>exact ⟨by decide,by decide⟩
  | some v=>obtain ⟨n,hn,rfl⟩:=I.v' v (h.val hg);exact hn
noncomputable def hasI (m:KV) (i:Int):Bool:=(wd m (i/64)).toNat.testBit (i%64).toNat
def setW (x:Int) (b:Nat):Int:=((x.toNat ||| 2^b:Nat):Int)
theorem setW_W {x:Int} {b:Nat} (h:W x) (hb:b<64):W (setW x b):=by
  unfold W at h
  have:=Nat.or_lt_two_pow (x:=x.toNat) (y:=2^b) (n:=64) (by omega) (Nat.pow_lt_pow_right (by decide) hb)
  unfold setW W;omega
theorem setW_bit (x:Int) (b c:Nat):(setW x b).toNat.testBit c=(x.toNat.testBit c || decide (b=c)):=by
  unfold setW
  rw [Int.toNat_natCast,Nat.testBit_or,Nat.testBit_two_pow]
noncomputable def putM (m:KV) (i:Int):KV:=mset m (u32v (i/64)) (u64v (setW (wd m (i/64)) (i%64).toNat))
theorem wd_put (m:KV) (i w:Int):wd (putM m i) w=if w=i/64 then setW (wd m w) (i%64).toNat else wd m w:=by
  show ci ((mget (mset m _ _) (u32v w)).getD (u64v 0))=_
  rw [mget_set]
  by_cases h:w=i/64
  · subst h;rw [if_pos rfl,if_pos rfl];rfl
  · rw [if_neg (fun e=>h (by injection e)),if_neg h];rfl
theorem put_ok {K:MK} (I:WdK K) {m:KV} (h:KOK K m) (i:Int):KOK K (putM m i):=h.set (I.k _) (I.v _ (setW_W (wd_W I h _) (by omega)))
noncomputable def sumV (g:Value->Nat) (m:KV):Nat:=(m.map fun e=>g e.2).sum
theorem sumV_map {g : Value -> Nat} {k v : Value} : ∀ {m : KV}, MOK m -> ∀ {x : Value}, mget m k = some x -> sumV g (m.map fun e => if e.1 = k then (k, v) else e) + g x = sumV g m + g v
  | [],_,x,h=>by rw [mget_nil] at h;cases h
  | e :: m, hm, x, h => by
    unfold MOK at hm
    rw [List.map_cons,List.nodup_cons] at hm
    rw [mget_cons] at h
    unfold sumV
    simp only [List.map_cons,List.sum_cons]
    by_cases he:e.1=k
    · rw [if_pos he] at h
      injection h with h
      rw [if_pos he]
      have hs:(m.map fun e=>if e.1=k then (k,v) else e)=m:=by
        conv=>rhs;rw [←List.map_id m]
        apply List.map_congr_left
        intro y hy
        rw [if_neg];rfl
        intro q;exact hm.1 (by rw [he,←q];exact List.mem_map_of_mem (f:=(·.1)) hy)
      rw [hs,h];show g v+_+_=_;omega
    · rw [if_neg he] at h
      have:=sumV_map (g:=g) (v:=v) (m:=m) hm.2 h
      rw [if_neg he]
      unfold sumV at this
      omega
theorem sumV_set {g:Value->Nat} {z:Value} (hz:g z=0) {m:KV} (hm:MOK m) (k v:Value):sumV g (mset m k v)+g ((mget m k).getD z)=sumV g m+g v:=by
  unfold mset
  cases hg:mget m k with
  | none =>
    rw [if_neg (by simp),show (none:Option Value).getD z=z from rfl,hz]
    unfold sumV
    rw [List.map_append,List.sum_append]
    rfl
  | some x =>
    rw [if_pos (by simp)]
    exact sumV_map hm hg
theorem perm_sum {l l' :List Nat} (h:l.Perm l'):l.sum=l'.sum:=by
  induction h with
  | nil=>rfl
  | cons _ _ ih=>simp only [List.sum_cons];rw [ih]
  | swap a b l=>simp only [List.sum_cons];omega
  | trans _ _ h1 h2=>rw [h1,h2]
noncomputable def c64 (v:Value):Nat:=pcn 64 (ci v).toNat
noncomputable def totW (m:KV):Nat:=sumV c64 m
theorem c64_zero:c64 (u64v 0)=0:=by unfold c64;decide
theorem c64_nat (n:Nat):c64 (u64v ((n:Nat):Int))=pcn 64 n:=by
  unfold c64
  rw [show (ci (u64v ((n:Nat):Int))).toNat=n from Int.toNat_natCast n]
theorem c64_wd (m:KV) (w:Int):c64 ((mget m (u32v w)).getD (u64v 0))=pcn 64 (wd m w).toNat:=rfl
theorem totW_put {K:MK} (I:WdK K) {m:KV} (h:KOK K m) {i:Int} (hi:hasI m i=false):totW (putM m i)=totW m+1:=by
  have h1:=sumV_set c64_zero h.once (u32v (i/64)) (u64v (setW (wd m (i/64)) (i%64).toNat))
  have hb:(i%64).toNat<64:=by omega
  have hp:=pcn_set 64 (wd m (i/64)).toNat (i%64).toNat hb hi
  rw [c64_wd] at h1
  unfold setW at h1
  rw [c64_nat,hp] at h1
  unfold totW putM setW
  generalize pcn 64 (wd m (i/64)).toNat=q at *
  omega
structure SpS (K:MK) (P:List Int) (m:KV) (c:Nat):Prop where
  ok:KOK K m
  bit: ∀w:Int,∀b,b<64->((wd m w).toNat.testBit b=true↔ ∃x∈P,x/64=w/\(x%64).toNat=b)
  key: ∀w:Int,(mget m (u32v w)).isSome=true↔ ∃x∈P,x/64=w
  cnt:totW m=c
theorem SpS.nil {K:MK}:SpS K [] [] 0:=⟨KOK.nil,fun w b _=>by
  rw [show wd [] w=0 from rfl];simp,fun w=>by rw [mget_nil];simp,rfl⟩
theorem SpS.has {K:MK} {P:List Int} {m:KV} {c:Nat} (h:SpS K P m c) (i:Int):hasI m i=true↔i∈P:=by
  unfold hasI
  rw [h.bit _ _ (by omega)]
  constructor
  · rintro ⟨x,hx,h1,h2⟩
    have:x=i:=by omega
    rw [←this];exact hx
  · intro hi;exact ⟨i,hi,rfl,rfl⟩
theorem SpS.old {K:MK} {P:List Int} {m:KV} {c:Nat} (h:SpS K P m c) {i:Int} (hi:hasI m i=true):SpS K (P++ [i]) m c:=by
  have hm:=(h.has i).1 hi
  have e: ∀x,x∈P++ [i]↔x∈P:=fun x=>by simp only [List.mem_append,List.mem_singleton];exact ⟨fun q=>q.elim id (fun q=>q▸hm), .inl⟩
  exact ⟨h.ok,fun w b hb=>by rw [h.bit w b hb];simp only [e],fun w=>by rw [h.key w];simp only [e],h.cnt⟩
theorem SpS.new {K : MK} (I : WdK K) {P : List Int} {m : KV} {c : Nat} (h : SpS K P m c) {i : Int} (hi : hasI m i = false) : SpS K (P ++ [i]) (putM m i) (c + 1) := by
  refine ⟨put_ok I h.ok i,fun w b hb=> ?_,fun w=> ?_,by rw [totW_put I h.ok hi,h.cnt]⟩
  · rw [wd_put]
    by_cases hw:w=i/64
    · subst hw
      rw [if_pos rfl,setW_bit,Bool.or_eq_true,h.bit _ _ hb,decide_eq_true_eq]
      constructor
      · rintro (⟨x,hx,q⟩ | q)
        · exact ⟨x,List.mem_append_left _ hx,q⟩
        · exact ⟨i,by simp,rfl,q⟩
      · rintro ⟨x,hx,q⟩
        rcases List.mem_append.1 hx with hx | hx
        · exact .inl ⟨x,hx,q⟩
        · simp at hx;subst hx;exact .inr q.2
    · rw [if_neg hw,h.bit _ _ hb]
      constructor
      · rintro ⟨x,hx,q⟩;exact ⟨x,List.mem_append_left _ hx,q⟩
      · rintro ⟨x,hx,q⟩
        rcases List.mem_append.1 hx with hx | hx
        · exact ⟨x,hx,q⟩
        · simp at hx;subst hx;exact absurd q.1.symm hw
  · unfold putM
    rw [mget_set]
    by_cases hw:w=i/64
    · subst hw;rw [if_pos rfl];simp
    · rw [if_neg (fun e=>hw (by injection e)),h.key w]
      constructor
      · rintro ⟨x,hx,q⟩;exact ⟨x,List.mem_append_left _ hx,q⟩
      · rintro ⟨x,hx,q⟩
        rcases List.mem_append.1 hx with hx | hx
        · exact ⟨x,hx,q⟩
        · simp at hx;subst hx;exact absurd q.symm hw
noncomputable def putO (m:KV) (i:Int):KV:=if hasI m i then m else putM m i
theorem SpS.put {K:MK} (I:WdK K) {P:List Int} {m:KV} {c:Nat} (h:SpS K P m c) (i:Int):SpS K (P++ [i]) (putO m i) (c+if hasI m i then 0 else 1):=by
  unfold putO
  cases hi:hasI m i with
  | true=>exact h.old hi
  | false=>exact h.new I hi
theorem SpS.eqm {K : MK} (I : WdK K) {P Q : List Int} {m n : KV} {c d : Nat} (h : SpS K P m c) (g : SpS K Q n d) (e : ∀ x, x ∈ P ↔ x ∈ Q) : EqM m n := by
  have hw: ∀w,wd m w=wd n w:=fun w=>by
    have a:=wd_W I h.ok w
    have b:=wd_W I g.ok w
    unfold W at a b
    have:(wd m w).toNat=(wd n w).toNat:=by
      apply Nat.eq_of_testBit_eq;intro j
      by_cases hj:j<64
      · rw [Bool.eq_iff_iff,h.bit w j hj,g.bit w j hj];simp only [e]
      · rw [Nat.testBit_lt_two_pow,Nat.testBit_lt_two_pow]
        · exact Nat.lt_of_lt_of_le (show _<2^64 by omega) (Nat.pow_le_pow_right (by decide) (by omega))
        · exact Nat.lt_of_lt_of_le (show _<2^64 by omega) (Nat.pow_le_pow_right (by decide) (by omega))
    omega
  have key: ∀ {P Q:List Int} {m n:KV} {c d:Nat},SpS K P m c->SpS K Q n d->(∀x,x∈P↔x∈Q)->(∀w,wd m w=wd n w)-> ∀k v,mget m k=some v->mget n k=some v:=by
    intro P Q m n c d h g e hw k v hk
    obtain ⟨w,rfl⟩:=I.k' k (h.ok.ok _ (mget_mem hk)).1
    obtain ⟨x,_,rfl⟩:=I.v' v (h.ok.val hk)
    have h1:(mget n (u32v w)).isSome=true:=by
      rw [g.key w];simp only [←e];exact (h.key w).1 (by rw [hk];rfl)
    obtain ⟨v',hv'⟩:=Option.isSome_iff_exists.1 h1
    obtain ⟨y,_,rfl⟩:=I.v' v' (g.ok.val hv')
    have q:=hw w
    unfold wd at q
    rw [hk,hv'] at q
    have:x=y:=q
    rw [hv',this]
  intro k
  cases hm:mget m k with
  | some v=>exact (key h g e hw k v hm).symm
  | none =>
    cases hn:mget n k with
    | none=>rfl
    | some v=>have:=key g h (fun x=>(e x).symm) (fun w=>(hw w).symm) k v hn;rw [hm] at this;cases this
theorem SpS.int {K:MK} (I:WdK K) {m:KV} (h:KOK K m):IntKeys .u32 m:=⟨fun v hv=>by
  obtain ⟨e,he,rfl⟩:=List.mem_map.1 hv
  exact I.k' _ (h.ok e he).1,h.once⟩
theorem SpS.len {K:MK} (I:WdK K) {P:List Int} {m:KV} {c:Nat} (h:SpS K P m c):m.length<=P.length:=by
  have:=keys_le h.ok.once (l:=P.map fun x=>u32v (x/64)) (fun k v hk=>by
    obtain ⟨w,rfl⟩:=I.k' k (h.ok.ok _ (mget_mem hk)).1
    obtain ⟨x,hx,rfl⟩:=(h.key w).1 (by rw [hk];rfl)
    exact List.mem_map_of_mem (f:=fun x=>u32v (x/64)) hx)
  simpa using this
noncomputable def sumK (m:KV) (l:List Value):Nat:=(l.map fun k=>c64 ((mget m k).getD (u64v 0))).sum
theorem sumK_totW {m:KV} (hm:MOK m) {kk:IntKind} {l:List Value} (h:KeysOf kk m l):sumK m l=totW m:=by
  unfold sumK totW sumV
  rw [perm_sum (h.1.map _),List.map_map]
  refine congrArg List.sum (List.map_congr_left fun e he=> ?_)
  show c64 ((mget m e.1).getD (u64v 0))=c64 e.2
  exact congrArg c64 (by rw [mget_of_mem hm he];rfl)
end Go.Sx
set_option linter.unusedVariables false
set_option linter.unusedSimpArgs false
namespace Go.Sx
open Go.RowKit
def strOf (l:List Value):ByteArray:=(l.map ci).foldl (fun r n=>r.push (UInt8.ofNat n.toNat)) ByteArray.empty
def F_str:List Value->List Slot->Ctr:=fun vs hs=>⟨Unit,fun _=> .string (strOf (rvals (varg vs 0) (sarg hs 0))),fun _=>hs,fun _=>True⟩
theorem xstr {P:Program} {src dst e:TypeId} (hs:P.underlying src=some (.slice e)) (he:P.underlying e=some (.int .u8)) (hd:P.underlying dst=some .string) (r:Row) (te:TypeId) (hb:BOK r):
    OpT P (do pure (.value (←convert src dst (sv r)))) [ss te r] Unit (fun _=> .string (strOf (rvals (sv r) (ss te r)))) (fun _=> [ss te r]) (fun _=>True):=by
  intro R w ho
  refine ⟨(),w,trivial, .inl ?_,ho,Ext.refl w⟩
  rw [rvals_eq]
  cases r with
  | nil =>
    simp only [sv]
    simp only [Sem.run_bind,run_convert_bytes_string w src dst e none 0 0 hs he hd]
    rfl
  | mk b vs ex =>
    have hb' :=ho.block (i:=0) rfl
    have hr:=run_loadCells_list (P:=P) w ⟨b,0,none⟩ vs (by
      intro j c hj
      have ea:(⟨b,0,none⟩:Addr).add j=⟨b,j,none⟩:=by rw [Addr.add_lit,Nat.zero_add]
      rw [ea,cell_of_block hb' rfl]
      have hlt:=(List.getElem?_eq_some_iff.1 hj).1
      simp [List.getElem?_append_left hlt,hj])
    have hv:vs=(vs.map ci).map (Value.int .u8):=hb.eq
    simp only [sv]
    simp only [Sem.run_bind,run_convert_bytes_string w src dst e (some ⟨b,0,none⟩) vs.length _ hs he hd]
    rw [run_bytesToString w ⟨b,0,none⟩ vs.length _ (vs.map ci) (by rw [←hv];exact hr)]
    rfl
theorem streq {a b:ByteArray} (h:a=b):(a.toList==b.toList)=true:=by rw [h];exact beq_self_eq_true _
def nb8 (x:Int):List Int:= [IntKind.u8.wrap (Int.fdiv x (2^56)),IntKind.u8.wrap (Int.fdiv x (2^48)),IntKind.u8.wrap (Int.fdiv x (2^40)),IntKind.u8.wrap (Int.fdiv x (2^32)),IntKind.u8.wrap (Int.fdiv x (2^24)),IntKind.u8.wrap (Int.fdiv x (2^16)),IntKind.u8.wrap (Int.fdiv x (2^8)),IntKind.u8.wrap (Int.fdiv x (2^0))]
noncomputable def wordB (m:KV) (k:Value):List Int:=nb4 (IntKind.u64.wrap (ci k))++nb8 (ci ((mget m k).getD (u64v 0)))
noncomputable def wordsB (m:KV) (l:List Value):List Int:=l.flatMap (wordB m)
theorem wordsB_eq {m n:KV} (h:EqM m n) (l:List Value):wordsB m l=wordsB n l:=by
  unfold wordsB wordB
  congr 1
  funext k
  rw [h k]
end Go.Sx
set_option linter.unusedVariables false
set_option linter.unusedSimpArgs false
namespace Go.Sx
open Go.RowKit
theorem wf32n {n:Int} (h:(Lit.int .u32 n).wf=true):0<=n/\n<=4294967295:=by
  simp only [Lit.wf,Bool.and_eq_true,decide_eq_true_eq] at h
  exact h
theorem put_again {m:KV} {i:Int} (h:hasI m i=true):putO m i=m:=by unfold putO;rw [if_pos h]
structure SpO (K:MK) (ls:List Int) (o:Int) (i:Nat) (m1:KV) (L1:List Ent) (m2:KV) (L2:List Ent) (c:Nat) (inb:Bool):Prop where
  le:i<=ls.length
  a:SpS K (ls.take i) m1 c
  b: ∃d,SpS K (ls.reverse.take i) m2 d
  inn:inb=decide (o∈ls.take i)
  l1:L1.length<=i
  l2:L2.length<=i
theorem SpO.start {K:MK} {ls:List Int} {o:Int}:SpO K ls o 0 [] [] [] [] 0 false:=⟨Nat.zero_le _,SpS.nil,⟨0,SpS.nil⟩,by simp,Nat.le_refl _,Nat.le_refl _⟩
theorem bif_len {b:Bool} {L:List Ent} {e:Ent}:(bif b then L else L++ [e]).length<=L.length+1:=by cases b<;>simp
theorem SpO.step {K:MK} (I:WdK K) {ls:List Int} {o:Int} {i:Nat} {m1:KV} {L1:List Ent} {m2:KV} {L2:List Ent} {c:Nat} {inb:Bool} (h:SpO K ls o i m1 L1 m2 L2 c inb) {x y:Int} (hx:ls[i]? =some x) (hy:ls[ls.length - 1 - i]? =some y)
    {e1 e2:Ent} {m1' :KV} {L1' :List Ent} {m2' :KV} {L2' :List Ent} {c' :Nat} {inb' :Bool} (p1:m1' =putO m1 x/\L1' =bif hasI m1 x then L1 else L1++ [e1]) (p2:m2' =putO m2 y/\L2' =bif hasI m2 y then L2 else L2++ [e2]) (hc:c' =c+if hasI m1 x then 0 else 1) (hi:inb' =(inb || x==o)):
    SpO K ls o (i+1) m1' L1' m2' L2' c' inb' :=by
  have hlt:=(List.getElem?_eq_some_iff.1 hx).1
  have t1:ls.take (i+1)=ls.take i++ [x]:=by
    rw [List.take_succ_eq_append_getElem hlt]
    rw [List.getElem?_eq_getElem hlt] at hx;injection hx with hx;rw [hx]
  have hr:ls.reverse[i]? =some y:=by rw [List.getElem?_reverse hlt];exact hy
  have hlr:i<ls.reverse.length:=by rw [List.length_reverse];exact hlt
  have t2:ls.reverse.take (i+1)=ls.reverse.take i++ [y]:=by
    rw [List.take_succ_eq_append_getElem hlr]
    rw [List.getElem?_eq_getElem hlr] at hr;injection hr with hr;rw [hr]
  obtain ⟨d,hb⟩:=h.b
  refine ⟨hlt,?_,⟨d+if hasI m2 y then 0 else 1,?_⟩,?_,?_,?_⟩
  · rw [t1,p1.1,hc];exact h.a.put I x
  · rw [t2,p2.1];exact hb.put I y
  · rw [hi,h.inn,t1]
    rw [Bool.eq_iff_iff]
    simp only [Bool.or_eq_true,decide_eq_true_eq,beq_iff_eq,List.mem_append,List.mem_singleton]
    exact ⟨fun q=>q.elim .inl (fun e=> .inr e.symm),fun q=>q.elim .inl (fun e=> .inr e.symm)⟩
  · rw [p1.2];exact Nat.le_trans bif_len (Nat.succ_le_succ h.l1)
  · rw [p2.2];exact Nat.le_trans bif_len (Nat.succ_le_succ h.l2)
theorem SpO.last {K:MK} {ls:List Int} {o:Int} {i:Nat} {m1:KV} {L1:List Ent} {m2:KV} {L2:List Ent} {c:Nat} {inb:Bool} (h:SpO K ls o i m1 L1 m2 L2 c inb):hasI m1 o=inb:=by
  rw [h.inn,Bool.eq_iff_iff,h.a.has,decide_eq_true_eq]
theorem SpO.bytes {K:MK} (I:WdK K) {ls:List Int} {o:Int} {i:Nat} {m1:KV} {L1:List Ent} {m2:KV} {L2:List Ent} {c:Nat} {inb:Bool} (h:SpO K ls o i m1 L1 m2 L2 c inb) (hi:i=ls.length) {r q:Row} (h1:BOK r/\ ∃l,KeysOf .u32 m1 l/\dg r=wordsB m1 l) (h2:BOK q/\ ∃l,KeysOf .u32 m2 l/\dg q=wordsB m2 l):dg r=dg q:=by
  obtain ⟨d,hb⟩:=h.b
  have e:=h.a.eqm I hb (fun x=>by subst hi;rw [List.take_length,List.take_of_length_le (by simp)];exact List.mem_reverse.symm)
  obtain ⟨_,l,k1,e1⟩:=h1
  obtain ⟨_,l',k2,e2⟩:=h2
  rw [e1,e2,keys_eq h.a.ok.once hb.ok.once e k1 k2,wordsB_eq e]
theorem SpO.m1 {K:MK} (I:WdK K) {ls:List Int} {o:Int} {i:Nat} {m1:KV} {L1:List Ent} {m2:KV} {L2:List Ent} {c:Nat} {inb:Bool} (h:SpO K ls o i m1 L1 m2 L2 c inb):m1.length<=ls.length:=by
  have:=h.a.len I;rw [List.length_take] at this;omega
end Go.Sx
set_option linter.unusedVariables false
namespace Go.Sx
open Go.RowKit
end Go.Sx
namespace Go.Sx
open Go.RowKit
noncomputable def eB (k v:Value):List Int:=nb1 (IntKind.u64.wrap (ci (cell k 0)))++(nb1 (IntKind.u64.wrap (ci (cell k 1)))++l32 (ib4 (lim (num v) 0) (lim (num v) 1) (lim (num v) 2) (lim (num v) 3)))
noncomputable def bkB (m:KV) (l:List Value):List Int:=l.flatMap fun k=>eB k ((mget m k).getD (vI 0))
theorem eB_len (k v:Value):(eB k v).length=34:=rfl
theorem bkB_len (m:KV): ∀l:List Value,(bkB m l).length=34*l.length
  | []=>rfl
  | k :: l => by
    have:=bkB_len m l
    unfold bkB at *
    rw [List.flatMap_cons,List.length_append,eB_len,this,List.length_cons];omega
theorem bkB_take {m:KV} {l:List Value} {i:Nat} (h:i<l.length):bkB m (l.take (i+1))=bkB m (l.take i)++eB (l.getD i undef) ((mget m (l.getD i undef)).getD (vI 0)):=by
  unfold bkB
  rw [List.take_succ_eq_append_getElem h,List.flatMap_append,List.getD_eq_getElem?_getD,List.getElem?_eq_getElem h]
  simp
theorem KeysOf2.len {m:KV} {l:List Value} (h:KeysOf2 m l):l.length=m.length:=by have:=h.1.length_eq;simpa using this
theorem wit_bkB {m:KV} (hi:Pairs2 (m.map (·.1))) (hm:MOK m): ∃x:Row,(fun x=>BOK x/\ ∃l,KeysOf2 m l/\dg x=bkB m l) x:=by
  obtain ⟨y,hp,hs⟩:=sort2_wit hi
  exact ⟨.mk 0 (bv (bkB m y)) [],bok_lit _ _ _,y,keysOf2_of hm hi hp hs,by show ((bv (bkB m y)).map ci)=_;rw [bv_ci]⟩
def InR (m:KV):Prop:= ∀e∈m,∃t p v:Int,e=(kk t p,vI v)/\0<=t/\t<4/\0<=p/\p<18/\R4 v/\v≠0
theorem InR.nil:InR []:=fun e h=>by cases h
theorem mem_del {m:KV} {k:Value} {e:Value×Value} (h:e∈mdel m k):e∈m:=List.mem_of_mem_eraseP h
theorem InR.put {m:KV} (h:InR m) {t p n:Int} (hn:R4 n) (t0:0<=t) (t4:t<4) (p0:0<=p) (p18:p<18):InR (mput m (kk t p) n):=by
  unfold mput
  split
  · exact fun e he=>h e (mem_del he)
  · rename_i hz
    intro e he
    rcases mem_set he with rfl | he
    · exact ⟨t,p,n,rfl,t0,t4,p0,p18,hn,hz⟩
    · exact h e he
theorem mset_len (m:KV) (k v:Value):(mset m k v).length<=m.length+1:=by unfold mset;split<;>simp
theorem mput_len (m:KV) (k:Value) (n:Int):(mput m k n).length<=m.length+1:=by
  unfold mput;split
  · have:(mdel m k).length<=m.length:=List.length_eraseP_le
    omega
  · exact mset_len _ _ _
theorem wf8_of {n:Int} (h0:0<=n) (h1:n<=255):(Lit.int .u8 n).wf=true:=by
  simp [Lit.wf,IntKind.min,IntKind.max,IntKind.signed,IntKind.bits];omega
theorem rem8 {n k:Int} (h:(Lit.int .u8 n).wf=true) (hk:0<k):Int.tmod n k=n%k:=Int.tmod_eq_emod_of_nonneg (wf8 h).1
section
variable {Kb Ks:MK} (nb:NumK Kb) (ns:NumK Ks) (ob: ∀t p,Kb.OkK (kk t p)) (os: ∀t:Int,Ks.OkK (.int .u8 t))
structure BTI (Kb Ks:MK) (s:BS) (i:Nat):Prop where
  kb:KOK Kb s.1
  ks:KOK Ks s.2.1
  inr:InR s.1
  ml:s.1.length<=3*i
  ll:s.2.2.length<=4*i
theorem BTI.nil:BTI Kb Ks ([],[],[]) 0:=⟨KOK.nil,KOK.nil,InR.nil,Nat.zero_le _,Nat.zero_le _⟩
theorem bMint_in {s : BS} (hb : KOK Kb s.1) (hs : KOK Ks s.2.1) (hi : InR s.1) (nb : NumK Kb) (ns : NumK Ks) (ob : ∀ t p, Kb.OkK (kk t p)) (os : ∀ t : Int, Ks.OkK (.int .u8 t)) {eb es : KV -> Value -> Ent} {t p n : Int} (hn : R4 n) (t0 : 0 <= t) (p0 : 0 <= p) {x : Int × BS} (hx : x = bMint eb es s t p n) :
    KOK Kb x.2.1/\KOK Ks x.2.2.1/\InR x.2.1/\x.2.1.length<=s.1.length+1/\x.2.2.2.length<=s.2.2.length+2:=by
  subst hx
  unfold bMint
  split
  · exact ⟨hb,hs,hi,by simp only;omega,by simp only;omega⟩
  · rename_i hw
    split
    · exact ⟨hb,hs,hi,by simp only;omega,by simp only;omega⟩
    · rename_i hov
      have hw' :t<4/\p<18:=by
        unfold bw1 at hw
        split at hw
        · exact absurd (by decide:(1:Int)≠0) hw
        · omega
      have rB:R4 (hAdd (bal s.1 t p) n).1:=hAdd_R (KOK.R4v nb hb _) hn
      have rS:R4 (sup s.2.1 t+n):=⟨by have:=(KOK.R4v ns hs (.int .u8 t)).1;have:=hn.1;unfold sup;omega,Int.not_le.1 hov⟩
      refine ⟨hb.put nb (ob t p) rB,hs.set (os t) ((ns _).2 ⟨_,rS,rfl⟩),hi.put rB t0 hw'.1 p0 hw'.2,mput_len _ _ _,?_⟩
      have h1:=(bPut_len eb (bSup es s t (sup s.2.1 t+n)) (kk t p) (hAdd (bal s.1 t p) n).1).2
      have h2:=bSup_len es s t (sup s.2.1 t+n)
      show (bPut eb (bSup es s t (sup s.2.1 t+n)) (kk t p) (hAdd (bal s.1 t p) n).1).2.2.length<=_
      omega
theorem bMove_in {s : BS} (hb : KOK Kb s.1) (hs : KOK Ks s.2.1) (hi : InR s.1) (nb : NumK Kb) (ob : ∀ t p, Kb.OkK (kk t p)) {eb : KV -> Value -> Ent} {t p q n : Int} (hn : R4 n) (t0 : 0 <= t) (p0 : 0 <= p) (q0 : 0 <= q) {x : Int × BS} (hx : x = bMove eb s t p q n) :
    KOK Kb x.2.1/\KOK Ks x.2.2.1/\InR x.2.1/\x.2.1.length<=s.1.length+2/\x.2.2.2.length<=s.2.2.length+2:=by
  subst hx
  unfold bMove
  split
  · exact ⟨hb,hs,hi,by simp only;omega,by simp only;omega⟩
  · rename_i hw
    split
    · exact ⟨hb,hs,hi,by simp only;omega,by simp only;omega⟩
    · rename_i hov
      have hw' :t<4/\p<18/\q<18:=by
        unfold bw2 at hw
        split at hw
        · exact absurd (by decide:(1:Int)≠0) hw
        · omega
      have hB:=KOK.R4v nb hb (kk t p)
      have r1:R4 (bal s.1 t p - n):=⟨by have: ¬bal s.1 t p<n:=hov;omega,by have:=hB.2;have:=hn.1;show bal s.1 t p - n<_;unfold bal;omega⟩
      have k1:KOK Kb (bPut eb s (kk t p) (bal s.1 t p - n)).1:=hb.put nb (ob t p) r1
      have i1:InR (bPut eb s (kk t p) (bal s.1 t p - n)).1:=hi.put r1 t0 hw'.1 p0 hw'.2.1
      have r2:R4 (hAdd (bal (bPut eb s (kk t p) (bal s.1 t p - n)).1 t q) n).1:=hAdd_R (KOK.R4v nb k1 _) hn
      refine ⟨k1.put nb (ob t q) r2,hs,i1.put r2 t0 hw'.1 q0 hw'.2.2,?_,?_⟩
      · have h1:=mput_len (bPut eb s (kk t p) (bal s.1 t p - n)).1 (kk t q) (hAdd (bal (bPut eb s (kk t p) (bal s.1 t p - n)).1 t q) n).1
        have h2:(bPut eb s (kk t p) (bal s.1 t p - n)).1.length<=s.1.length+1:=mput_len _ _ _
        show (mput _ _ _).length<=_
        omega
      · have h1:=(bPut_len eb (bPut eb s (kk t p) (bal s.1 t p - n)) (kk t q) (hAdd (bal (bPut eb s (kk t p) (bal s.1 t p - n)).1 t q) n).1).2
        have h2:=(bPut_len eb s (kk t p) (bal s.1 t p - n)).2
        show (bPut eb (bPut eb s (kk t p) (bal s.1 t p - n)) (kk t q) _).2.2.length<=_
        omega
theorem BTI.step {s:BS} {i:Nat} (h:BTI Kb Ks s i) (nb:NumK Kb) (ns:NumK Ks) (ob: ∀t p,Kb.OkK (kk t p)) (os: ∀t:Int,Ks.OkK (.int .u8 t)) {eb es eb' :KV->Value->Ent} {t p q n:Int} (hn:R4 n) (t0:0<=t) (p0:0<=p) (q0:0<=q) {x y:Int×BS} (hx:x=bMint eb es s t p n) (hy:y=bMove eb' x.2 t p q n):BTI Kb Ks y.2 (i+1):=by
  obtain ⟨a1,a2,a3,a4,a5⟩:=bMint_in h.kb h.ks h.inr nb ns ob os hn t0 p0 hx
  obtain ⟨b1,b2,b3,b4,b5⟩:=bMove_in a1 a2 a3 nb ob hn t0 p0 q0 hy
  exact ⟨b1,b2,b3,by have:=h.ml;omega,by have:=h.ll;omega⟩
end
structure BTl where
  i:Nat
  s:BS
  b:Nat
  bm:Nat
  bs:Nat
  bj:Nat
  cb:Nat
  cm:Nat
  cr:Nat
noncomputable def kc (k:Value):Int:=18*ci (cell k 0)+ci (cell k 1)
theorem key_in {m:KV} (h:InR m) {k:Value} (hk:k∈m.map (·.1)): ∃t p:Int,k=kk t p/\0<=t/\t<4/\0<=p/\p<18:=by
  obtain ⟨e,he,rfl⟩:=List.mem_map.1 hk
  obtain ⟨t,p,v,rfl,a,b,c,d,_⟩:=h e he
  exact ⟨t,p,rfl,a,b,c,d⟩
theorem rise_kc {m:KV} (h:InR m) {l:List Value} (hk:KeysOf2 m l) {i j:Nat} (hij:i<j) (hj:j<l.length):kc (l.getD i undef)<kc (l.getD j undef):=by
  have hi:i<l.length:=by omega
  rw [List.getD_eq_getElem?_getD,List.getD_eq_getElem?_getD,List.getElem?_eq_getElem hi,List.getElem?_eq_getElem hj]
  have h1:=(List.pairwise_iff_getElem.1 hk.2.1) i j hi hj hij
  obtain ⟨t,p,e1,_,_,_,h4⟩:=key_in h (hk.1.mem_iff.1 (List.getElem_mem hi))
  obtain ⟨t',p',e2,_,_,h5,_⟩:=key_in h (hk.1.mem_iff.1 (List.getElem_mem hj))
  simp only [Option.getD_some]
  rw [e1,e2] at h1 ⊢
  have h2:=(ahd_iff _ _).1 h1
  have h3:t<t' ∨(t=t' /\p<p'):=h2
  show 18*t+p<18*t' +p'
  omega
def TL1 (l:List Value) (i:Nat) (y:Int×Nat):Prop:=y.2=i/\ -1<=y.1/\y.1<72/\ ∀j,i<=j->j<l.length->y.1<kc (l.getD j undef)
theorem TL1.start {m:KV} (h:InR m) {l:List Value} (hk:KeysOf2 m l):TL1 l 0 (-1,0):=by
  refine ⟨rfl,Int.le_refl _,by decide,fun j _ hj=> ?_⟩
  obtain ⟨t,p,e,a,_,b,_⟩:=key_in h (hk.1.mem_iff.1 (getD_mem (d:=undef) hj))
  rw [e];show -1<18*t+p;omega
theorem TL1.next {m:KV} (h:InR m) {l:List Value} (hk:KeysOf2 m l) {i:Nat} (hi:i<l.length) {y:Int×Nat} (hy:TL1 l i y) {t p:Int} (e:l.getD i undef=kk t p):0<=t/\t<4/\0<=p/\p<18/\y.1<18*t+p/\TL1 l (i+1) (18*t+p,y.2+1):=by
  obtain ⟨t',p',e',a,b,c,d⟩:=key_in h (hk.1.mem_iff.1 (getD_mem (d:=undef) hi))
  obtain ⟨rfl,rfl⟩:=kk_inj.1 (e.symm.trans e')
  have hlt:=hy.2.2.2 i (Nat.le_refl _) hi
  rw [e] at hlt
  refine ⟨a,b,c,d,hlt,by rw [hy.1],by show -1<=18*t+p;omega,by show 18*t+p<72;omega,fun j hj hjl=> ?_⟩
  have:=rise_kc h hk (i:=i) (j:=j) (by omega) hjl
  rw [e] at this
  exact this
def TL2 (most:Int) (i:Nat) (y:Bool×Nat):Prop:=y.1=true/\y.2=i/\(0<i->((i:Nat):Int)<most)
def TL2S (most:Int) (n:Nat) (y:Bool×Nat):Prop:=y.1=false/\0<y.2/\y.2<=n/\most<=((y.2:Nat):Int)/\(y.2=1∨((y.2:Nat):Int) - 1<most)
theorem TL2.fin {most:Int} {n:Nat} {y:Bool×Nat} (h:TL2 most n y∨TL2S most n y):((y.2:Nat):Int)=min ((n:Nat):Int) (max most 1):=by
  rcases h with ⟨_,h1,h2⟩ | ⟨_,h1,h2,h3,h4⟩
  · rcases Nat.eq_zero_or_pos n with q | q
    · subst q;rw [h1];omega
    · have:=h2 q;rw [h1];omega
  · omega
end Go.Sx
namespace Go.Sx
theorem TL2.round {most:Int} {n i:Nat} (hi:i<n) {y:Bool×Nat} (hy:TL2 most i y) {z:Bool×Nat} (hz:z.2=y.2+1/\(z.1=true->((y.2:Nat):Int)+1<most)/\(z.1=false->most<=((y.2:Nat):Int)+1)):(z.1=true->TL2 most (i+1) z)/\(z.1=false->TL2S most n z):=by
  obtain ⟨h1,h2,h3⟩:=hy
  obtain ⟨a,b,c⟩:=hz
  refine ⟨fun q=>⟨q,by omega,fun _=>by have:=b q;omega⟩,fun q=>⟨q,by omega,by omega,by have:=c q;omega,?_⟩⟩
  rcases Nat.eq_zero_or_pos i with e | e
  · exact .inl (by omega)
  · have:=h3 e;exact .inr (by omega)
end Go.Sx
namespace Go.Sx
structure DivO (A B:List Int) (n:Nat) (Q L:List Int):Prop where
  le:n<=A.length
  len:Q.length=A.length
  hz:nv (Q.take n)=0
  eq:nv (A.drop n)=nv (Q.drop n)*nv B+nv L
  lt:nv L<nv B
  canon:Canon L
structure DivN (A B:List Int) (i k:Nat) (Q L:List Int):Prop where
  li:i<A.length
  k16:k<=16
  len:Q.length=A.length
  hz:nv (Q.take i)=0
  eq:nv (A.drop (i+1))*2^(16 - k)+dgt A i/2^k=(nv (Q.drop (i+1))*2^(16 - k)+dgt Q i/2^k)*nv B+nv L
  dv:dgt Q i%2^k=0
  lt:nv L<nv B
  canon:Canon L
def lb (A:List Int) (n j:Nat):Int:=nv ((A.drop (max n (4*j))).take (4*j+4 - max n (4*j)))
theorem lb_top (A:List Int) (j:Nat):lb A A.length j=0:=by
  unfold lb
  rw [List.drop_of_length_le (Nat.le_max_left _ _),List.take_nil];rfl
theorem lb_other (A:List Int) {n j:Nat} (h:n/4≠j):lb A (n+1) j=lb A n j:=by
  unfold lb
  rcases Nat.lt_or_ge n (4*j) with h1 | h1
  · rw [Nat.max_eq_right (by omega),Nat.max_eq_right (by omega)]
  · have e1:4*j+4 - max (n+1) (4*j)=0:=by omega
    have e2:4*j+4 - max n (4*j)=0:=by omega
    rw [e1,e2];rfl
theorem lb_same (A:List Int) {n:Nat} (h:n<A.length) {j:Nat} (hj:n/4=j):lb A n j=65536*lb A (n+1) j+dgt A n:=by
  unfold lb
  have m1:max n (4*j)=n:=by omega
  have m2:max (n+1) (4*j)=n+1:=by omega
  rw [m1,m2,show 4*j+4 - n=(4*j+4 - (n+1))+1 from by omega]
  have e:A.drop n=dgt A n::A.drop (n+1):=by
    rw [dgt,List.getD_eq_getElem?_getD,List.getElem?_eq_getElem h];simp
  rw [e,List.take_succ_cons]
  simp only [nv];omega
theorem lb_range {A:List Int} (h:Dig A) (n j:Nat):0<=lb A n j/\lb A n j<P16 (4*j+4 - max n (4*j)):=by
  unfold lb
  exact nv_take_lt (h.drop _) _
theorem lb_W {A:List Int} (h:Dig A) (n j:Nat):W (lb A n j):=by
  obtain ⟨h0,h1⟩:=lb_range h n j
  refine ⟨h0,Int.lt_of_lt_of_le h1 ?_⟩
  exact Int.le_trans (P16_mono (by omega:_<=4)) (by decide)
theorem lb_all {A:List Int} (h:A.length<=16):lb A 0 0+18446744073709551616*(lb A 0 1+18446744073709551616*(lb A 0 2+18446744073709551616*(lb A 0 3+18446744073709551616*0)))=nv A:=by
  unfold lb
  simp only [Nat.zero_max,Nat.mul_zero,Nat.zero_add,Nat.sub_zero,List.drop_zero]
  have e1:=nv_split' A 4
  have e2:=nv_split' (A.drop 4) 4
  have e3:=nv_split' ((A.drop 4).drop 4) 4
  have e4:nv (((A.drop 4).drop 4).drop 4)=nv ((A.drop 12).take 4):=by
    rw [List.drop_drop,List.drop_drop,List.take_of_length_le (by simp;omega)]
  rw [show P16 4=18446744073709551616 from rfl] at e1 e2 e3
  rw [e4] at e3
  simp only [List.drop_drop] at e1 e2 e3
  simp only [show 4*1=4 from rfl,show 4*2=8 from rfl,show 4*3=12 from rfl,show 4+4=8 from rfl,show 8+4=12 from rfl,show 12+4=16 from rfl,show 8 - 4=4 from rfl,show 12 - 8=4 from rfl,show 16 - 12=4 from rfl] at e1 e2 e3 ⊢
  omega
def rInt (n:Int):Int×Bool:=if n<115792089237316195423570985008687907853269984665640564039457584007913129639936 then (n,true) else (0,false)
theorem rInt_R {n:Int} (h:0<=n):R4 (rInt n).1:=by unfold rInt R4;split<;>dsimp only<;>omega
theorem rInt_long {A:List Int} (hA:Dig A) (hc:Canon A) (h:16<A.length):rInt (nv A)=(0,false):=by
  unfold rInt
  rw [if_neg]
  intro hlt
  have:=canon_len hA hc (k:=16) (by rw [show P16 16=115792089237316195423570985008687907853269984665640564039457584007913129639936 from rfl];exact hlt)
  omega
theorem rInt_short {A:List Int} (hA:Dig A) (h:A.length<=16):rInt (nv A)=(nv A,true):=by
  unfold rInt
  rw [if_pos]
  exact Int.lt_of_lt_of_le (nv_lt hA) (Int.le_trans (P16_mono h) (by decide))
end Go.Sx
namespace Go.Sx
theorem quo4_i64 {x:Int} {c:Int} (x0:0<=x) (x1:x<=9223372036854775807) (h:x/4=c):IntKind.i64.wrap (Int.tdiv x 4)=c:=by
  rw [Int.tdiv_eq_ediv_of_nonneg x0,←h];exact wrap_i64 _ (by omega) (by omega)
theorem lb_vI {A:List Int} (h:Dig A) (hl:A.length<=16):Value.agg #[.int .u64 (lb A 0 0), .int .u64 (lb A 0 1), .int .u64 (lb A 0 2), .int .u64 (lb A 0 3)]=vI (nv A):=by
  have e:num (.agg #[.int .u64 (lb A 0 0), .int .u64 (lb A 0 1), .int .u64 (lb A 0 2), .int .u64 (lb A 0 3)])=nv A:=lb_all hl
  rw [←e];exact (vI_num4 (lb_W h 0 0) (lb_W h 0 1) (lb_W h 0 2) (lb_W h 0 3)).symm
theorem lb_step {A:List Int} (h:Dig A) {x:Nat} (hx:0<x) (hl:x<=A.length) {c:Nat} (hc:(x - 1)/4=c):
    lb A (x - 1) c=lb A x c*65536+dgt A (x - 1)/\W (lb A x c*65536)/\W (lb A x c*65536+dgt A (x - 1))/\ ∀j,j≠c->lb A (x - 1) j=lb A x j:=by
  have e:=lb_same A (n:=x - 1) (by omega) hc
  rw [show x - 1+1=x from by omega] at e
  have w:=lb_W h (x - 1) c
  have d:=h.dgt (x - 1)
  have w0:=lb_W h x c
  unfold W at *
  refine ⟨by omega,by omega,by omega,fun j hj=> ?_⟩
  have:=lb_other A (n:=x - 1) (j:=j) (by omega)
  rw [show x - 1+1=x from by omega] at this
  exact this.symm
end Go.Sx
namespace Go.Sx
end Go.Sx
namespace Go.Sx
theorem hCmp_pos {a b:Int}:(0<hCmp a b)=(b<a):=by
  unfold hCmp;apply propext;constructor
  · intro h;split at h
    · omega
    · split at h<;>omega
  · intro h;rw [if_neg (by omega),if_pos h];decide
theorem hCmp_neg {a b:Int}:(hCmp a b<0)=(a<b):=by
  unfold hCmp;apply propext;constructor
  · intro h;split at h
    · assumption
    · split at h<;>omega
  · intro h;rw [if_pos h];decide
theorem hCmp_le0 {a b:Int}:(hCmp a b<=0)=(a<=b):=by
  have h:(hCmp a b<=0)= ¬ (0<hCmp a b):=by apply propext;omega
  rw [h,hCmp_pos];apply propext;omega
theorem hCmp_ge0 {a b:Int}:(0<=hCmp a b)=(b<=a):=by
  have h:(0<=hCmp a b)= ¬ (hCmp a b<0):=by apply propext;omega
  rw [h,hCmp_neg];apply propext;omega
theorem rdx:(∀n,R4 n->num (vI n)=n)/\(∀a b,(0<hCmp a b)=(b<a))/\(∀a b,(hCmp a b<0)=(a<b))/\(∀a b,(hCmp a b<=0)=(a<=b))/\(∀a b,(0<=hCmp a b)=(b<=a))/\
    (∀ (p:Prop) [Decidable p],(decide p=true)=p)/\(∀ (p:Prop) [Decidable p],(decide p=false)= ¬p)/\(∀a b:Int,(a>b)=(b<a))/\(∀a b:Int,(a≥b)=(b<=a))/\(∀a b:Nat,(a>b)=(b<a))/\(∀a b:Nat,(a≥b)=(b<=a))/\
    (∀ {α:Type} [BEq α] [LawfulBEq α] (a b:α),((a==b)=true)=(a=b))/\(∀ {α:Type} [BEq α] [LawfulBEq α] (a b:α),((a==b)=false)= ¬a=b)/\(∀ {α:Type} [BEq α] [LawfulBEq α] (a b:α),((a !=b)=true)= ¬a=b)/\(∀ {α:Type} [BEq α] [LawfulBEq α] (a b:α),((a !=b)=false)=(a=b))/\(∀ {α:Type} (a b:α),(a≠b)= ¬a=b):=by
  refine ⟨fun n h=>num_vI h,fun _ _=>hCmp_pos,fun _ _=>hCmp_neg,fun _ _=>hCmp_le0,fun _ _=>hCmp_ge0,fun p _=>by simp,fun p _=>by simp,fun _ _=>rfl,fun _ _=>rfl,fun _ _=>rfl,fun _ _=>rfl,?_,?_,?_,?_,fun _ _=>rfl⟩
  · intro α _ _ a b;simp
  · intro α _ _ a b;simp
  · intro α _ _ a b;simp
  · intro α _ _ a b;simp
end Go.Sx
namespace Go.Sx
end Go.Sx
namespace Go.Sx
open Go.RowKit
abbrev ST:=Int×Int×Int×Int
def stV (s:ST):Value:= .agg #[.int .u64 (lim s.1 0), .int .u64 (lim s.1 1), .int .u64 (lim s.1 2), .int .u64 (lim s.1 3),
  .int .u64 (lim s.2.1 0), .int .u64 (lim s.2.1 1), .int .u64 (lim s.2.1 2), .int .u64 (lim s.2.1 3),
  .int .u64 (lim s.2.2.1 0), .int .u64 (lim s.2.2.1 1), .int .u64 (lim s.2.2.1 2), .int .u64 (lim s.2.2.1 3),
  .int .u64 (lim s.2.2.2 0), .int .u64 (lim s.2.2.2 1), .int .u64 (lim s.2.2.2 2), .int .u64 (lim s.2.2.2 3)]
def numAt (v:Value) (i:Nat):Int:=num (.agg #[cell v i,cell v (i+1),cell v (i+2),cell v (i+3)])
def unST (v:Value):ST:=(numAt v 0,numAt v 4,numAt v 8,numAt v 12)
structure okS (s:ST):Prop where
  a:R4 s.1
  b:R4 s.2.1
  c:R4 s.2.2.1
  d:R4 s.2.2.2
def s0:ST:=(0,0,0,0)
theorem okS0:okS s0:=⟨R4_zero,R4_zero,R4_zero,R4_zero⟩
theorem un_stV {s:ST} (h:okS s):unST (stV s)=s:=by
  have e1:numAt (stV s) 0=num (vI s.1):=rfl
  have e2:numAt (stV s) 4=num (vI s.2.1):=rfl
  have e3:numAt (stV s) 8=num (vI s.2.2.1):=rfl
  have e4:numAt (stV s) 12=num (vI s.2.2.2):=rfl
  unfold unST
  rw [e1,e2,e3,e4,num_vI h.a,num_vI h.b,num_vI h.c,num_vI h.d]
noncomputable def pOf (m:KV) (t:Int):ST:=unST ((mget m (.int .u8 t)).getD (stV s0))
def StK (K:MK):Prop:= ∀x,K.OkV x↔ ∃v,okS v/\x=stV v
theorem StK.get {K:MK} (hK:StK K) {m:KV} (h:KOK K m) (k:Value): ∃v,okS v/\(mget m k).getD (stV s0)=stV v:=by
  cases hg:mget m k with
  | none=>exact ⟨s0,okS0,rfl⟩
  | some x=>obtain ⟨v,hv,rfl⟩:=(hK x).1 (h.val hg);exact ⟨v,hv,rfl⟩
theorem StK.of {K:MK} (hK:StK K) {m:KV} (h:KOK K m) (t:Int):okS (pOf m t):=by
  obtain ⟨v,hv,e⟩:=hK.get h (.int .u8 t)
  unfold pOf;rw [e,un_stV hv];exact hv
end Go.Sx
namespace Go.Sx
open Go.RowKit
def RK.set {k : Nat} (r : RK k) (n : Nat) (v : Value) (hv : Ag k v) : RK k := ⟨r.1.set n v, by
  obtain ⟨r,hr⟩:=r
  cases r with
  | nil=>trivial
  | mk b vs ex =>
    intro x hx
    rcases List.mem_append.1 hx with hx | hx
    · rcases List.mem_or_eq_of_mem_set hx with hx | rfl
      · exact hr x (List.mem_append_left _ hx)
      · exact hv
    · exact hr x (List.mem_append_right _ hx)⟩
def Row.clr (z:Value) (m:Nat):Row->Row
  | .nil=> .nil
  | .mk b vs ex=> .mk b (vs.take m++List.replicate (vs.length - m) z) ex
def RK.clr {k : Nat} (r : RK k) (m : Nat) (z : Value) (hz : Ag k z) : RK k := ⟨r.1.clr z m, by
  obtain ⟨r,hr⟩:=r
  cases r with
  | nil=>trivial
  | mk b vs ex =>
    intro x hx
    rcases List.mem_append.1 hx with hx | hx
    · rcases List.mem_append.1 hx with hx | hx
      · exact hr x (List.mem_append_left _ (List.mem_of_mem_take hx))
      · rw [List.eq_of_mem_replicate hx];exact hz
    · exact hr x (List.mem_append_right _ hx)⟩
theorem RK.vals_clr {k:Nat} (r:RK k) (m:Nat) (z:Value) (hz:Ag k z):vals (r.clr m z hz).1=(vals r.1).take m++List.replicate ((vals r.1).length - m) z:=by
  obtain ⟨r,hr⟩:=r
  cases r<;>simp [RK.clr,Row.clr,vals]
def RK.take {k : Nat} (r : RK k) (m : Nat) : RK k := ⟨r.1.take m, by
  obtain ⟨r,hr⟩:=r
  cases r with
  | nil=>trivial
  | mk b vs ex =>
    intro x hx
    refine hr x ?_
    rcases List.mem_append.1 hx with hx | hx
    · exact List.mem_append_left _ (List.mem_of_mem_take hx)
    · rcases List.mem_append.1 hx with hx | hx
      · exact List.mem_append_left _ (List.mem_of_mem_drop hx)
      · exact List.mem_append_right _ hx⟩
end Go.Sx
namespace Go.Sx
open Go.RowKit
def tL (xs:List Int):List Value:=fl (xs.map vI)
def tnV (xs:List Int):Value:= .agg (tL xs).toArray
def unL:List Value->List Int
  | a::b::c::d::l=>num (.agg #[a,b,c,d])::unL l
  | _=> []
def utn (v:Value):List Int:=unL v.cells.toList
def okT (n:Nat) (xs:List Int):Prop:=xs.length=n/\ ∀x∈xs,R4 x
theorem tL_cons (x:Int) (xs:List Int):tL (x::xs)= .int .u64 (lim x 0):: .int .u64 (lim x 1):: .int .u64 (lim x 2):: .int .u64 (lim x 3)::tL xs:=rfl
theorem unL_tL: ∀ {xs:List Int},(∀x∈xs,R4 x)->unL (tL xs)=xs
  | [],_=>rfl
  | x :: xs, h => by
    rw [tL_cons]
    show num (vI x)::unL (tL xs)=x::xs
    rw [num_vI (h x (List.mem_cons_self ..)),unL_tL fun y hy=>h y (List.mem_cons_of_mem _ hy)]
theorem utn_tnV {n:Nat} {xs:List Int} (h:okT n xs):utn (tnV xs)=xs:=unL_tL h.2
theorem tAg (xs:List Int): ∀v∈xs.map vI,Ag 4 v:=by
  intro v hv
  obtain ⟨x,_,rfl⟩:=List.mem_map.1 hv
  exact ⟨_,rfl,rfl⟩
theorem tL_len (xs:List Int):(tL xs).length=xs.length*4:=by unfold tL;rw [fl_length (tAg xs)];simp
theorem tL_append (a b:List Int):tL (a++b)=tL a++tL b:=by unfold tL;rw [List.map_append,fl_append]
theorem tL_drop (xs:List Int) (n:Nat):(tL xs).drop (n*4)=tL (xs.drop n):=by
  unfold tL;rw [fl_drop (tAg xs),List.map_drop]
theorem tL_take (xs:List Int) (n:Nat):(tL xs).take (n*4)=tL (xs.take n):=by
  rcases Nat.lt_or_ge xs.length n with q | q
  · rw [List.take_of_length_le (by rw [tL_len];omega),List.take_of_length_le (by omega)]
  · have h:tL xs=tL (xs.take n)++tL (xs.drop n):=by rw [←tL_append,List.take_append_drop]
    have hl:(tL (xs.take n)).length=n*4:=by rw [tL_len,List.length_take,Nat.min_eq_left q]
    rw [h,List.take_append_of_le_length (by omega),List.take_of_length_le (by omega)]
theorem tL_one: ∀ (xs:List Int) (u:Value),u∈tL xs->u.oneCell' =true
  | [],u,h=>by cases h
  | x :: xs, u, h => by
    rw [tL_cons] at h
    simp only [List.mem_cons] at h
    rcases h with rfl | rfl | rfl | rfl | h
    · rfl
    · rfl
    · rfl
    · rfl
    · exact tL_one xs u h
def tb (b:Nat) (ty:TypeId) (v:Value):Slot:= .par [b] (.val v) (fun h=>(Slot.blk b (.cells v.cells ty (0,0))).sat h)
def sval (s:Slot):Value:=match s with | .par _ (.val v) _=>v | _=>undef
theorem tb_open {b:Nat} {ty:TypeId} {v:Value} {l:List Slot}:Imp (tb b ty v::l) (.blk b (.cells v.cells ty (0,0))::l):=fun R w h=>by
  obtain ⟨p,q,hs,rest⟩:=h
  refine ⟨p,q,fun i=> ?_,rest⟩
  cases i with
  | zero=>exact hs 0
  | succ i=>exact hs (i+1)
theorem tb_shut {b:Nat} {ty:TypeId} {v:Value} {l:List Slot}:Imp (.blk b (.cells v.cells ty (0,0))::l) (tb b ty v::l):=fun R w h=>by
  obtain ⟨p,q,hs,rest⟩:=h
  refine ⟨p,q,fun i=> ?_,rest⟩
  cases i with
  | zero=>exact hs 0
  | succ i=>exact hs (i+1)
def F_tbox (t:TypeId):List Value->List Slot->Ctr:=fun vs _=>⟨Nat,ptr,fun b=> [tb b t (varg vs 0)],fun _=>True⟩
theorem xtbox {P:Program} (t:TypeId) (xs:List Int):OpT P (do pure (.value (←Instr.box t (tnV xs)))) [] Nat ptr (fun b=> [tb b t (tnV xs)]) (fun _=>True):=by
  intro R w ho
  refine ⟨w.heap.size,w.alloc (.cells (tnV xs).cells t (0,0)),trivial, .inl ?_,tb_shut R _ ?_,ext_alloc _ _⟩
  · simp [Instr.box,ptr,newVar,newRow,Sem.run_bind,run_newObj_alloc,Result.andThen]
  · refine (own_alloc ho 0 _).weaken fun k=> ?_
    cases k with
    | zero=>exact .inl rfl
    | succ k=>exact .inl rfl
theorem xtalloc {P:Program} (t:TypeId) (xs:List Int) (hz: ∀w,(zeroValue t).run P w= .ok (tnV xs) w):
    OpT P (do pure (.value (←Instr.alloc t true (.tuple #[])))) [] Nat ptr (fun b=> [tb b t (tnV xs)]) (fun _=>True):=by
  intro R w ho
  refine ⟨w.heap.size,w.alloc (.cells (tnV xs).cells t (0,0)),trivial, .inl ?_,tb_shut R _ ?_,ext_alloc _ _⟩
  · simp [Instr.alloc,ptr,newVar,newRow,Sem.run_bind,run_newObj_alloc,Result.andThen,hz]
  · refine (own_alloc ho 0 _).weaken fun k=> ?_
    cases k with
    | zero=>exact .inl rfl
    | succ k=>exact .inl rfl
theorem part_get {w:World} {b:Nat} {ty:TypeId} {cs:Array Value} {fz:Nat×Nat} (hb:w.heap[b]? =some (.cells cs ty fz)) (o:Nat) (l:List Value) (hl:(cs.toList.drop o).take l.length=l):
    ∀j c,l[j]? =some c->w.cell? ((⟨b,o,none⟩:Addr).add j)=some c:=by
  intro j c hj
  have e1:(⟨b,o,none⟩:Addr).add j=⟨b,o+j,none⟩:=Addr.add_lit ..
  have hlt:j<l.length:=(List.getElem?_eq_some_iff.1 hj).1
  have h2:cs.toList[o+j]? =some c:=by
    rw [←List.getElem?_drop,←List.getElem?_take_of_lt hlt,hl,hj]
  have h3:cs[o+j]? =some c:=by simpa using h2
  rw [e1]
  simp [World.cell?,hb,h3]
theorem load_part {P:Program} {e:TypeId} {k:Nat} (ha: ∀w,(isAgg e).run P w= .ok true w) (hk: ∀w,(sizeOf e).run P w= .ok k w) {b:Nat} {ty:TypeId} {cs:Array Value} {fz:Nat×Nat} (o:Nat) (l:List Value) (hn:l.length=k) (hl:(cs.toList.drop o).take k=l) {w:World} (hb:w.heap[b]? =some (.cells cs ty fz)):
    (do pure (Next.value (←Instr.loadAt e (.pointer (some ⟨b,o,none⟩)))):Sem Next).run P w= .ok (.value (.agg l.toArray)) w:=by
  have hrun:=run_loadCells_list (P:=P) w ⟨b,o,none⟩ l (part_get hb o l (by rw [hn];exact hl))
  rw [hn] at hrun
  simp [Instr.loadAt,Instr.sureAddr,loadVar,Sem.run_bind,ha,hk w,hrun]
theorem part_take {xs:List Int} {n k:Nat} (h:n+k<=xs.length):(tL ((xs.drop n).take k)).length=k*4:=by rw [tL_len,List.length_take,List.length_drop,Nat.min_eq_left (by omega)]
theorem xtpart {P:Program} {e:TypeId} (n k K:Nat) (ha: ∀w,(isAgg e).run P w= .ok true w) (hk: ∀w,(sizeOf e).run P w= .ok K w) (hK:K=k*4) (b:Nat) (ty:TypeId) (xs:List Int) (o:Nat) (ho:o=n*4) (h:n+k<=xs.length):
    OpT P (do pure (.value (←Instr.loadAt e (.pointer (some ⟨b,o,none⟩))))) [tb b ty (tnV xs)] Unit (fun _=>tnV ((xs.drop n).take k)) (fun _=> [tb b ty (tnV xs)]) (fun _=>True):=by
  intro R w hw
  have hb:=(tb_open R w hw).block (i:=0) rfl
  refine ⟨(),w,trivial, .inl ?_,hw,Ext.refl w⟩
  subst ho hK
  refine load_part ha hk (n*4) (tL ((xs.drop n).take k)) (part_take h) ?_ hb
  show (((tnV xs).cells.toList).drop (n*4)).take (k*4)=_
  show ((tL xs).toArray.toList.drop (n*4)).take (k*4)=_
  rw [List.toList_toArray,tL_drop,tL_take]
def tget (v:Value) (n:Nat):Int:=(utn v).getD n 0
theorem tget_eq {m:Nat} {xs:List Int} (h:okT m xs) (n:Nat):tget (tnV xs) n=xs.getD n 0:=by unfold tget;rw [utn_tnV h]
theorem okT.get {m:Nat} {xs:List Int} (h:okT m xs) (n:Nat):R4 (xs.getD n 0):=by
  rw [List.getD_eq_getElem?_getD]
  cases hx:xs[n]? with
  | none=>exact R4_zero
  | some x=>exact h.2 x (List.mem_of_getElem? hx)
theorem take_one {xs:List Int} {n:Nat} (h:n<xs.length):(xs.drop n).take 1= [xs.getD n 0]:=by
  rw [List.drop_eq_getElem_cons h,List.take_succ_cons,List.take_zero,List.getD_eq_getElem?_getD,List.getElem?_eq_getElem h];rfl
def F_tget:List Value->List Slot->Ctr:=fun vs hs=>⟨Int,vI,fun _=>hs,fun z=>R4 z/\z=tget (sval (sarg hs 0)) (voff (varg vs 0)/4)⟩
theorem xtget {P:Program} {e:TypeId} {m:Nat} (n:Nat) (ha: ∀w,(isAgg e).run P w= .ok true w) (hk: ∀w,(sizeOf e).run P w= .ok 4 w) (b:Nat) (ty:TypeId) {xs:List Int} (hx:okT m xs) (o:Nat) (ho:o=n*4) (h:n<m):
    OpT P (do pure (.value (←Instr.loadAt e (.pointer (some ⟨b,o,none⟩))))) [tb b ty (tnV xs)] Int vI (fun _=> [tb b ty (tnV xs)]) (fun z=>R4 z/\z=tget (sval (tb b ty (tnV xs))) (o/4)):=by
  intro R w hw
  obtain ⟨_,w',_,hr,ho',he⟩:=xtpart n 1 4 ha hk rfl b ty xs o ho (by rw [hx.1];omega) R w hw
  refine ⟨xs.getD n 0,w',⟨hx.get n,?_⟩,?_,ho',he⟩
  · subst ho;rw [Nat.mul_div_cancel _ (by decide)];exact (tget_eq hx n).symm
  · rw [take_one (by rw [hx.1];exact h)] at hr;exact hr
theorem etget {m:Nat} {b:Nat} {ty:TypeId} {xs:List Int} (hx:okT m xs) {o n:Nat} (ho:o=n*4) {z:Int} (h:R4 z/\z=tget (sval (tb b ty (tnV xs))) (o/4)):z=xs.getD n 0:=by
  have:=h.2
  subst ho;rw [Nat.mul_div_cancel _ (by decide)] at this;exact this.trans (tget_eq hx n)
theorem wtget {m:Nat} {b:Nat} {ty:TypeId} {xs:List Int} (hx:okT m xs) (o:Nat): ∃z,(fun z=>R4 z/\z=tget (sval (tb b ty (tnV xs))) (o/4)) z:=⟨_,by show R4 (tget (tnV xs) _);rw [tget_eq hx];exact hx.get _,rfl⟩
def F_tall:List Value->List Slot->Ctr:=fun _ hs=>⟨Unit,fun _=>sval (sarg hs 0),fun _=>hs,fun _=>True⟩
theorem xtall {P:Program} {e:TypeId} {m:Nat} (K:Nat) (ha: ∀w,(isAgg e).run P w= .ok true w) (hk: ∀w,(sizeOf e).run P w= .ok K w) (hK:K=m*4) (b:Nat) (ty:TypeId) {xs:List Int} (hx:xs.length=m):
    OpT P (do pure (.value (←Instr.loadAt e (.pointer (some ⟨b,0,none⟩))))) [tb b ty (tnV xs)] Unit (fun _=>sval (tb b ty (tnV xs))) (fun _=> [tb b ty (tnV xs)]) (fun _=>True):=by
  have:=xtpart 0 m K ha hk hK b ty xs 0 (by simp) (by omega) (P:=P)
  rw [List.drop_zero,List.take_of_length_le (by omega)] at this
  exact this
def tset (xs:List Int) (n:Nat) (ys:List Int):List Int:=xs.take n++ys++xs.drop (n+ys.length)
theorem tset_len {xs ys:List Int} {n:Nat} (h:n+ys.length<=xs.length):(tset xs n ys).length=xs.length:=by unfold tset;simp;omega
theorem okT.tset {m:Nat} {xs:List Int} (h:okT m xs) {ys:List Int} (hy: ∀y∈ys,R4 y) {n:Nat} (hn:n+ys.length<=m):okT m (tset xs n ys):=by
  refine ⟨by rw [tset_len (by rw [h.1];exact hn),h.1],fun x hx=> ?_⟩
  unfold Sx.tset at hx
  rcases List.mem_append.1 hx with hx | hx
  · rcases List.mem_append.1 hx with hx | hx
    · exact h.2 x (List.mem_of_mem_take hx)
    · exact hy x hx
  · exact h.2 x (List.mem_of_mem_drop hx)
theorem putAll_t {xs ys:List Int} {n:Nat} (h:n+ys.length<=xs.length):putAll (tL xs).toArray (n*4) (tL ys)=(tL (tset xs n ys)).toArray:=by
  have h1:tL xs=tL (xs.take n)++tL ((xs.drop n).take ys.length)++tL (xs.drop (n+ys.length)):=by
    rw [←tL_append,←tL_append,List.append_assoc,←List.drop_drop,List.take_append_drop,List.take_append_drop]
  have hl:(tL (xs.take n)).length=n*4:=by rw [tL_len,List.length_take,Nat.min_eq_left (by omega)]
  have:=putAll_eq (tL ys) (tL (xs.take n)) (tL ((xs.drop n).take ys.length)) (tL (xs.drop (n+ys.length))) (by rw [tL_len,tL_len,List.length_take,List.length_drop,Nat.min_eq_left (by omega)])
  rw [hl] at this
  rw [h1,this]
  unfold tset
  rw [tL_append,tL_append]
theorem xtput' {P:Program} {e:TypeId} (K:Nat) (hk: ∀w,(sizeOf e).run P w= .ok K w) (b:Nat) (ty:TypeId) (xs ys:List Int) (n o:Nat) (ho:o=n*4) (hK:K=ys.length*4) (h:n+ys.length<=xs.length):
    OpT P (do Instr.storeAt e (.pointer (some ⟨b,o,none⟩)) (tnV ys);pure .skip) [tb b ty (tnV xs)] Unit (fun _=>undef) (fun _=> [tb b ty (tnV (tset xs n ys))]) (fun _=>True):=by
  intro R w hw
  have hw1:=tb_open R w hw
  have hb:w.heap[b]? =some (.cells (tL xs).toArray ty (0,0)):=hw1.block (i:=0) rfl
  subst ho
  have hc: ∀j,j<(tL ys).length->(w.cell? ⟨b,n*4+0+j,none⟩).isSome=true:=by
    intro j hj
    rw [tL_len] at hj
    have hlen' :n*4+j<(tL xs).length:=by rw [tL_len];omega
    simp [World.cell?,hb,hlen']
  have hst:=run_storeCells_cells (P:=P) b (n*4) (tL ys) 0 w hc (fun j hj=>frozen_of_row w b _ _ ty hb) (tL_one ys)
  simp only [Nat.add_zero] at hst
  have hh:=heap_setCells_same b ty (tL ys) (n*4) w _ hb
  rw [putAll_t h] at hh
  refine ⟨(),w.setCells b (n*4) (tL ys),trivial, .inr ⟨?_,rfl⟩,?_,ext_setCells b _ _ w⟩
  · have hsz:(sizeOf e).run P w= .ok K w:=hk w
    have h2:(tnV ys).cells.size=K:=by show (tL ys).toArray.size=K;rw [List.size_toArray,tL_len,hK]
    have h3:(tnV ys).cells.toList=tL ys:=rfl
    simp [Instr.storeAt,Instr.sureAddr,storeVar,Sem.run_bind,hsz,h2,h3,hst]
  · have:=hw1.set (i:=0) (b:=b) rfl hh (fun c hc=>heap_setCells_other' b _ _ w c hc)
    refine tb_shut R _ ((congrArg (fun H=>Own H R (w.setCells b (n*4) (tL ys))) ?_).mp this)
    funext i
    cases i<;>rfl
def F_tput (ty:TypeId):List Value->List Slot->Ctr:=fun vs hs=>⟨List Int,fun _=>undef,fun zs=> [tb (vblk (varg vs 0)) ty (tnV zs)],fun zs=>zs=tset (utn (sval (sarg hs 0))) (voff (varg vs 0)/4) (utn (varg vs 1))⟩
theorem xtput {P:Program} {e:TypeId} {m:Nat} (K n:Nat) (hk: ∀w,(sizeOf e).run P w= .ok K w) (b:Nat) (ty:TypeId) {xs:List Int} (hx:okT m xs) (ys:List Int) (hy: ∀y∈ys,R4 y) (o:Nat) (ho:o=n*4) (hK:K=ys.length*4) (h:n+ys.length<=m):
    OpT P (do Instr.storeAt e (.pointer (some ⟨b,o,none⟩)) (tnV ys);pure .skip) [tb b ty (tnV xs)] (List Int) (fun _=>undef) (fun zs=> [tb b ty (tnV zs)]) (fun zs=>zs=tset (utn (sval (tb b ty (tnV xs)))) (o/4) (utn (tnV ys))):=by
  intro R w hw
  obtain ⟨_,w',_,hr,ho',he⟩:=xtput' K hk b ty xs ys n o ho hK (by rw [hx.1];exact h) R w hw
  refine ⟨tset xs n ys,w',?_,hr,ho',he⟩
  show _=tset (utn (tnV xs)) (o/4) (utn (tnV ys))
  rw [utn_tnV hx,utn_tnV (n:=ys.length) ⟨rfl,hy⟩,ho,Nat.mul_div_cancel _ (by decide)]
theorem etput {m:Nat} {b:Nat} {ty:TypeId} {xs ys:List Int} (hx:okT m xs) (hy: ∀y∈ys,R4 y) {o n:Nat} (ho:o=n*4) {zs:List Int} (h:zs=tset (utn (sval (tb b ty (tnV xs)))) (o/4) (utn (tnV ys))):zs=tset xs n ys:=by
  have h' :zs=tset (utn (tnV xs)) (o/4) (utn (tnV ys)):=h
  rw [utn_tnV hx,utn_tnV (n:=ys.length) ⟨rfl,hy⟩,ho,Nat.mul_div_cancel _ (by decide)] at h';exact h'
theorem R4s1 {a:Int} (h:R4 a): ∀y∈ [a],R4 y:=by intro y hy;simp at hy;subst hy;exact h
def F_tputall (ty:TypeId):List Value->List Slot->Ctr:=fun vs _=>⟨Unit,fun _=>undef,fun _=> [tb (vblk (varg vs 0)) ty (varg vs 1)],fun _=>True⟩
theorem xtputall {P:Program} {e:TypeId} {m:Nat} (K:Nat) (hk: ∀w,(sizeOf e).run P w= .ok K w) (b:Nat) (ty:TypeId) {xs ys:List Int} (hx:xs.length=m) (hy:ys.length=m) (hK:K=m*4):
    OpT P (do Instr.storeAt e (.pointer (some ⟨b,0,none⟩)) (tnV ys);pure .skip) [tb b ty (tnV xs)] Unit (fun _=>undef) (fun _=> [tb b ty (tnV ys)]) (fun _=>True):=by
  have h:=xtput' K hk b ty xs ys 0 0 (by simp) (by rw [hK,hy]) (by omega) (P:=P)
  have e1:tset xs 0 ys=ys:=by unfold tset;rw [List.take_zero,List.nil_append,List.drop_eq_nil_of_le (by omega),List.append_nil]
  rw [e1] at h;exact h
end Go.Sx
namespace Go.Sx
open Go.RowKit
inductive RA where
  | acc (l:List Acc)
  | tab (i:Nat)
def TabLoad (P:Program) (t:TypeId) (s:Slot) (a v:Value):Prop:= ∀ (R:HP) (w:World),Own (ofList [s]) R w->(do loadVar t (←asAddr a):Sem Value).run P w= .ok v w
def resT (P : Program) (fr : Nat -> Value) (H : Hp) : List ResultVar -> List RA -> (List Value -> Prop) -> Prop
  | [],_,K=>K []
  | .tmp t::rs,ras,K=>resT P fr H rs ras fun vs=>K (fr t::vs)
  | .cell a t::rs, .acc l::ras,K=>symR P (do loadVar t (←asAddr (fr a))) l H fun v=>resT P fr H rs ras fun vs=>K (v::vs)
  | .cell a t :: rs, .tab i :: ras, K => match H i with
    | .par ns (.val v) A=>TabLoad P t (.par ns (.val v) A) (fr a) v/\resT P fr H rs ras fun vs=>K (v::vs)
    | _=>False
  | _,_,_=>False
def oneV:List Value->Value
  | [v]=>v
  | vs=> .tuple vs.toArray
def readR (fr:Nat->Value):ResultVar->Sem Value
  | .tmp t=>pure (fr t)
  | .cell a t=>do loadVar t (←asAddr (fr a))
theorem resT_sound {P : Program} {fr : Nat -> Value} {H : Hp} {R : HP} {w : World} (ho : Own H R w) : ∀ (rs : List ResultVar) (ras : List RA) (K : List Value -> Prop), resT P fr H rs ras K -> ∃ vs, (rs.mapM (readR fr)).run P w = .ok vs w /\ K vs
  | [],_,K,h=>⟨[],rfl,h⟩
  | .tmp t :: rs, ras, K, h => by
    obtain ⟨vs,hr,hk⟩:=resT_sound ho rs ras _ h
    exact ⟨fr t::vs,by simp [readR,Sem.run_bind,hr],hk⟩
  | .cell a t :: rs, .acc l :: ras, K, h => by
    obtain ⟨v,hv,hk⟩:=symR_sound _ l H _ R w h ho
    obtain ⟨vs,hr,hk⟩:=resT_sound ho rs ras _ hk
    refine ⟨v::vs,?_,hk⟩
    rw [List.mapM_cons,Sem.run_bind]
    show (((do loadVar t (←asAddr (fr a)):Sem Value).run P w).andThen _)=_
    rw [hv]
    simp [Sem.run_bind,hr]
  | .cell a t :: rs, .tab i :: ras, K, h => by
    unfold resT at h
    split at h
    · rename_i ns v A hi
      obtain ⟨hl,h⟩:=h
      obtain ⟨vs,hr,hk⟩:=resT_sound ho rs ras _ h
      have hv:=hl _ w (by
        have:=own_split (ids:= [i]) (by simp) ho
        simp only [List.map_cons,List.map_nil] at this
        rw [hi] at this
        exact this)
      refine ⟨v::vs,?_,hk⟩
      rw [List.mapM_cons,Sem.run_bind]
      show (((do loadVar t (←asAddr (fr a)):Sem Value).run P w).andThen _)=_
      rw [hv]
      simp [Sem.run_bind,hr]
    · exact h.elim
  | .cell a t::rs,[],K,h=>by simp [resT] at h
theorem resF_list (fn:Func) (fr:Nat->Value) (P:Program) (w:World) {vs:List Value} (h:(fn.results.toList.mapM (readR fr)).run P w= .ok vs w):(resF fn fr).run P w= .ok (oneV vs) w:=by
  have e:resF fn fr=(do
      let vs←fn.results.mapM (readR fr)
      pure (if h:vs.size=1 then vs[0] else .tuple vs)):=rfl
  rw [e,Array.mapM_eq_mapM_toList,Sem.run_bind]
  simp only [map_eq_pure_bind,Sem.run_bind,h,Result.andThen_ok]
  rcases vs with _ | ⟨v,_ | ⟨u,vs⟩⟩<;>rfl
def finT (P:Program) (fn:Func) (ras:List RA) (outs:List Nat) {X:Type} (val:X->Value) (us:X->List Slot) (Φ:X->Prop) (e:Exit) (s:St) (_:Script):Prop:=
  match e with
  | .normal | .ret=>resT P s.fr s.H fn.results.toList ras fun vs=> ∃x,Φ x/\oneV vs=val x/\outW outs (us x) s.H (dfW s.df [] True)
  | _=>False
theorem call_of_tab {P:Program} {f:FuncId} {fn:Func} {c:Code} {n:Nat} {args:Array Value} {Hs:List Slot} {X:Type} {val:X->Value} {us:X->List Slot} {Φ:X->Prop}
    (hP : P.follows .mixedOrders = true) (hf : P.funcs[f]? = some fn) (hb : fn.body = some c) (hn : fn.ntmps = n) (hname : (fn.name == "runtime.NumGoroutine") = false)
    (fuel:Nat) (k:Script) (ras:List RA) (outs:List Nat) (hsz:Nat.ble args.size n=true) (ho:nodB outs=true)
    (h:codeW P n none fuel none c k (init args Hs) (finT P fn ras outs val us Φ)):CallT P f args Hs X val us Φ:=by
  refine ⟨enterOK hf hb hname,fun R w hw=> ?_⟩
  subst hn
  have go:CallsIn Fence.wide 0 P f args w fun e w' => ∃x,Φ x/\e= .returned (val x)/\Own (ofList (us x)) R w' /\Ext w w' := ?_
  · exact callsIn_wide.1 go
  refine callsIn_of_wp hf hb trivial ?_
  have hc:=(code_sound hP fuel).1 c k (init args Hs) _ R _ w h (init_rel (Nat.le_of_ble_eq_true hsz)) hw
  refine wpIn_mono hc ?_
  have fin: ∀ (a' :Act) (w' :World) (s' :St),Rel fn.ntmps s' a' ->Own s'.H R w' ->Ext w w' ->(resT P s'.fr s'.H fn.results.toList ras fun vs=> ∃x,Φ x/\oneV vs=val x/\outW outs (us x) s'.H (dfW s'.df [] True))->
      a'.defers= []/\ ∃v,(results fn a'.tmps).run P w' = .ok v w' /\ ∃x,Φ x/\Ending.returned v= .returned (val x)/\Own (ofList (us x)) R w' /\Ext w w' :=by
    intro a' w' s' hr ho' he hs
    obtain ⟨vs,hrun,x,hx,hv,hout⟩:=resT_sound ho' _ ras _ hs
    obtain ⟨hd,hk⟩:=outW_use hout
    refine ⟨?_,val x,by rw [resF_eq hr,←hv];exact resF_list fn s'.fr P w' hrun,x,hx,rfl,(own_sub (nodB_iff.1 ho) ho').weaken fun k=>(hk k).symm,he⟩
    rw [hr.df]
    cases hdf:s'.df with
    | nil=>rfl
    | cons y l=>rw [hdf] at hd;exact absurd hd.1 (by simp)
  rintro e a' w' ⟨s',⟨k',hk⟩,hr,ho',he⟩
  cases e with
  | normal=>exact fin a' w' s' hr ho' he hk
  | ret=>exact fin a' w' s' hr ho' he hk
  | exit id=>exact hk.elim
  | goto l=>exact hk.elim
  | panic ch=>exact hk.elim
  | outgrown=>exact hk.elim
theorem tab_load {P:Program} {t:TypeId} {m:Nat} (K:Nat) (ha: ∀w,(isAgg t).run P w= .ok true w) (hk: ∀w,(sizeOf t).run P w= .ok K w) (hK:K=m*4) {b:Nat} {ty:TypeId} {xs:List Int} (hx:xs.length=m):
    TabLoad P t (tb b ty (tnV xs)) (.pointer (some ⟨b,0,none⟩)) (tnV xs):=by
  intro R w ho
  have hb:=(tb_open R w ho).block (i:=0) rfl
  have hl:((((tnV xs).cells.toList).drop 0).take (tL xs).length)=tL xs:=by
    show ((tL xs).toArray.toList.drop 0).take _=_
    rw [List.toList_toArray,List.drop_zero,List.take_length]
  have hrun:=run_loadCells_list (P:=P) w ⟨b,0,none⟩ (tL xs) (part_get hb 0 (tL xs) hl)
  rw [tL_len,hx,←hK] at hrun
  simp [asAddr,loadVar,Sem.run_bind,ha,hk w,hrun,tnV]
def f_tidx (k:Nat):List Value->Value:=fun vs=> .pointer (some ⟨vblk (varg vs 0),voff (varg vs 0)+(ci (varg vs 1)).toNat*k,none⟩)
theorem xaidxK {P:Program} {t e:TypeId} {n K:Nat} (hu:P.underlying t=some (.array n e)) (hs: ∀w,(sizeOf e).run P w= .ok K w) (b o:Nat) (k:IntKind) (i:Int) (h0:0<=i) (h1:i<(n:Int)):
    PureRun P (do pure (.value (←Instr.indexAt t (.pointer (some ⟨b,o,none⟩)) (.int k i)))) (.pointer (some ⟨b,o+i.toNat*K,none⟩)):=by
  intro w
  have hc:0<=i/\i<(n:Int):=⟨h0,h1⟩
  simp [Instr.indexAt,run_underlying hu,asIntOf,hc,hs w,Addr.add,Instr.sureAddr,Sem.run_bind]
end Go.Sx
namespace Go.Sx
open Go.RowKit
theorem okT_zero (n:Nat):okT n (List.replicate n 0):=⟨by simp,fun x hx=>by rw [List.eq_of_mem_replicate hx];exact R4_zero⟩
theorem okT.set {m:Nat} {xs:List Int} (h:okT m xs) (i:Nat) {y:Int} (hy:R4 y):okT m (xs.set i y):=⟨by rw [List.length_set];exact h.1,fun x hx=>(List.mem_or_eq_of_mem_set hx).elim (h.2 x) fun e=>e▸hy⟩
end Go.Sx
set_option linter.unusedVariables false
set_option linter.unusedSimpArgs false
namespace Go.Sx
open Go.RowKit
def bitsL (x:Nat):List Nat:=(List.range 64).filter fun b=>x.testBit b
theorem bitsL_mem {x b:Nat}:b∈bitsL x↔b<64/\x.testBit b=true:=by unfold bitsL;rw [List.mem_filter,List.mem_range]
theorem bitsL_rise (x:Nat):(bitsL x).Pairwise (· < ·):=List.Pairwise.filter _ List.pairwise_lt_range
theorem rise_eq : ∀ {l l' : List Nat}, l.Pairwise (· < ·) -> l'.Pairwise (· < ·) -> (∀ v, v ∈ l ↔ v ∈ l') -> l = l'
  | [],[],_,_,_=>rfl
  | [],b::l',_,_,h=>absurd ((h b).2 (List.mem_cons_self ..)) (by simp)
  | a::l,[],_,_,h=>absurd ((h a).1 (List.mem_cons_self ..)) (by simp)
  | a :: l, b :: l', h1, h2, h => by
    rw [List.pairwise_cons] at h1 h2
    have e:a=b:=by
      rcases List.mem_cons.1 ((h a).1 (List.mem_cons_self ..)) with e | hm
      · exact e
      · rcases List.mem_cons.1 ((h b).2 (List.mem_cons_self ..)) with e | hm'
        · exact e.symm
        · have:=h2.1 _ hm;have:=h1.1 _ hm';omega
    subst e
    rw [rise_eq h1.2 h2.2 fun v=> ?_]
    constructor
    · intro hv
      rcases List.mem_cons.1 ((h v).1 (List.mem_cons_of_mem _ hv)) with e | hm
      · subst e;exact absurd (h1.1 _ hv) (Nat.lt_irrefl _)
      · exact hm
    · intro hv
      rcases List.mem_cons.1 ((h v).2 (List.mem_cons_of_mem _ hv)) with e | hm
      · subst e;exact absurd (h2.1 _ hv) (Nat.lt_irrefl _)
      · exact hm
noncomputable def numsW (m:KV) (k:Value):List Int:=(bitsL (ci ((mget m k).getD (u64v 0))).toNat).map fun b=>ci k*64+((b:Nat):Int)
noncomputable def numsK (m:KV) (l:List Value):List Int:=l.flatMap (numsW m)
theorem numsW_len (m:KV) (k:Value):(numsW m k).length=(bitsL (ci ((mget m k).getD (u64v 0))).toNat).length:=by unfold numsW;rw [List.length_map]
end Go.Sx
set_option linter.unusedVariables false
set_option linter.unusedSimpArgs false
namespace Go.Sx
open Go.RowKit
def uvs (l:List Int):List Value:=l.map (Value.int .u32)
theorem bits_len: ∀ (n x:Nat),((List.range n).filter fun b=>x.testBit b).length=pcn n x
  | 0,x=>rfl
  | n + 1, x => by
    rw [List.range_succ_eq_map,List.filter_cons,List.filter_map,pcn,←bits_len n (x/2)]
    have e:((fun b=>x.testBit b)∘Nat.succ)=fun b=>(x/2).testBit b:=by
      funext b;simp [Nat.testBit_succ]
    rw [e]
    by_cases h:x.testBit 0=true
    · rw [if_pos h,List.length_cons,List.length_map]
      rw [Nat.testBit_zero] at h
      have:=of_decide_eq_true h
      omega
    · rw [if_neg h,List.length_map]
      rw [Nat.testBit_zero] at h
      have: ¬x%2=1:=fun q=>h (by simp [q])
      omega
theorem numsK_sum {m:KV} {l:List Value}:(numsK m l).length=sumK m l:=by
  unfold numsK sumK
  induction l with
  | nil=>rfl
  | cons a l ih =>
    rw [List.flatMap_cons,List.length_append,ih,numsW_len,List.map_cons,List.sum_cons]
    exact congrArg (· +_) (bits_len 64 _)
theorem numsK_totW {m:KV} (hm:MOK m) {kk:IntKind} {l:List Value} (h:KeysOf kk m l):(numsK m l).length=totW m:=by rw [numsK_sum,sumK_totW hm h]
theorem numsK_rise {m:KV}: ∀ {l:List Value},Rise l->(numsK m l).Pairwise (· < ·)
  | [],_=>List.Pairwise.nil
  | a :: l, h => by
    unfold Rise at h
    rw [List.pairwise_cons] at h
    show (numsW m a++numsK m l).Pairwise (· < ·)
    rw [List.pairwise_append]
    refine ⟨?_,numsK_rise h.2,fun v hv u hu=> ?_⟩
    · unfold numsW
      rw [List.pairwise_map]
      exact (bitsL_rise _).imp fun q=>by omega
    · unfold numsW at hv
      obtain ⟨b,hb,rfl⟩:=List.mem_map.1 hv
      obtain ⟨k,hk,hu⟩:=List.mem_flatMap.1 hu
      unfold numsW at hu
      obtain ⟨d,hd,rfl⟩:=List.mem_map.1 hu
      have:=(bitsL_mem.1 hb).1
      have:=h.1 k hk
      omega
theorem numsK_mem {m:KV} {l:List Value} (h:KeysOf .u32 m l) {v:Int} (hv:v∈numsK m l):hasI m v=true:=by
  obtain ⟨k,hk,hu⟩:=List.mem_flatMap.1 hv
  unfold numsW at hu
  obtain ⟨d,hd,rfl⟩:=List.mem_map.1 hu
  obtain ⟨n,rfl⟩:=h.2.2 k hk
  have hd' :=bitsL_mem.1 hd
  unfold hasI
  rw [show (ci (Value.int .u32 n)*64+((d:Nat):Int))/64=n by show (n*64+((d:Nat):Int))/64=n;omega,show ((ci (Value.int .u32 n)*64+((d:Nat):Int))%64).toNat=d by show ((n*64+((d:Nat):Int))%64).toNat=d;omega]
  exact hd'.2
theorem hasI_put {m:KV} {i j:Int} (h:hasI m j=true):hasI (putO m i) j=true:=by
  unfold putO
  cases hi:hasI m i with
  | true=>rw [if_pos rfl];exact h
  | false =>
    rw [if_neg (by decide)]
    unfold hasI at h ⊢
    rw [wd_put]
    split
    · rw [setW_bit,h];rfl
    · exact h
theorem SpS.keyb {K:MK} {P:List Int} {m:KV} {c:Nat} (h:SpS K P m c) (hP: ∀x∈P,(Lit.int .u32 x).wf=true) {l:List Value} (hx:KeysOf .u32 m l): ∀v∈l,0<=ci v/\ci v<=67108863:=by
  intro v hv
  obtain ⟨n,rfl⟩:=hx.2.2 v hv
  have hm:=hx.1.mem_iff.1 hv
  obtain ⟨e,he,h1⟩:=List.mem_map.1 hm
  have:=mget_of_mem h.ok.once he
  rw [h1] at this
  obtain ⟨x,hx',h2⟩:=(h.key n).1 (by rw [this];rfl)
  have:=wf32n (hP x hx')
  show 0<=n/\n<=67108863
  omega
structure SpT (K:MK) (ls:List Int) (i:Nat) (m:KV) (L:List Ent):Prop where
  le:i<=ls.length
  a: ∃c,SpS K (ls.take i) m c
  l:L.length<=i
theorem SpT.start {K:MK} {ls:List Int}:SpT K ls 0 [] []:=⟨Nat.zero_le _,⟨0,SpS.nil⟩,Nat.le_refl _⟩
theorem SpT.ok {K:MK} {ls:List Int} {i:Nat} {m:KV} {L:List Ent} (h:SpT K ls i m L):KOK K m:=h.a.elim fun _ q=>q.ok
theorem SpS.cnt_le {K:MK} (I:WdK K) {P:List Int} {m:KV} {c:Nat} (q:SpS K P m c):totW m<=P.length:=by
  obtain ⟨z,hz⟩:=keysOf_wit (SpS.int I q.ok).1 q.ok.once
  rw [←numsK_totW q.ok.once hz]
  have hr:=numsK_rise (m:=m) hz.2.1
  have hn:(numsK m (vals z)).Nodup:=hr.imp fun h e=>by omega
  exact List.Nodup.length_le_of_subset hn fun v hv=>(q.has v).1 (numsK_mem hz hv)
theorem SpT.len {K:MK} (I:WdK K) {ls:List Int} {i:Nat} {m:KV} {L:List Ent} (h:SpT K ls i m L):m.length<=ls.length/\totW m<=ls.length:=by
  obtain ⟨c,q⟩:=h.a
  have h1:=q.len I
  have h2:=q.cnt_le I
  rw [List.length_take] at h1 h2
  omega
theorem SpT.step {K:MK} (I:WdK K) {ls:List Int} {i:Nat} {m:KV} {L:List Ent} (h:SpT K ls i m L) {x:Int} (hx:ls[i]? =some x) {e1:Ent} {m' :KV} {L' :List Ent} (p1:m' =putO m x/\L' =bif hasI m x then L else L++ [e1]):SpT K ls (i+1) m' L' :=by
  have hlt:=(List.getElem?_eq_some_iff.1 hx).1
  have t1:ls.take (i+1)=ls.take i++ [x]:=by
    rw [List.take_succ_eq_append_getElem hlt]
    rw [List.getElem?_eq_getElem hlt] at hx;injection hx with hx;rw [hx]
  obtain ⟨c,q⟩:=h.a
  exact ⟨hlt,⟨_,by rw [t1,p1.1];exact q.put I x⟩,by rw [p1.2];exact Nat.le_trans bif_len (Nat.succ_le_succ h.l)⟩
theorem SpT.more {K:MK} (I:WdK K) {ls:List Int} {i:Nat} {m:KV} {L:List Ent} (h:SpT K ls i m L) (x:Int): ∃c,SpS K (ls.take i++ [x]) (putO m x) c:=by
  obtain ⟨c,q⟩:=h.a
  exact ⟨_,q.put I x⟩
theorem SpT.keyb {K:MK} {ls:List Int} {i:Nat} {m:KV} {L:List Ent} (h:SpT K ls i m L) (hP: ∀x∈ls,(Lit.int .u32 x).wf=true) {l:List Value} (hx:KeysOf .u32 m l): ∀v∈l,0<=ci v/\ci v<=67108863:=by
  obtain ⟨c,q⟩:=h.a
  exact q.keyb (fun x hx=>hP x (List.mem_of_mem_take hx)) hx
theorem SpT.keyb2 {K:MK} (I:WdK K) {ls:List Int} {i:Nat} {m:KV} {L:List Ent} (h:SpT K ls i m L) (hP: ∀x∈ls,(Lit.int .u32 x).wf=true) {x:Int} (hw:(Lit.int .u32 x).wf=true) {l:List Value} (hx:KeysOf .u32 (putO m x) l):(∀v∈l,0<=ci v/\ci v<=67108863)/\KOK K (putO m x)/\(putO m x).length<=ls.length+1/\totW (putO m x)<=ls.length+1:=by
  obtain ⟨c,q⟩:=h.more I x
  have h1:=q.len I
  have h2:=q.cnt_le I
  rw [List.length_append,List.length_take] at h1 h2
  simp only [List.length_singleton] at h1 h2
  refine ⟨q.keyb (fun y hy=> ?_) hx,q.ok,by omega,by omega⟩
  rcases List.mem_append.1 hy with hy | hy
  · exact hP y (List.mem_of_mem_take hy)
  · simp at hy;subst hy;exact hw
structure SpU (K:MK) (ns:List Int) (a b:Row) (m:KV):Prop where
  a:vals a=uvs ns
  b:vals b=uvs ns
  r:ns.Pairwise (· < ·)
  n:ns.length<=61
  h: ∀v∈ns,hasI m v=true
  w: ∀v∈ns,(Lit.int .u32 v).wf=true
  ok:KOK K m
  l:m.length<=61
  t:totW m<=61
  k: ∀l,KeysOf .u32 m l-> ∀v∈l,0<=ci v/\ci v<=67108863
theorem wf_u32 {n:Int} (h0:0<=n) (h1:n<=4294967295):(Lit.int .u32 n).wf=true:=by
  simp only [Lit.wf,Bool.and_eq_true,decide_eq_true_eq]
  exact ⟨h0,h1⟩
theorem numsK_wf {m:KV} {l:List Value} (h: ∀v∈l,0<=ci v/\ci v<=67108863): ∀v∈numsK m l,(Lit.int .u32 v).wf=true:=by
  intro v hv
  obtain ⟨k,hk,hu⟩:=List.mem_flatMap.1 hv
  unfold numsW at hu
  obtain ⟨d,hd,rfl⟩:=List.mem_map.1 hu
  have:=(bitsL_mem.1 hd).1
  have:=h k hk
  exact wf_u32 (by omega) (by omega)
theorem SpU.of {K:MK} (I:WdK K) {ls:List Int} {i:Nat} {m:KV} {L:List Ent} (h:SpT K ls i m L) (hls:ls.length<=60) (hP: ∀x∈ls,(Lit.int .u32 x).wf=true) {more:Int} (hw:(Lit.int .u32 more).wf=true) {x:Row} (hx:KeysOf .u32 m (vals x)) {m' :KV} (p:m' =putO m more) {a b:Row}
    (ha:vals a=uvs (List.take (Int.toNat 100) (numsK m (vals x)))) (hb:vals b=uvs (List.take (Int.toNat 100) (numsK m (vals x)))):SpU K (numsK m (vals x)) a b m' :=by
  subst p
  have h1:=h.len I
  have hn:(numsK m (vals x)).length<=60:=by rw [numsK_totW h.ok.once hx];omega
  rw [List.take_of_length_le (by omega)] at ha hb
  have kb:=h.keyb hP hx
  obtain ⟨c,q⟩:=h.more I more
  obtain ⟨z,hz⟩:=keysOf_wit (SpS.int I q.ok).1 q.ok.once
  have h2:=(h.keyb2 I hP hw hz).2
  exact ⟨ha,hb,numsK_rise hx.2.1,by omega,fun v hv=>hasI_put (numsK_mem hx hv),numsK_wf kb,q.ok,by omega,by omega,fun l hl=>(h.keyb2 I hP hw hl).1⟩
end Go.Sx
set_option linter.unusedVariables false
set_option linter.unusedSimpArgs false
namespace Go.Sx
open Go.RowKit
def rowE (r:Row):Value×Value:=(sv r, .agg (vals r).toArray)
def bagKV (rs:List Row):KV:=rs.map rowE
def bag (e:TypeId) (m:KV):Slot:=bun [] (.kv m) (fun rs: {rs:List Row//bagKV rs=m/\MOK m/\ ∀r∈rs,r≠ .nil}=>rs.val.map (ss e))
noncomputable def bget (m:KV) (v:Value):List Value:=((mget m v).getD (.agg #[])).cells.toList
structure InBag (m:KV) (v:Value) (l:List Value):Prop where
  at_:(v=sv .nil/\l= [])∨(v≠sv .nil/\mget m v=some (.agg l.toArray))
  ok: ∀e∈m,e.1≠sv .nil
  row: ∃r:Row,v=sv r/\vals r=l
theorem InBag.nil {m:KV} (h: ∀e∈m,e.1≠sv .nil):InBag m (sv .nil) []:=⟨.inl ⟨rfl,rfl⟩,h, .nil,rfl,rfl⟩
theorem InBag.vlen {m:KV} {v:Value} {l:List Value} (h:InBag m v l):vlen v=l.length:=by
  obtain ⟨r,rfl,rfl⟩:=h.row
  exact vlen_sv r
theorem InBag.get {m:KV} {v:Value} {l:List Value} (h:InBag m v l):bget m v=l:=by
  unfold bget
  rcases h.at_ with ⟨rfl,rfl⟩ | ⟨_,q⟩
  · rw [mget_none.2 h.ok];rfl
  · rw [q];simp [Value.cells]
theorem sv_nil_ne {r:Row} (h:r≠ .nil):sv r≠sv .nil:=by
  cases r with
  | nil=>exact absurd rfl h
  | mk b vs ex=>intro e;simp [sv] at e
theorem InBag.add {m:KV} {v:Value} {l:List Value} (h:InBag m v l) {y:Row} (hy:y≠ .nil) (hn:mget m (sv y)=none):InBag (m++ [rowE y]) v l:=by
  have ok: ∀e∈m++ [rowE y],e.1≠sv .nil:=fun e he=>by
    rcases List.mem_append.1 he with q | q
    · exact h.ok e q
    · simp at q;subst q;exact sv_nil_ne hy
  refine ⟨?_,ok,h.row⟩
  rcases h.at_ with q | ⟨q1,q2⟩
  · exact .inl q
  · exact .inr ⟨q1,by rw [mget_append,q2];rfl⟩
theorem InBag.new {m:KV} (ok: ∀e∈m,e.1≠sv .nil) {y:Row} (hy:y≠ .nil) (hn:mget m (sv y)=none):InBag (m++ [rowE y]) (sv y) (vals y):=by
  refine ⟨.inr ⟨sv_nil_ne hy,?_⟩,fun e he=> ?_,y,rfl,rfl⟩
  · rw [mget_append,hn];show mget [rowE y] (sv y)=_;rw [mget_cons,if_pos (show (rowE y).1=sv y from rfl)];rfl
  · rcases List.mem_append.1 he with q | q
    · exact ok e q
    · simp at q;subst q;exact sv_nil_ne hy
end Go.Sx
set_option linter.unusedVariables false
set_option linter.unusedSimpArgs false
namespace Go.Sx
open Go.RowKit
noncomputable def bl (m:KV) (v:Value):List Int:=(bget m v).map ci
theorem uvs_ci (l:List Int):(uvs l).map ci=l:=by
  unfold uvs;rw [List.map_map];conv=>rhs;rw [←List.map_id l]
  exact List.map_congr_left fun x _=>rfl
theorem InBag.bl {m:KV} {v:Value} {l:List Int} (h:InBag m v (uvs l)):bl m v=l:=by unfold Sx.bl;rw [h.get,uvs_ci]
def stP (i:Int) (s:List Int×Bool) (x:Int):List Int×Bool:=if i<x/\s.2=false then (s.1++ [i]++ [x],true) else (s.1++ [x],s.2)
def finP (i:Int) (s:List Int×Bool):List Int:=if s.2 then s.1 else s.1++ [i]
def pIns (l:List Int) (i:Int):List Int:=finP i (l.foldl (stP i) ([],false))
def insA (i:Int) (p:List Int):List Int×Bool:=if p.any (fun x=>decide (i<x)) then (p.filter (fun x=>decide (x<i))++i::p.filter (fun x=>decide (i<x)),true) else (p,false)
theorem fold_ins {i : Int} {l : List Int} (h : l.Pairwise (· < ·)) (hi : i ∉ l) : ∀ n, n <= l.length -> (l.take n).foldl (stP i) ([], false) = insA i (l.take n)
  | 0,_=>by simp [insA]
  | n + 1, hn => by
    have hlt:n<l.length:=hn
    have hs:(l.take n++ [l[n]]).Pairwise (· < ·):=by
      rw [←List.take_succ_eq_append_getElem hlt];exact h.sublist (List.take_sublist _ _)
    have hm: ∀y∈l.take n,y<l[n]:=fun y hy=>(List.pairwise_append.1 hs).2.2 y hy _ (by simp)
    have hne: ∀y∈l.take n,y≠i:=fun y hy e=>hi (e▸List.mem_of_mem_take hy)
    have hxe:l[n]≠i:=fun e=>hi (e▸List.getElem_mem hlt)
    rw [List.take_succ_eq_append_getElem hlt,List.foldl_append,fold_ins h hi n (by omega)]
    simp only [List.foldl_cons,List.foldl_nil]
    generalize l[n]=x at *
    generalize l.take n=p at *
    unfold insA
    by_cases ha:p.any (fun x=>decide (i<x))=true
    · obtain ⟨y,hy,hy2⟩:=List.any_eq_true.1 ha
      have h1:i<x:=Int.lt_trans (of_decide_eq_true hy2) (hm y hy)
      have h2: ¬x<i:=by omega
      rw [if_pos ha,if_pos (by simp [List.any_append,ha])]
      unfold stP
      rw [if_neg (by simp)]
      simp [List.filter_append,h1,h2]
    · have hall: ∀y∈p,y<i:=fun y hy=>by
        have: ¬i<y:=fun q=>ha (List.any_eq_true.2 ⟨y,hy,decide_eq_true q⟩)
        have:=hne y hy
        omega
      have f1:p.filter (fun x=>decide (x<i))=p:=List.filter_eq_self.2 fun y hy=>decide_eq_true (hall y hy)
      have f2:p.filter (fun x=>decide (i<x))= []:=List.filter_eq_nil_iff.2 fun y hy=>by have:=hall y hy;simp;omega
      rw [if_neg ha]
      unfold stP
      by_cases hx:i<x
      · rw [if_pos ⟨hx,rfl⟩,if_pos (by simp [List.any_append,hx])]
        simp [List.filter_append,f1,f2,hx,show ¬x<i by omega]
      · rw [if_neg (by simp [hx]),if_neg (by simp only [List.any_append,List.any_cons,List.any_nil,Bool.or_false,Bool.or_eq_true,not_or];exact ⟨ha,by simp;omega⟩)]
theorem pIns_eq {i:Int} {l:List Int} (h:l.Pairwise (· < ·)) (hi:i∉l):pIns l i=l.filter (fun x=>decide (x<i))++i::l.filter (fun x=>decide (i<x)):=by
  have:=fold_ins h hi l.length (Nat.le_refl _)
  rw [List.take_length] at this
  unfold pIns
  rw [this]
  unfold insA
  by_cases ha:l.any (fun x=>decide (i<x))=true
  · rw [if_pos ha];rfl
  · have hall: ∀y∈l,y<i:=fun y hy=>by
      have h1: ¬i<y:=fun q=>ha (List.any_eq_true.2 ⟨y,hy,decide_eq_true q⟩)
      have h2:y≠i:=fun e=>hi (e▸hy)
      omega
    rw [if_neg ha,List.filter_eq_self.2 fun y hy=>decide_eq_true (hall y hy),List.filter_eq_nil_iff.2 fun y hy=>by have:=hall y hy;simp;omega]
    rfl
theorem pIns_rise {i : Int} {l : List Int} (h : l.Pairwise (· < ·)) (hi : i ∉ l) : (pIns l i).Pairwise (· < ·) /\ ∀ v, v ∈ pIns l i ↔ v ∈ l ∨ v = i := by
  rw [pIns_eq h hi]
  refine ⟨?_,fun v=> ?_⟩
  · rw [List.pairwise_append,List.pairwise_cons]
    refine ⟨h.filter _,⟨fun b hb=>of_decide_eq_true (List.mem_filter.1 hb).2,h.filter _⟩,fun a ha b hb=> ?_⟩
    have h1:=of_decide_eq_true (List.mem_filter.1 ha).2
    rcases List.mem_cons.1 hb with e | hb
    · omega
    · have h2:=of_decide_eq_true (List.mem_filter.1 hb).2;omega
  · rw [List.mem_append, List.mem_cons, List.mem_filter, List.mem_filter]
    simp only [decide_eq_true_eq]
    constructor
    · rintro (q | q | q)
      · exact .inl q.1
      · exact .inr q
      · exact .inl q.1
    · rintro (q | q)
      · have:v≠i:=fun e=>hi (e▸q)
        rcases Int.lt_or_gt_of_ne this with r | r
        · exact .inl ⟨q,r⟩
        · exact .inr (.inr ⟨q,r⟩)
      · exact .inr (.inl q)
def stW (w:Int) (s x:Int):Int:=if x/64=w then IntKind.u64.wrap (s+2^(x%64).toNat) else s
def pWord (l:List Int) (w:Int):Int:=l.foldl (stW w) 0
theorem wsum (X : Nat) (hX : X < 2 ^ 64) : ∀ n, n <= 64 -> ((List.range n).filter fun b => X.testBit b).foldl (fun s b => IntKind.u64.wrap (s + 2 ^ b)) (0 : Int) = ((X % 2 ^ n : Nat) : Int)
  | 0,_=>by simp [Nat.mod_one]
  | n + 1, hn => by
    rw [List.range_succ,List.filter_append,List.foldl_append,wsum X hX n (by omega)]
    have hm:=Nat.mod_pow_succ (x:=X) (b:=2) (k:=n)
    have h64:X%2^(n+1)<2^64:=Nat.lt_of_le_of_lt (Nat.mod_le ..) hX
    cases hb:X.testBit n with
    | true =>
      have h1:X/2^n%2=1:=by rw [Nat.testBit_eq_decide_div_mod_eq] at hb;exact of_decide_eq_true hb
      rw [h1,Nat.mul_one] at hm
      simp only [List.filter_cons,hb,if_true,List.filter_nil,List.foldl_cons,List.foldl_nil]
      rw [hm] at h64 ⊢
      rw [wrap_u64]
      have e:((2:Int)^n)=((2^n:Nat):Int):=by simp
      rw [e]
      generalize 2^n=q at *
      generalize X%q=r at *
      omega
    | false =>
      have h1:X/2^n%2=0:=by
        rw [Nat.testBit_eq_decide_div_mod_eq] at hb
        have:=of_decide_eq_false hb;omega
      rw [h1,Nat.mul_zero,Nat.add_zero] at hm
      simp [hb,hm]
theorem bits_sum {X:Nat} (hX:X<2^64):(bitsL X).foldl (fun s b=>IntKind.u64.wrap (s+2^b)) (0:Int)=((X:Nat):Int):=by
  have:=wsum X hX 64 (Nat.le_refl _)
  rw [Nat.mod_eq_of_lt hX] at this
  exact this
theorem pWord_wd {K : MK} (I : WdK K) {l : List Int} {m : KV} {c : Nat} (h : SpS K l m c) (hl : l.Pairwise (· < ·)) (w : Int) : pWord l w = wd m w := by
  have hW:=wd_W I h.ok w
  unfold W at hW
  have hB:(l.filter fun x=>decide (x/64=w)).map (fun x=>(x%64).toNat)=bitsL (wd m w).toNat:=by
    refine rise_eq ?_ (bitsL_rise _) fun v=> ?_
    · rw [List.pairwise_map]
      refine List.Pairwise.imp_of_mem (fun {a b} ha hb hab=> ?_) (hl.filter _)
      have h1:=of_decide_eq_true (List.mem_filter.1 ha).2
      have h2:=of_decide_eq_true (List.mem_filter.1 hb).2
      omega
    · rw [bitsL_mem,List.mem_map]
      constructor
      · rintro ⟨x,hx,rfl⟩
        have h1:=of_decide_eq_true (List.mem_filter.1 hx).2
        exact ⟨by omega,(h.bit w _ (by omega)).2 ⟨x,(List.mem_filter.1 hx).1,h1,rfl⟩⟩
      · rintro ⟨h1,h2⟩
        obtain ⟨x,hx,h3,h4⟩:=(h.bit w v h1).1 h2
        exact ⟨x,List.mem_filter.2 ⟨hx,decide_eq_true h3⟩,h4⟩
  have e:pWord l w=((l.filter fun x=>decide (x/64=w)).map (fun x=>(x%64).toNat)).foldl (fun s b=>IntKind.u64.wrap (s+2^b)) (0:Int):=by
    rw [List.foldl_map,List.foldl_filter]
    unfold pWord
    congr 1
    funext s x
    unfold stW
    by_cases q:x/64=w
    · rw [if_pos q,if_pos (decide_eq_true q)]
    · rw [if_neg q,if_neg (by simp [q])]
  rw [e,hB,bits_sum (by omega)]
  omega
def dg4 (x:Int):List Int:= [x/256/256/256%256,x/256/256%256,x/256%256,x%256]
def dg8 (x:Int):List Int:= [x/256/256/256/256/256/256/256%256,x/256/256/256/256/256/256%256,x/256/256/256/256/256%256,x/256/256/256/256%256]++dg4 x
theorem fb {x:Int} (h:0<=x) (q:Int) (hq:0<=q):IntKind.u8.wrap (Int.fdiv x q)=x/q%256:=by
  rw [Int.fdiv_eq_ediv_of_nonneg _ hq];rfl
theorem nb4_dg {x:Int} (h:W x):nb4 x=dg4 x:=by
  unfold W at h
  unfold nb4 dg4
  simp only [Int.reducePow]
  rw [fb h.1 16777216 (by decide),fb h.1 65536 (by decide),fb h.1 256 (by decide),fb h.1 1 (by decide)]
  have e1:x/16777216%256=x/256/256/256%256:=by omega
  have e2:x/65536%256=x/256/256%256:=by omega
  have e3:x/1%256=x%256:=by omega
  rw [e1,e2,e3]
theorem nb8_dg {x:Int} (h:W x):nb8 x=dg8 x:=by
  have h4:=nb4_dg h
  unfold W at h
  unfold dg8
  rw [←h4]
  unfold nb8 nb4
  simp only [Int.reducePow]
  rw [fb h.1 72057594037927936 (by decide),fb h.1 281474976710656 (by decide),fb h.1 1099511627776 (by decide),fb h.1 4294967296 (by decide)]
  have e1:x/72057594037927936%256=x/256/256/256/256/256/256/256%256:=by omega
  have e2:x/281474976710656%256=x/256/256/256/256/256/256%256:=by omega
  have e3:x/1099511627776%256=x/256/256/256/256/256%256:=by omega
  have e4:x/4294967296%256=x/256/256/256/256%256:=by omega
  rw [e1,e2,e3,e4];rfl
def stX (Wf:Int->Int) (s:List Int×Option Int) (x:Int):List Int×Option Int:=(if s.2=some (x/64) then s.1 else s.1++(dg4 (x/64)++dg8 (Wf (x/64))),some (x/64))
def textL (l:List Int):List Int:=(l.foldl (stX (pWord l)) ([],none)).1
theorem group_fold (Wf:Int->Int) {w:Int}: ∀ (g:List Int) (acc:List Int),(∀x∈g,x/64=w)->g.foldl (stX Wf) (acc,some w)=(acc,some w)
  | [],acc,_=>rfl
  | x :: g, acc, h => by
    have hx:=h x (List.mem_cons_self ..)
    rw [List.foldl_cons]
    unfold stX
    rw [hx,if_pos rfl]
    exact group_fold Wf g acc fun y hy=>h y (List.mem_cons_of_mem _ hy)
theorem text_fold {m : KV} (Wf : Int -> Int) : ∀ {ks : List Value}, Rise ks -> (∀ k ∈ ks, numsW m k ≠ [] /\ dg4 (ci k) ++ dg8 (Wf (ci k)) = wordB m k) -> ∀ (acc : List Int) (pv : Option Int), (∀ k ∈ ks, pv ≠ some (ci k)) -> ((numsK m ks).foldl (stX Wf) (acc, pv)).1 = acc ++ wordsB m ks
  | [],_,_,acc,pv,_=>by simp [numsK,wordsB]
  | k :: ks, hr, hk, acc, pv, hp => by
    unfold Rise at hr
    rw [List.pairwise_cons] at hr
    show ((numsW m k++numsK m ks).foldl (stX Wf) (acc,pv)).1=acc++(wordB m k++wordsB m ks)
    rw [List.foldl_append]
    obtain ⟨h1,h2⟩:=hk k (List.mem_cons_self ..)
    have hg: ∀x∈numsW m k,x/64=ci k:=by
      intro x hx
      unfold numsW at hx
      obtain ⟨b,hb,rfl⟩:=List.mem_map.1 hx
      have:=(bitsL_mem.1 hb).1
      omega
    cases hN:numsW m k with
    | nil=>exact absurd hN h1
    | cons x g =>
      rw [hN] at hg
      have hx:=hg x (List.mem_cons_self ..)
      rw [List.foldl_cons]
      have e:stX Wf (acc,pv) x=(acc++wordB m k,some (ci k)):=by
        unfold stX
        rw [hx,if_neg (hp k (List.mem_cons_self ..)),h2]
      rw [e,group_fold Wf g _ fun y hy=>hg y (List.mem_cons_of_mem _ hy),text_fold Wf hr.2 (fun q hq=>hk q (List.mem_cons_of_mem _ hq)) _ _ (fun q hq e=> ?_),List.append_assoc]
      injection e with e
      have:=hr.1 q hq
      omega
def strL (l:List Int):ByteArray:=strOf (bv l)
theorem strL_eq (l:List Int):strL l=l.foldl (fun r n=>r.push (UInt8.ofNat n.toNat)) ByteArray.empty:=by unfold strL strOf;rw [bv_ci]
theorem push_data (l:List Int): ∀ (b:ByteArray),(l.foldl (fun r n=>r.push (UInt8.ofNat n.toNat)) b).data=b.data++(l.map fun n=>UInt8.ofNat n.toNat).toArray:=by
  induction l with
  | nil=>intro b;simp
  | cons a l ih =>
    intro b
    rw [List.foldl_cons,ih]
    show (b.data.push _)++_=_
    apply Array.ext'
    simp
theorem strL_data (l:List Int):(strL l).data=(l.map fun n=>UInt8.ofNat n.toNat).toArray:=by rw [strL_eq,push_data];show #[]++_=_;simp
theorem strL_app (a b:List Int):strL a++strL b=strL (a++b):=by
  apply ByteArray.ext
  rw [ByteArray.data_append,strL_data,strL_data,strL_data]
  simp
theorem strL_size (l:List Int):(strL l).size=l.length:=by
  show (strL l).data.size=_
  rw [strL_data];simp
theorem xstrN {P:Program} {src dst e:TypeId} (hs:P.underlying src=some (.slice e)) (he:P.underlying e=some (.int .u8)) (hd:P.underlying dst=some .string) (b:Nat) (l:List Int) (te:TypeId):
    OpT P (do pure (.value (←convert src dst (.slice (some ⟨b,0,none⟩) l.length l.length)))) [.blk b (.cells (bv l).toArray te (0,0))] Unit (fun _=> .string (strL l)) (fun _=> [.blk b (.cells (bv l).toArray te (0,0))]) (fun _=>True):=by
  have h:=xstr hs he hd (.mk b (bv l) []) te (bok_lit b l [])
  rw [rvals_eq] at h
  simp only [sv,ss,vals,List.append_nil,bv,List.length_map,List.length_nil,Nat.add_zero] at h
  exact h
def strV:Value->ByteArray | .string a=>a | _=>ByteArray.empty
def f_cat:List Value->Value:=fun vs=> .string (strV (varg vs 0)++strV (varg vs 1))
theorem xstrcat {P:Program} {t:TypeId} (a b:ByteArray) (h:a.size+b.size<=1000000):PureRun P (xBin .add t (.string a) (.string b)) (.string (a++b)):=by
  intro w
  have hs: ¬ ((a.size+b.size:Nat):Int)>IntKind.i64.max:=by
    have:IntKind.i64.max=9223372036854775807:=rfl
    omega
  simp only [xBin,eqGuard,binOp,Op.stringOp,hs,if_false]
  rfl
def F_strN:List Value->List Slot->Ctr:=fun _ hs=>⟨Unit,fun _=> .string (strL [ci (scell (sarg hs 0) 0)]),fun _=>hs,fun _=>True⟩
theorem strL_nil:(⟨#[]⟩:ByteArray)=strL []:=rfl
theorem scat4 (a b c d:Int):strL [a]++(strL [b]++(strL [c]++(strL [d]++(⟨#[]⟩:ByteArray))))=strL [a,b,c,d]:=by
  rw [strL_nil];simp only [strL_app];rfl
theorem scat8 (a b c d e f g h:Int):strL [a]++(strL [b]++(strL [c]++(strL [d]++(strL [e]++(strL [f]++(strL [g]++(strL [h]++(⟨#[]⟩:ByteArray))))))))=strL [a,b,c,d,e,f,g,h]:=by
  rw [strL_nil];simp only [strL_app];rfl
theorem dg4_len (x:Int):(dg4 x).length=4:=rfl
theorem dg8_len (x:Int):(dg8 x).length=8:=rfl
theorem rem256 {x:Int} (h:W x):IntKind.u8.wrap (Int.tmod x 256)=x%256:=by
  unfold W at h
  rw [Int.tmod_eq_emod_of_nonneg h.1]
  show x%256%256=x%256
  omega
theorem quo256 {x:Int} (h:W x):IntKind.u64.wrap (Int.tdiv x 256)=x/256:=by
  unfold W at h
  rw [Int.tdiv_eq_ediv_of_nonneg h.1,wrap_u64];omega
theorem W_d256 {x:Int} (h:W x):W (x/256):=by unfold W at *;omega
theorem pWord_W (l:List Int) (w:Int):W (pWord l w):=by
  unfold pWord
  have: ∀ (l:List Int) (s:Int),W s->W (l.foldl (stW w) s):=by
    intro l
    induction l with
    | nil=>exact fun s h=>h
    | cons x l ih =>
      intro s h
      rw [List.foldl_cons]
      refine ih _ ?_
      unfold stW
      split
      · rw [wrap_u64];unfold W;omega
      · exact h
  exact this l 0 ⟨by decide,by decide⟩
def PutB (m:KV) (v:Value) (i:Int) (x:KV×Value×Bool):Prop:=x.2.2= !decide (i∈bl m v)/\InBag x.1 x.2.1 (uvs (if i∈bl m v then bl m v else pIns (bl m v) i))/\ ∀v' k',InBag m v' k' ->InBag x.1 v' k'
theorem emp_size:(⟨#[]⟩:ByteArray).size=0:=rfl
end Go.Sx
namespace Go.Sx
open Go.RowKit
abbrev A3:=Int×Int×Int
abbrev aV (x:A3) (n:Int):Value:= .agg #[.int .u8 x.1, .int .i64 x.2.1, .int .i64 x.2.2, .int .i64 n]
abbrev A4:=Int×Int×Int×Int
structure SB (K:MK) (ent:KV->Value->Ent) (hs:List KV) (L:List Ent) (m:KV):Prop where
  jr:Jr K ent hs L m
  ok:KOK K m
  zero: ∃h0,(hs++ [m])[0]? =some h0/\EqM h0 []
theorem SB.start {K:MK} {ent:KV->Value->Ent}:SB K ent [] [] []:=⟨Jr.nil [],KOK.nil,[],rfl,EqM.refl _⟩
theorem SB.back {K:MK} {ent:KV->Value->Ent} {b:Nat} (E:EntOK b ent) {hs:List KV} {L:List Ent} {m:KV} (h:SB K ent hs L m) {n:Nat} (hn:n<=L.length) {h0:KV} (h1:(hs++ [m])[n]? =some h0):
    SB K ent (hs.take n) (L.take n) (undoB b (L.drop n) m)/\EqM (undoB b (L.drop n) m) h0:=by
  obtain ⟨k1,k2,k3⟩:=h.jr.back E h.ok hn h1
  refine ⟨⟨k3,k1,?_⟩,k2⟩
  obtain ⟨z,z1,z2⟩:=h.zero
  cases n with
  | zero =>
    rw [z1] at h1
    injection h1 with h1
    exact ⟨_,by simp,k2.trans (h1▸z2)⟩
  | succ n =>
    refine ⟨z,?_,z2⟩
    have hl:0<hs.length:=by rw [h.jr.1];omega
    rw [List.getElem?_append_left (by simp only [List.length_take];omega)]
    rw [List.getElem?_append_left hl] at z1
    rw [List.getElem?_take_of_lt (Nat.succ_pos n)]
    exact z1
end Go.Sx
set_option linter.unusedVariables false
set_option linter.unusedSimpArgs false
namespace Go.Sx
open Go.RowKit
abbrev KBg (k:Nat) (m:KV):= {rs:List (RK k)//bagKV (rs.map (·.1))=m/\MOK m/\ ∀r∈rs,r.1≠ .nil}
abbrev Slc:=Option Addr×Nat×Nat
abbrev slV (x:Slc):Value:= .slice x.1 x.2.1 x.2.2
theorem undo_eqM {a b:KV} (e:Ent) (h:EqM a b) (ha:MOK a) (hb:MOK b):EqM (e.undo a) (e.undo b):=fun k=>by rw [mget_undo ha,mget_undo hb,h k]
theorem undoB_eqM (b:Nat): ∀ (E:List Ent) {x y:KV},EqM x y->MOK x->MOK y->EqM (undoB b E x) (undoB b E y)/\MOK (undoB b E x)/\MOK (undoB b E y)
  | [],x,y,h,hx,hy=>⟨h,hx,hy⟩
  | e :: E, x, y, h, hx, hy => by
    obtain ⟨h1,h2,h3⟩:=undoB_eqM b E h hx hy
    show EqM (if b=e.b then e.undo (undoB b E x) else undoB b E x) (if b=e.b then e.undo (undoB b E y) else undoB b E y)/\MOK (if b=e.b then e.undo (undoB b E x) else undoB b E x)/\MOK (if b=e.b then e.undo (undoB b E y) else undoB b E y)
    by_cases q:b=e.b
    · rw [if_pos q,if_pos q];exact ⟨undo_eqM e h1 h2 h3,undo_mok h2,undo_mok h3⟩
    · rw [if_neg q,if_neg q];exact ⟨h1,h2,h3⟩
theorem undoB_app (b:Nat) (E F:List Ent) (m:KV):undoB b (E++F) m=undoB b E (undoB b F m):=by unfold undoB;rw [List.foldr_append]
structure Hist (b:Nat) (hs:List KV) (L:List Ent) (m:KV):Prop where
  len:hs.length=L.length
  und: ∀n h0,(hs++ [m])[n]? =some h0->Und b h0 m (L.drop n)
  ok:MOK m
theorem Hist.start (b:Nat) {m:KV} (h:MOK m):Hist b [] [] m:=⟨rfl,fun n h0 hn=>by
  cases n with
  | zero=>simp at hn;subst hn;exact Und.nil b _
  | succ n=>simp at hn,h⟩
theorem Hist.push {b:Nat} {hs:List KV} {L:List Ent} {m m' :KV} (h:Hist b hs L m) {e:Ent} (hm:MOK m') (hu: ∀h0 E,Und b h0 m E->Und b h0 m' (E++ [e])):Hist b (hs++ [m]) (L++ [e]) m' :=by
  refine ⟨by simp [h.len],fun n h0 hn=> ?_,hm⟩
  rcases Nat.lt_or_ge n (L.length+1) with q | q
  · rw [List.getElem?_append_left (by simp [h.len];omega)] at hn
    rw [List.drop_append_of_le_length (by omega)]
    exact hu _ _ (h.und n h0 hn)
  · have e1:n=(hs++ [m]).length:=by
      have:=(List.getElem?_eq_some_iff.1 hn).1
      simp [h.len] at this ⊢;omega
    subst e1
    rw [List.getElem?_append_right (Nat.le_refl _)] at hn
    simp at hn;subst hn
    rw [List.drop_eq_nil_of_le (by simp [h.len])]
    exact Und.nil b _
theorem Hist.other {b:Nat} {hs:List KV} {L:List Ent} {m:KV} (h:Hist b hs L m) {e:Ent} (hb:e.b≠b):Hist b (hs++ [m]) (L++ [e]) m:=h.push h.ok fun _ _ u=>u.other hb
theorem Hist.back {b:Nat} {hs:List KV} {L:List Ent} {m:KV} (h:Hist b hs L m) {n:Nat} {h0:KV} (hn:n<=L.length) (h1:(hs++ [m])[n]? =some h0):Hist b (hs.take n) (L.take n) (undoB b (L.drop n) m)/\EqM (undoB b (L.drop n) m) h0:=by
  obtain ⟨a1,a2⟩:=h.und n h0 h1 m h.ok (EqM.refl m)
  refine ⟨⟨by simp [h.len],fun j hj hjn=> ?_,a1⟩,a2⟩
  have hl:=h.len
  have hjl:j<(hs.take n).length+1:=by
    have:=(List.getElem?_eq_some_iff.1 hjn).1
    simpa using this
  rw [List.length_take] at hjl
  rcases Nat.lt_or_ge j n with q | q
  · rw [List.getElem?_append_left (by rw [List.length_take];omega),List.getElem?_take_of_lt q] at hjn
    have hj0:(hs++ [m])[j]? =some hj:=by rw [List.getElem?_append_left (by omega)];exact hjn
    have u:=h.und j hj hj0
    have e1:L.drop j=(L.take n).drop j++L.drop n:=by
      conv=>lhs;rw [←List.take_append_drop n L]
      rw [List.drop_append_of_le_length (by rw [List.length_take];omega)]
    intro m2 hm2 e2
    obtain ⟨b1,b2⟩:=u m h.ok (EqM.refl m)
    rw [e1,undoB_app] at b1 b2
    obtain ⟨c1,c2,_⟩:=undoB_eqM b ((L.take n).drop j) e2 hm2 a1
    exact ⟨c2,c1.trans b2⟩
  · have ej:j=(hs.take n).length:=by rw [List.length_take];omega
    rw [ej,List.getElem?_append_right (Nat.le_refl _)] at hjn
    simp at hjn;subst hjn
    have e3:(L.take n).drop j= []:=List.drop_eq_nil_of_le (by rw [List.length_take];omega)
    rw [e3]
    exact Und.nil b _
end Go.Sx
namespace Go.Sx
open Go.RowKit
end Go.Sx
namespace Go.Sx
open Go.RowKit
abbrev BT:=(Nat->Int)×Bool
def bV (x:BT):Value:= .agg #[.int .u32 (x.1 0), .int .u64 (x.1 1), .int .u64 (x.1 2),
  .int .u8 (x.1 3), .int .u8 (x.1 4), .int .u8 (x.1 5), .int .u8 (x.1 6), .int .u8 (x.1 7), .int .u8 (x.1 8), .int .u8 (x.1 9), .int .u8 (x.1 10),
  .int .u8 (x.1 11), .int .u8 (x.1 12), .int .u8 (x.1 13), .int .u8 (x.1 14), .int .u8 (x.1 15), .int .u8 (x.1 16), .int .u8 (x.1 17), .int .u8 (x.1 18),
  .int .u8 (x.1 19), .int .u8 (x.1 20), .int .u8 (x.1 21), .int .u8 (x.1 22), .int .u8 (x.1 23), .int .u8 (x.1 24), .int .u8 (x.1 25), .int .u8 (x.1 26),
  .int .u8 (x.1 27), .int .u8 (x.1 28), .int .u8 (x.1 29), .int .u8 (x.1 30), .int .u8 (x.1 31), .int .u8 (x.1 32), .int .u8 (x.1 33), .int .u8 (x.1 34),
  .int .u8 (x.1 35), .int .u64 (x.1 36), .int .u64 (x.1 37), .int .u64 (x.1 38), .int .u64 (x.1 39), .int .u64 (x.1 40), .bool x.2]
def fnL (l:List Int):Nat->Int:=fun i=>l.getD i 0
structure okB (x:BT):Prop where
  n:(Lit.int .u32 (x.1 0)).wf=true
  fr:(Lit.int .u64 (x.1 1)).wf=true
  to:(Lit.int .u64 (x.1 2)).wf=true
  bl:(Lit.int .u64 (x.1 40)).wf=true
  rest: ∀i,41<=i->x.1 i=0
theorem fnL_rest {l:List Int} (h:l.length=41) (i:Nat) (hi:41<=i):fnL l i=0:=by unfold fnL;rw [List.getD_eq_getElem?_getD,List.getElem?_eq_none (by omega)];rfl
def b0:BT:=(fun _=>0,false)
theorem okB0:okB b0:=⟨rfl,rfl,rfl,rfl,fun _ _=>rfl⟩
def cAt (v:Value) (i:Nat):Int:=ci (cell v i)
def unB (v:Value):BT:=(fun i=>bif Nat.blt i 41 then cAt v i else 0,cb (cell v 41))
theorem bV_un (x:BT):bV (unB (bV x))=bV x:=rfl
theorem bV_i {x y:BT} (h:bV x=bV y) (i:Nat) (hi:i<41):x.1 i=y.1 i:=by
  have h1:=congrArg (fun v=>cAt v i) h
  have: ∀z:BT,cAt (bV z) i=z.1 i:=by
    intro z
    have hi' :i=0∨i=1∨i=2∨i=3∨i=4∨i=5∨i=6∨i=7∨i=8∨i=9∨i=10∨i=11∨i=12∨i=13∨i=14∨i=15∨i=16∨i=17∨i=18∨i=19∨i=20∨i=21∨i=22∨i=23∨i=24∨i=25∨i=26∨i=27∨i=28∨i=29∨i=30∨i=31∨i=32∨i=33∨i=34∨i=35∨i=36∨i=37∨i=38∨i=39∨i=40:=by omega
    rcases hi' with rfl | rfl | rfl | rfl | rfl | rfl | rfl | rfl | rfl | rfl | rfl | rfl | rfl | rfl | rfl | rfl | rfl | rfl | rfl | rfl | rfl | rfl | rfl | rfl | rfl | rfl | rfl | rfl | rfl | rfl | rfl | rfl | rfl | rfl | rfl | rfl | rfl | rfl | rfl | rfl | rfl<;>rfl
  rw [←this x,←this y];exact h1
theorem unB_bV {x:BT} (h:okB x):unB (bV x)=x:=by
  refine Prod.ext (funext fun i=> ?_) rfl
  rcases Nat.lt_or_ge i 41 with q | q
  · exact bV_i (bV_un x) i q
  · show (bif Nat.blt i 41 then cAt (bV x) i else 0)=x.1 i
    have:Nat.blt i 41=false:=by
      cases h:Nat.blt i 41 with
      | false=>rfl
      | true=>rw [Nat.blt_eq] at h;omega
    rw [this,h.rest i q];rfl
theorem bV_inj {x y:BT} (hx:okB x) (hy:okB y) (h:bV x=bV y):x=y:=by rw [←unB_bV hx,h,unB_bV hy]
theorem bV_Ag (x:BT):Ag 42 (bV x):=⟨_,rfl,rfl⟩
end Go.Sx
namespace Go.Sx
open Go.RowKit
structure BTy (P:Program) (t:TypeId) (e32 e64 eh e8 ei eb:TypeId):Prop where
  und:P.underlying t=some (.struct (P.fieldsOf t))
  plain:P.stoodInHeld t=false
  guard:P.eqGuardType P.depth t=false
  fs : ∃ f0 f1 f2 f3 f4 f5 f6 f7, (P.fieldsOf t).toList = [f0, f1, f2, f3, f4, f5, f6, f7] /\ (f0.name ≠ "_" /\ f1.name ≠ "_" /\ f2.name ≠ "_" /\ f3.name ≠ "_" /\ f4.name ≠ "_" /\ f5.name ≠ "_" /\ f6.name ≠ "_" /\ f7.name ≠ "_") /\
    (f0.type=e32/\f1.type=e64/\f2.type=e64/\f3.type=eh/\f4.type=e8/\f5.type=ei/\f6.type=e64/\f7.type=eb)/\(f0.offset=0/\f1.offset=1/\f2.offset=2/\f3.offset=3/\f4.offset=35/\f5.offset=36/\f6.offset=40/\f7.offset=41)
  u32:P.underlying e32=some (.int .u32)
  u64:P.underlying e64=some (.int .u64)
  u8:P.underlying e8=some (.int .u8)
  uh:P.underlying eh=some (.array 32 e8)
  ui:P.underlying ei=some (.array 4 e64)
  ub:P.underlying eb=some .bool
  a32: ∀w,(isAgg e32).run P w= .ok false w
  a64: ∀w,(isAgg e64).run P w= .ok false w
  a8: ∀w,(isAgg e8).run P w= .ok false w
  ab: ∀w,(isAgg eb).run P w= .ok false w
  ah: ∀w,(isAgg eh).run P w= .ok true w
  ai: ∀w,(isAgg ei).run P w= .ok true w
  s64: ∀w,(sizeOf e64).run P w= .ok 1 w
  s8: ∀w,(sizeOf e8).run P w= .ok 1 w
  sh: ∀w,(sizeOf eh).run P w= .ok 32 w
  si: ∀w,(sizeOf ei).run P w= .ok 4 w
end Go.Sx
namespace Go.Sx
open Go.RowKit
open Classical in
noncomputable def srt (kk:IntKind) (m:KV):List Value:=if h: ∃ks,KeysOf kk m ks then h.choose else []
theorem srt_eq {kk:IntKind} {m:KV} (hm:MOK m) {ks:List Value} (h:KeysOf kk m ks):srt kk m=ks:=by
  unfold srt
  have hx: ∃ks,KeysOf kk m ks:=⟨ks,h⟩
  rw [dif_pos hx]
  exact keys_eq hm hm (EqM.refl _) hx.choose_spec h
noncomputable def allB (m:KV):List BT:=(srt .u32 m).map fun k=>unB ((mget m k).getD (bV b0))
noncomputable def lastB (m:KV):BT:=(allB m).getLastD b0
def openB (w b a:Int):Bool:=decide (a<b+w)
structure KB (K:MK):Prop where
  k: ∀v,K.OkK v-> ∃n:Int,v= .int .u32 n
  k' : ∀n:Int,K.OkK (.int .u32 n)
  v: ∀x,K.OkV x-> ∃y,okB y/\x=bV y
  v' : ∀y,okB y->K.OkV (bV y)
theorem KB.int {K:MK} (B:KB K) {m:KV} (h:KOK K m):IntKeys .u32 m:=⟨fun v hv=>by
  obtain ⟨e,he,rfl⟩:=List.mem_map.1 hv
  exact B.k _ (h.ok e he).1,h.once⟩
theorem KB.get {K:MK} (B:KB K) {m:KV} (h:KOK K m) (k:Value): ∃y,okB y/\(mget m k).getD (bV b0)=bV y:=B.v _ (kok_val h (B.v' _ okB0) k)
theorem KB.un {K:MK} (B:KB K) {m:KV} (h:KOK K m) (k:Value):bV (unB ((mget m k).getD (bV b0)))=(mget m k).getD (bV b0)/\okB (unB ((mget m k).getD (bV b0))):=by
  obtain ⟨y,hy,e⟩:=B.get h k
  rw [e,unB_bV hy];exact ⟨rfl,hy⟩
theorem allB_ok {K:MK} (B:KB K) {m:KV} (h:KOK K m): ∀b∈allB m,okB b:=by
  intro b hb
  obtain ⟨k,_,rfl⟩:=List.mem_map.1 hb
  exact (B.un h k).2
theorem lastB_ok {K:MK} (B:KB K) {m:KV} (h:KOK K m):okB (lastB m):=by
  unfold lastB
  cases hl:(allB m).getLast? with
  | none=>rw [List.getLastD_eq_getLast?,hl];exact okB0
  | some b=>rw [List.getLastD_eq_getLast?,hl];exact allB_ok B h b (List.mem_of_getLast? hl)
noncomputable def postB (m p:KV) (to:Int) (r:Nat->Int) (poster:Int) (h:Nat->Int) (block:Int):(BT×Int)×KV×KV:=
  if 16<=poster∨1099511627776<block then ((b0,1),m,p)
  else if to<(lastB m).1 2∨block<(lastB m).1 40 then ((b0,11),m,p)
  else if ci ((mget p (.int .u8 0)).getD (.int .u32 0))=4294967295 then ((b0,7),m,p)
  else
    let n:=ci ((mget p (.int .u8 0)).getD (.int .u32 0))
    let b:BT:=(fnL [n,(lastB m).1 2,to,r 0,r 1,r 2,r 3,r 4,r 5,r 6,r 7,r 8,r 9,r 10,r 11,r 12,r 13,r 14,r 15,r 16,r 17,r 18,r 19,r 20,r 21,r 22,r 23,r 24,r 25,r 26,r 27,r 28,r 29,r 30,r 31,poster,h 0,h 1,h 2,h 3,block],false)
    ((b,0),mset m (.int .u32 n) (bV b),mset p (.int .u8 0) (.int .u32 (n+1)))
noncomputable def finB (m:KV) (w a:Int):(BT×Int)×KV:=
  match (allB m).find? fun b=> !b.2 with
  | none=>((b0,10),m)
  | some b=>if openB w (b.1 40) a then ((b0,15),m) else (((b.1,true),0),mset m (.int .u32 (b.1 0)) (bV (b.1,true)))
noncomputable def dropB (m:KV) (l:List BT):KV:=l.foldl (fun m b=>mdel m (.int .u32 (b.1 0))) m
theorem srt_one {n:Int} {v:Value}:srt .u32 [(.int .u32 n,v)]= [.int .u32 n]:=by
  have hm:MOK [(Value.int .u32 n,v)]:=by unfold MOK;simp
  exact srt_eq hm ⟨by simp,by unfold Rise;simp,fun x hx=>by simp at hx;exact ⟨n,hx⟩⟩
theorem allB_one {n:Int} {b:BT} (hb:okB b):allB [(.int .u32 n,bV b)]= [b]:=by
  unfold allB
  rw [srt_one]
  have:mget [(Value.int .u32 n,bV b)] (.int .u32 n)=some (bV b):=by rw [mget_cons,if_pos rfl]
  simp [this,unB_bV hb]
theorem allB_nil:allB []= []:=by
  unfold allB
  have:srt .u32 []= []:=srt_eq MOK.nil ⟨List.Perm.refl _,List.Pairwise.nil,fun v h=>by cases h⟩
  rw [this];rfl
theorem mset_nil (k v:Value):mset [] k v= [(k,v)]:=by
  unfold mset;simp [mget_nil]
end Go.Sx
namespace Go.Sx
open Go.RowKit
theorem wfW {n:Int} (h:(Lit.int .u64 n).wf=true):W n:=wf_W h
theorem wf32 {n:Int} (h:(Lit.int .u32 n).wf=true):0<=n/\n<=4294967295:=by
  simp only [Lit.wf,Bool.and_eq_true,decide_eq_true_eq] at h
  exact h
theorem wf32' {n:Int} (h0:0<=n) (h1:n<=4294967295):(Lit.int .u32 n).wf=true:=by
  simp only [Lit.wf,Bool.and_eq_true,decide_eq_true_eq]
  exact ⟨h0,h1⟩
theorem find_at: ∀ {l:List BT} {i:Nat} {b:BT} (_: ∀j c,j<i->l[j]? =some c->c.2=true) (_:l[i]? =some b) (_:b.2=false),l.find? (fun b=> !b.2)=some b
  | [],i,b,_,h,_=>by simp at h
  | a :: l, 0, b, _, h, hb => by
    simp at h;subst h
    simp [hb]
  | a :: l, i + 1, b, ha, h, hb => by
    have h0:a.2=true:=ha 0 a (Nat.succ_pos _) rfl
    rw [List.find?_cons]
    simp only [h0,Bool.not_true]
    exact find_at (fun j c hj hc=>ha (j+1) c (Nat.succ_lt_succ hj) (by simpa using hc)) (by simpa using h) hb
theorem find_no {l:List BT} (h: ∀j c,j<l.length->l[j]? =some c->c.2=true):l.find? (fun b=> !b.2)=none:=by
  rw [List.find?_eq_none]
  intro b hb
  obtain ⟨j,hj⟩:=List.getElem?_of_mem hb
  simp [h j b (List.getElem?_eq_some_iff.1 hj).1 hj]
theorem okB_fin {b:BT} (h:okB b) (t:Bool):okB (b.1,t):=⟨h.n,h.fr,h.to,h.bl,h.rest⟩
end Go.Sx
namespace Go.Sx
open Go.RowKit
def bP (to:Int) (r:Nat->Int) (poster:Int) (h:Nat->Int) (block:Int):BT:=(fnL [0,0,to,r 0,r 1,r 2,r 3,r 4,r 5,r 6,r 7,r 8,r 9,r 10,r 11,r 12,r 13,r 14,r 15,r 16,r 17,r 18,r 19,r 20,r 21,r 22,r 23,r 24,r 25,r 26,r 27,r 28,r 29,r 30,r 31,poster,h 0,h 1,h 2,h 3,block],false)
theorem okBP {to:Int} {r:Nat->Int} {poster:Int} {h:Nat->Int} {block:Int} (h1:(Lit.int .u64 to).wf=true) (h2:(Lit.int .u64 block).wf=true):okB (bP to r poster h block):=⟨rfl,rfl,h1,h2,fnL_rest rfl⟩
theorem lastB_none:lastB []=b0:=by unfold lastB;rw [allB_nil];rfl
theorem postB_nil {to:Int} {r:Nat->Int} {poster:Int} {h:Nat->Int} {block:Int} (h1:poster<16) (h2:block<=1099511627776) (h3:0<=to) (h4:0<=block):
    postB [] [] to r poster h block=((bP to r poster h block,0),[(.int .u32 0,bV (bP to r poster h block))],[(.int .u8 0, .int .u32 1)]):=by
  unfold postB
  rw [lastB_none,if_neg (by omega),if_neg (by show ¬ (to<0∨block<0);omega)]
  have e:ci ((mget [] (Value.int .u8 0)).getD (.int .u32 0))=0:=rfl
  rw [e,if_neg (by omega)]
  simp only [mset_nil]
  rfl
theorem kok_one {K:MK} (B:KB K) {n:Int} {b:BT} (hb:okB b):KOK K [(.int .u32 n,bV b)]:=by
  rw [←mset_nil];exact KOK.nil.set (B.k' n) (B.v' b hb)
theorem finB_one {n:Int} {b:BT} (hb:okB b) (hf:b.2=false) (hn:b.1 0=n) (w a:Int):
    finB [(.int .u32 n,bV b)] w a=if openB w (b.1 40) a then ((b0,15),[(.int .u32 n,bV b)]) else (((b.1,true),0),[(.int .u32 n,bV (b.1,true))]):=by
  have e:mset [(Value.int .u32 n,bV b)] (.int .u32 n) (bV (b.1,true))= [(.int .u32 n,bV (b.1,true))]:=by
    unfold mset;rw [mget_cons,if_pos rfl];simp
  unfold finB
  rw [allB_one hb]
  simp only [List.find?_cons,hf,Bool.not_false]
  rw [hn,e]
structure One (K:MK) (m:KV) (b:BT):Prop where
  ok:okB b
  n:b.1 0=0
  nf:b.2=false
  eq:m= [(.int .u32 0,bV b)]
  k:KOK K m
theorem One.of {K:MK} (B:KB K) {x:BT×Int} {m p:KV} {to:Int} {r:Nat->Int} {poster:Int} {h:Nat->Int} {block:Int} (h1:poster<16) (h2:block<=1099511627776) (h3:(Lit.int .u64 to).wf=true) (h4:(Lit.int .u64 block).wf=true)
    (e:(x,m,p)=postB [] [] to r poster h block):x=(bP to r poster h block,0)/\One K m (bP to r poster h block):=by
  have q3:=wf64 h3
  have q4:=wf64 h4
  rw [postB_nil h1 h2 q3.1 q4.1] at e
  injection e with e1 e2
  injection e2 with e2 e3
  subst e2
  exact ⟨e1,⟨okBP h3 h4,rfl,rfl,rfl,kok_one B (okBP h3 h4)⟩⟩
theorem One.len {K:MK} {m:KV} {b:BT} (o:One K m b):m.length<=1000:=by rw [o.eq];simp
theorem One.all {K:MK} {m:KV} {b:BT} (o:One K m b):allB m= [b]:=by rw [o.eq];exact allB_one o.ok
theorem One.fin {K:MK} {m:KV} {b:BT} (o:One K m b) (w a:Int) {x:(BT×Int)} {m' :KV} (e:(x,m')=finB m w a):(openB w (b.1 40) a=true/\x=(b0,15)/\m' =m)∨(openB w (b.1 40) a=false/\x=((b.1,true),0)/\m' = [(.int .u32 0,bV (b.1,true))]):=by
  rw [o.eq,finB_one o.ok o.nf o.n] at e
  cases ho:openB w (b.1 40) a with
  | true=>rw [ho,if_pos rfl] at e;injection e with e1 e2;exact .inl ⟨rfl,e1,by rw [e2,o.eq]⟩
  | false=>rw [ho,if_neg (by decide)] at e;injection e with e1 e2;exact .inr ⟨rfl,e1,e2⟩
end Go.Sx
namespace Go.Sx
open Go.RowKit
abbrev nk (b:BT):Value:= .int .u32 (b.1 0)
structure MB (K:MK) (m:KV) (l:List BT):Prop where
  kok:KOK K m
  ok: ∀b∈l,okB b
  up:l.Pairwise fun a b=>a.1 0<b.1 0
  get: ∀k v,mget m k=some v↔ ∃b∈l,k=nk b/\v=bV b
theorem MB.nil {K:MK}:MB K [] []:=⟨KOK.nil,(fun b h=>by cases h),List.Pairwise.nil,fun k v=>by rw [mget_nil];simp⟩
theorem MB.keys {K:MK} {m:KV} {l:List BT} (h:MB K m l):KeysOf .u32 m (l.map nk):=by
  have up:Rise (l.map nk):=by unfold Rise;rw [List.pairwise_map];exact h.up
  have nd:(l.map nk).Nodup:=up.imp fun {a b} hab e=>by rw [e] at hab;omega
  refine ⟨?_,up,fun v hv=> ?_⟩
  · refine (List.perm_ext_iff_of_nodup nd h.kok.once).2 fun k=> ?_
    constructor
    · intro hk
      obtain ⟨b,hb,rfl⟩:=List.mem_map.1 hk
      exact List.mem_map_of_mem (f:=(·.1)) (mget_mem ((h.get _ _).2 ⟨b,hb,rfl,rfl⟩))
    · intro hk
      obtain ⟨e,he,rfl⟩:=List.mem_map.1 hk
      obtain ⟨b,hb,e1,_⟩:=(h.get _ _).1 (mget_of_mem h.kok.once he)
      rw [e1];exact List.mem_map_of_mem hb
  · obtain ⟨b,_,rfl⟩:=List.mem_map.1 hv
    exact ⟨_,rfl⟩
theorem MB.at {K:MK} {m:KV} {l:List BT} (h:MB K m l) {b:BT} (hb:b∈l):mget m (nk b)=some (bV b):=(h.get _ _).2 ⟨b,hb,rfl,rfl⟩
theorem MB.all {K:MK} {m:KV} {l:List BT} (h:MB K m l):allB m=l:=by
  unfold allB
  rw [srt_eq h.kok.once h.keys,List.map_map]
  have: ∀b∈l,((fun k=>unB ((mget m k).getD (bV b0)))∘nk) b=b:=fun b hb=>by
    simp only [Function.comp]
    rw [h.at hb,Option.getD_some,unB_bV (h.ok b hb)]
  rw [List.map_congr_left this,List.map_id']
theorem MB.len {K:MK} {m:KV} {l:List BT} (h:MB K m l):m.length=l.length:=by
  have:=h.keys.len
  simpa using this.symm
theorem MB.inj {K:MK} {m:KV} {l:List BT} (h:MB K m l) {a b:BT} (ha:a∈l) (hb:b∈l) (e:a.1 0=b.1 0):a=b:=by
  have h1:=h.at ha
  have h2:=h.at hb
  rw [show nk a=nk b by unfold nk;rw [e],h2] at h1
  injection h1 with h1
  exact (bV_inj (h.ok b hb) (h.ok a ha) h1).symm
theorem MB.add {K : MK} (B : KB K) {m : KV} {l : List BT} (h : MB K m l) {b : BT} (hb : okB b) (hn : ∀ a ∈ l, a.1 0 < b.1 0) : MB K (mset m (nk b) (bV b)) (l ++ [b]) := by
  refine ⟨h.kok.set (B.k' _) (B.v' b hb),fun a ha=> ?_,?_,fun k v=> ?_⟩
  · rcases List.mem_append.1 ha with ha | ha
    · exact h.ok a ha
    · simp at ha;subst ha;exact hb
  · rw [List.pairwise_append]
    exact ⟨h.up,by simp,fun a ha c hc=>by simp at hc;subst hc;exact hn a ha⟩
  · rw [mget_set]
    by_cases e:k=nk b
    · rw [if_pos e]
      constructor
      · intro hv;injection hv with hv;exact ⟨b,by simp,e,hv.symm⟩
      · rintro ⟨c,hc,e1,rfl⟩
        rcases List.mem_append.1 hc with hc | hc
        · have:=hn c hc
          rw [e1] at e
          injection e with _ e;omega
        · simp at hc;subst hc;rfl
    · rw [if_neg e,h.get]
      constructor
      · rintro ⟨c,hc,e1,e2⟩;exact ⟨c,List.mem_append_left _ hc,e1,e2⟩
      · rintro ⟨c,hc,e1,e2⟩
        rcases List.mem_append.1 hc with hc | hc
        · exact ⟨c,hc,e1,e2⟩
        · simp at hc;subst hc;exact absurd e1 e
theorem MB.put {K : MK} (B : KB K) {m : KV} {l : List BT} (h : MB K m l) {i : Nat} {b c : BT} (hi : l[i]? = some b) (hc : okB c) (hn : c.1 0 = b.1 0) : MB K (mset m (nk b) (bV c)) (l.set i c) := by
  have hlt:=(List.getElem?_eq_some_iff.1 hi).1
  have hbm:=List.mem_of_getElem? hi
  have hk:nk c=nk b:=by unfold nk;rw [hn]
  have mem: ∀a,a∈l.set i c↔a=c∨(a∈l/\a.1 0≠b.1 0):=by
    intro a
    constructor
    · intro ha
      obtain ⟨j,hj⟩:=List.getElem?_of_mem ha
      rw [List.getElem?_set] at hj
      by_cases e:i=j
      · subst e
        rw [if_pos rfl,if_pos hlt] at hj
        injection hj with hj;exact .inl hj.symm
      · rw [if_neg e] at hj
        refine .inr ⟨List.mem_of_getElem? hj,fun e2=> ?_⟩
        obtain ⟨g1,g2⟩:=List.getElem?_eq_some_iff.1 hi
        obtain ⟨g3,g4⟩:=List.getElem?_eq_some_iff.1 hj
        rcases Nat.lt_or_gt_of_ne e with q | q
        · have:=List.pairwise_iff_getElem.1 h.up i j g1 g3 q;rw [g2,g4] at this;omega
        · have:=List.pairwise_iff_getElem.1 h.up j i g3 g1 q;rw [g2,g4] at this;omega
    · rintro (rfl | ⟨ha,hne⟩)
      · exact List.mem_iff_getElem?.2 ⟨i,by rw [List.getElem?_set,if_pos rfl,if_pos hlt]⟩
      · obtain ⟨j,hj⟩:=List.getElem?_of_mem ha
        refine List.mem_iff_getElem?.2 ⟨j,?_⟩
        rw [List.getElem?_set,if_neg (fun e=> ?_)];· exact hj
        subst e
        rw [hi] at hj;injection hj with hj;subst hj;exact hne rfl
  refine ⟨h.kok.set (B.k' _) (B.v' c hc),fun a ha=> ?_,?_,fun k v=> ?_⟩
  · rcases (mem a).1 ha with rfl | ⟨ha,_⟩
    · exact hc
    · exact h.ok a ha
  · rw [List.pairwise_iff_getElem]
    intro j k hj hk' hjk
    have hu:=List.pairwise_iff_getElem.1 h.up j k (by simpa using hj) (by simpa using hk') hjk
    obtain ⟨g1,g2⟩:=List.getElem?_eq_some_iff.1 hi
    rw [List.getElem_set,List.getElem_set]
    split
    · rename_i e;subst e
      rw [if_neg (by omega)];rw [g2] at hu;omega
    · split
      · rename_i e;subst e;rw [g2] at hu;omega
      · exact hu
  · rw [mget_set]
    by_cases e:k=nk b
    · rw [if_pos e]
      constructor
      · intro hv;injection hv with hv;exact ⟨c,(mem c).2 (.inl rfl),by rw [hk];exact e,hv.symm⟩
      · rintro ⟨a,ha,e1,rfl⟩
        rcases (mem a).1 ha with rfl | ⟨_,hne⟩
        · rfl
        · rw [e1] at e;injection e with _ e;exact absurd e hne
    · rw [if_neg e,h.get]
      constructor
      · rintro ⟨a,ha,e1,e2⟩
        exact ⟨a,(mem a).2 (.inr ⟨ha,fun e3=>e (by rw [e1];unfold nk;rw [e3])⟩),e1,e2⟩
      · rintro ⟨a,ha,e1,e2⟩
        rcases (mem a).1 ha with rfl | ⟨ha,_⟩
        · exact absurd (e1.trans hk) e
        · exact ⟨a,ha,e1,e2⟩
theorem mget_drop {m : KV} (hm : MOK m) : ∀ (g : List BT) (k : Value), mget (dropB m g) k = (if ∃ b ∈ g, k = nk b then none else mget m k) /\ MOK (dropB m g) := by
  intro g
  induction g generalizing m with
  | nil=>intro k;exact ⟨by simp [dropB],hm⟩
  | cons a g ih =>
    intro k
    have:=ih (m:=mdel m (nk a)) (hm.del _) k
    refine ⟨?_,this.2⟩
    show mget (dropB (mdel m (nk a)) g) k=_
    rw [this.1,mget_del hm]
    by_cases e:k=nk a
    · simp [e]
    · by_cases e2: ∃b∈g,k=nk b
      · rw [if_pos e2,if_pos]
        obtain ⟨b,hb,e3⟩:=e2
        exact ⟨b,List.mem_cons_of_mem _ hb,e3⟩
      · rw [if_neg e2,if_neg e,if_neg]
        rintro ⟨b,hb,e3⟩
        rcases List.mem_cons.1 hb with rfl | hb
        · exact e e3
        · exact e2 ⟨b,hb,e3⟩
theorem MB.drop {K : MK} {m : KV} {l : List BT} (h : MB K m l) (n : Int) : MB K (dropB m (l.filter fun b => !decide (b.1 0 < n))) (l.filter fun b => decide (b.1 0 < n)) := by
  have hd:=fun k=>mget_drop h.kok.once (l.filter fun b=> !decide (b.1 0<n)) k
  refine ⟨⟨(hd undef).2,fun e he=> ?_⟩,fun b hb=>h.ok b (List.mem_filter.1 hb).1,h.up.filter _,fun k v=> ?_⟩
  · have:=mget_of_mem (hd undef).2 he
    rw [(hd e.1).1] at this
    split at this
    · cases this
    · exact h.kok.ok e (mget_mem this)
  · rw [(hd k).1]
    constructor
    · intro hv
      split at hv
      · cases hv
      · rename_i hno
        obtain ⟨b,hb,e1,e2⟩:=(h.get _ _).1 hv
        refine ⟨b,List.mem_filter.2 ⟨hb,?_⟩,e1,e2⟩
        by_cases q:b.1 0<n
        · simpa using q
        · exact absurd ⟨b,List.mem_filter.2 ⟨hb,by simpa using q⟩,e1⟩ hno
    · rintro ⟨b,hb,e1,e2⟩
      obtain ⟨hb1,hb2⟩:=List.mem_filter.1 hb
      rw [if_neg]
      · exact (h.get _ _).2 ⟨b,hb1,e1,e2⟩
      · rintro ⟨c,hc,e3⟩
        obtain ⟨_,hc2⟩:=List.mem_filter.1 hc
        rw [e1] at e3
        injection e3 with _ e3
        simp at hb2 hc2;omega
end Go.Sx
namespace Go.Sx
open Go.RowKit
abbrev kp (n:Int):BT->Bool:=fun b=> !decide (b.1 0<n)
structure DF (l:List BT) (n:Int) (i j:Nat) (r:RK 42):Prop where
  ij:i<j
  jl:j<=l.length
  len:(vals r.1).length=l.length
  cnt:i=((l.take j).filter (kp n)).length
  a:(vals r.1).take i=((l.take j).filter (kp n)).map bV
  b:(vals r.1).drop j=(l.drop j).map bV
theorem DF.start {l:List BT} {n:Int} {r:RK 42} (h:vals r.1=l.map bV) {i:Nat} {b:BT} (hb:l[i]? =some b) (hp:b.1 0<n) (hn: ∀j c,j<i->l[j]? =some c-> ¬ (c.1 0<n)):DF l n i (i+1) r:=by
  have hlt:=(List.getElem?_eq_some_iff.1 hb).1
  have hf:(l.take (i+1)).filter (kp n)=l.take i:=by
    rw [List.take_add_one,hb,List.filter_append]
    have h1:(l.take i).filter (kp n)=l.take i:=List.filter_eq_self.2 fun c hc=>by
      obtain ⟨j,hj⟩:=List.getElem?_of_mem hc
      have hji:j<i:=by have:=(List.getElem?_eq_some_iff.1 hj).1;simp at this;omega
      rw [List.getElem?_take_of_lt hji] at hj
      simpa [kp] using hn j c hji hj
    rw [h1]
    simp [kp,hp]
  refine ⟨Nat.lt_succ_self i,hlt,by rw [h,List.length_map],?_,?_,?_⟩
  · rw [hf,List.length_take,Nat.min_eq_left (by omega)]
  · rw [hf,h,List.map_take]
  · rw [h,List.map_drop]
theorem DF.skip {l:List BT} {n:Int} {i j:Nat} {r:RK 42} (d:DF l n i j r) {x:BT} (hx:l[j]? =some x) (hp:x.1 0<n):DF l n i (j+1) r:=by
  have hlt:=(List.getElem?_eq_some_iff.1 hx).1
  have hf:(l.take (j+1)).filter (kp n)=(l.take j).filter (kp n):=by
    rw [List.take_add_one,hx,List.filter_append];simp [kp,hp]
  refine ⟨Nat.lt_succ_of_lt d.ij,hlt,d.len,by rw [hf];exact d.cnt,by rw [hf];exact d.a,?_⟩
  have:=congrArg (List.drop 1) d.b
  simpa [List.drop_drop] using this
def bz:Value:=bV b0
theorem bz_Ag:Ag 42 bz:=bV_Ag b0
theorem DF.done {l:List BT} {n:Int} {i j:Nat} {r:RK 42} (d:DF l n i j r) (hj:j=l.length):i<=(vals r.1).length/\vals ((r.clr i bz bz_Ag).take i).1=(l.filter (kp n)).map bV:=by
  subst hj
  have hij:=d.ij
  have hl:=d.len
  refine ⟨by omega,?_⟩
  show vals (Row.take (r.clr i bz bz_Ag).1 i)=_
  have ha:=d.a
  rw [vals_take,RK.vals_clr,List.take_append_of_le_length (by rw [List.length_take];omega),List.take_take,Nat.min_self,ha,List.take_length]
end Go.Sx
namespace Go.Sx
open Go.RowKit
def endF (fs:List (Nat->Int)):Int:=(fs.getLastD fun _=>0) 2
structure Chn (fs:List (Nat->Int)):Prop where
  fr: ∀ (i:Nat) (f:Nat->Int),fs[i]? =some f->f 1=endF (fs.take i)
  to: ∀ (i:Nat) (f:Nat->Int),fs[i]? =some f->f 1<=f 2
  bl: ∀ (i:Nat) (f g:Nat->Int),fs[i]? =some f->fs[i+1]? =some g->f 40<=g 40
theorem Chn.nil:Chn []:=⟨fun i f h=>by simp at h,fun i f h=>by simp at h,fun i f g h=>by simp at h⟩
theorem Chn.take {fs:List (Nat->Int)} (h:Chn fs) (j:Nat):Chn (fs.take j):=by
  have at_: ∀ (i:Nat) (f:Nat->Int),(fs.take j)[i]? =some f->i<j/\fs[i]? =some f:=by
    intro i f hf
    have hi:i<j:=by have:=(List.getElem?_eq_some_iff.1 hf).1;simp at this;omega
    rw [List.getElem?_take_of_lt hi] at hf
    exact ⟨hi,hf⟩
  refine ⟨fun i f hf=> ?_,fun i f hf=>h.to i f (at_ i f hf).2,fun i f g hf hg=>h.bl i f g (at_ i f hf).2 (at_ _ g hg).2⟩
  obtain ⟨hi,hf'⟩:=at_ i f hf
  rw [List.take_take,Nat.min_eq_left (by omega)]
  exact h.fr i f hf'
theorem Chn.add {fs:List (Nat->Int)} (h:Chn fs) {g:Nat->Int} (h1:g 1=endF fs) (h2:g 1<=g 2) (h3:(fs.getLastD fun _=>0) 40<=g 40):Chn (fs++ [g]):=by
  refine ⟨fun i f hf=> ?_,fun i f hf=> ?_,fun i f k hf hk=> ?_⟩
  · rcases Nat.lt_or_ge i fs.length with q | q
    · rw [List.getElem?_append_left q] at hf
      rw [List.take_append_of_le_length (by omega)];exact h.fr i f hf
    · have hi:i=fs.length:=by have:=(List.getElem?_eq_some_iff.1 hf).1;simp at this;omega
      subst hi
      simp at hf;subst hf
      rw [List.take_append_of_le_length (Nat.le_refl _),List.take_length];exact h1
  · rcases Nat.lt_or_ge i fs.length with q | q
    · rw [List.getElem?_append_left q] at hf;exact h.to i f hf
    · have hi:i=fs.length:=by have:=(List.getElem?_eq_some_iff.1 hf).1;simp at this;omega
      subst hi
      simp at hf;subst hf;exact h2
  · rcases Nat.lt_or_ge (i+1) fs.length with q | q
    · rw [List.getElem?_append_left (by omega)] at hf
      rw [List.getElem?_append_left q] at hk
      exact h.bl i f k hf hk
    · have hi:i+1=fs.length:=by have:=(List.getElem?_eq_some_iff.1 hk).1;simp at this;omega
      rw [hi] at hk
      simp at hk;subst hk
      rw [List.getElem?_append_left (by omega)] at hf
      rw [List.getLastD_eq_getLast?,List.getLast?_eq_getElem?,show fs.length - 1=i by omega,hf] at h3
      exact h3
noncomputable abbrev nxt (p:KV):Int:=ci ((mget p (.int .u8 0)).getD (.int .u32 0))
structure CS (K Kp:MK) (m p:KV) (l fin:List BT):Prop where
  mb:MB K m l
  kp:KOK Kp p
  nx: ∀b∈l,b.1 0<nxt p
  fl:fin.length<=l.length
  fb: ∀ (i:Nat) (b:BT),l[i]? =some b->b.2=decide (i<fin.length)
  fe: ∀i:Nat,i<fin.length->l[i]? =fin[i]?
  ch:Chn (l.map (·.1))
theorem CS.start {K Kp:MK}:CS K Kp [] [] [] []:=⟨MB.nil,KOK.nil,fun b h=>(by cases h),Nat.le_refl _,fun i b h=>by simp at h,fun i h=>by simp at h,Chn.nil⟩
structure KP (Kp:MK):Prop where
  k:Kp.OkK (.int .u8 0)
  v: ∀n:Int,(Lit.int .u32 n).wf=true->Kp.OkV (.int .u32 n)
  v' : ∀x,Kp.OkV x-> ∃n:Int,(Lit.int .u32 n).wf=true/\x= .int .u32 n
theorem KP.nxt {Kp:MK} (P:KP Kp) {p:KV} (h:KOK Kp p):(Lit.int .u32 (nxt p)).wf=true:=by
  obtain ⟨n,hn,e⟩:=P.v' _ (kok_val h (z:= .int .u32 0) (P.v 0 rfl) (.int .u8 0))
  unfold Sx.nxt
  rw [e];exact hn
theorem lastB_map {K:MK} {m:KV} {l:List BT} (h:MB K m l):(lastB m).1=(l.map (·.1)).getLastD fun _=>0:=by
  unfold lastB
  rw [h.all,List.getLastD_eq_getLast?,List.getLastD_eq_getLast?,List.getLast?_map]
  cases l.getLast? <;>rfl
theorem CS.lend {K Kp:MK} {m p:KV} {l fin:List BT} (c:CS K Kp m p l fin):(lastB m).1 2=endF (l.map (·.1)):=by rw [lastB_map c.mb];rfl
theorem CS.post {K Kp:MK} (B:KB K) (P:KP Kp) {m p:KV} {l fin:List BT} (c:CS K Kp m p l fin) {x:BT×Int} {m' p' :KV} {to:Int} {r:Nat->Int} {poster:Int} {h:Nat->Int} {block:Int} (hto:(Lit.int .u64 to).wf=true) (hbl:(Lit.int .u64 block).wf=true)
    (e:(x,m',p')=postB m p to r poster h block): ∃l',CS K Kp m' p' l' fin/\l'.length<=l.length+1:=by
  have triv:m' =m->p' =p-> ∃l',CS K Kp m' p' l' fin/\l'.length<=l.length+1:=by
    intro e1 e2
    subst e1 e2
    exact ⟨l,c,Nat.le_succ _⟩
  unfold postB at e
  split at e
  · injection e with e0 e;injection e with e1 e2;exact triv e1 e2
  split at e
  · injection e with e0 e;injection e with e1 e2;exact triv e1 e2
  split at e
  · injection e with e0 e;injection e with e1 e2;exact triv e1 e2
  rename_i g1 g2 g3
  injection e with e0 e
  injection e with e1 e2
  have hw:=P.nxt c.kp
  have hw' :=wf32 hw
  have hl:=lastB_ok B c.mb.kok
  obtain ⟨b,hb⟩: ∃b:BT,b=(fnL [nxt p,(lastB m).1 2,to,r 0,r 1,r 2,r 3,r 4,r 5,r 6,r 7,r 8,r 9,r 10,r 11,r 12,r 13,r 14,r 15,r 16,r 17,r 18,r 19,r 20,r 21,r 22,r 23,r 24,r 25,r 26,r 27,r 28,r 29,r 30,r 31,poster,h 0,h 1,h 2,h 3,block],false):=⟨_,rfl⟩
  have hok:okB b:=by rw [hb];exact ⟨hw,hl.to,hto,hbl,fnL_rest rfl⟩
  have hn:b.1 0=nxt p:=by rw [hb];rfl
  have h1:b.1 1=(lastB m).1 2:=by rw [hb];rfl
  have h2:b.1 2=to:=by rw [hb];rfl
  have h40:b.1 40=block:=by rw [hb];rfl
  have hf:b.2=false:=by rw [hb]
  have e1' :m' =mset m (nk b) (bV b):=by rw [e1];unfold nk;rw [hn,hb]
  have hnx:nxt p' =nxt p+1:=by unfold nxt;rw [e2,mget_set,if_pos rfl];rfl
  refine ⟨l++ [b],⟨by rw [e1'];exact c.mb.add B hok (fun a ha=>by rw [hn];exact c.nx a ha),?_,?_,by rw [List.length_append];have:=c.fl;omega,fun i a ha=> ?_,fun i hi=> ?_,?_⟩,by simp⟩
  · rw [e2]
    exact c.kp.set P.k (P.v _ (wf32' (n:=nxt p+1) (by omega) (by have:nxt p≠4294967295:=g3;omega)))
  · intro a ha
    rw [hnx]
    rcases List.mem_append.1 ha with ha | ha
    · have:=c.nx a ha;omega
    · simp at ha;subst ha;omega
  · rcases Nat.lt_or_ge i l.length with q | q
    · rw [List.getElem?_append_left q] at ha;exact c.fb i a ha
    · have hi:i=l.length:=by have:=(List.getElem?_eq_some_iff.1 ha).1;simp at this;omega
      subst hi
      simp at ha;subst ha
      rw [hf]
      have:=c.fl
      exact (decide_eq_false (by omega)).symm
  · rw [List.getElem?_append_left (by have:=c.fl;omega)];exact c.fe i hi
  · rw [List.map_append]
    refine c.ch.add ?_ ?_ ?_
    · show b.1 1=_;rw [h1];exact c.lend
    · show b.1 1<=b.1 2;rw [h1,h2];omega
    · show _<=b.1 40;rw [h40,←lastB_map c.mb];omega
theorem CS.fin {K Kp : MK} (B : KB K) {m p : KV} {l fin : List BT} (c : CS K Kp m p l fin) {w a : Int} {x : BT × Int} {m' : KV} (e : (x, m') = finB m w a) : (x.2 ≠ 0 /\ m' = m) ∨ (x.2 = 0 /\ ∃ l', l'.length = l.length /\ CS K Kp m' p l' (fin ++ [x.1])) := by
  unfold finB at e
  rw [c.mb.all] at e
  cases hf:l.find? (fun b=> !b.2) with
  | none=>rw [hf] at e;injection e with e1 e2;exact .inl ⟨by rw [e1];decide,e2⟩
  | some b =>
    rw [hf] at e
    simp only at e
    split at e
    · injection e with e1 e2;exact .inl ⟨by rw [e1];decide,e2⟩
    · injection e with e1 e2
      refine .inr ⟨by rw [e1],?_⟩
      have hbf:b.2=false:=by have:=List.find?_some hf;simpa using this
      obtain ⟨hp,us,bs,hl,hno⟩:=List.find?_eq_some_iff_append.1 hf
      have hlen:us.length=fin.length:=by
        have hi:l[us.length]? =some b:=by rw [hl];simp
        have h1:=c.fb _ _ hi
        rw [hbf] at h1
        have h2:fin.length<=us.length:=by
          have:=of_decide_eq_false h1.symm;omega
        rcases Nat.lt_or_ge fin.length us.length with q | q
        · have hj:l[fin.length]? =some us[fin.length]:=by rw [hl,List.getElem?_append_left q,List.getElem?_eq_getElem q]
          have h3:=c.fb _ _ hj
          have h4:=hno _ (List.getElem_mem q)
          simp at h4
          rw [h4] at h3
          simp at h3
        · omega
      have hi:l[fin.length]? =some b:=by rw [hl,←hlen];simp
      have hlt:=(List.getElem?_eq_some_iff.1 hi).1
      have hbok:=c.mb.ok b (List.mem_of_getElem? hi)
      have hx:x.1=(b.1,true):=by rw [e1]
      rw [hx]
      refine ⟨l.set fin.length (b.1,true),by simp,by rw [e2];exact c.mb.put B hi (okB_fin hbok true) rfl,c.kp,fun d hd=> ?_,by simp;omega,fun i d hd=> ?_,fun i hi' => ?_,?_⟩
      · rcases List.mem_or_eq_of_mem_set hd with hd | rfl
        · exact c.nx d hd
        · exact c.nx b (List.mem_of_getElem? hi)
      · rw [List.getElem?_set] at hd
        split at hd
        · rename_i q
          subst q
          injection hd with hd;subst hd
          simp
        · rename_i q
          rw [c.fb i d hd]
          simp only [List.length_append,List.length_singleton]
          rw [Bool.eq_iff_iff,decide_eq_true_iff,decide_eq_true_iff];omega
      · simp only [List.length_append,List.length_singleton] at hi'
        rw [List.getElem?_set]
        by_cases q:fin.length=i
        · subst q
          rw [if_pos rfl,if_pos hlt];simp
        · rw [if_neg q,List.getElem?_append_left (by omega)]
          exact c.fe i (by omega)
      · rw [List.map_set]
        have:(l.map (·.1)).set fin.length b.1=l.map (·.1):=by
          apply List.ext_getElem?
          intro i
          rw [List.getElem?_set]
          split
          · rename_i q
            subst q
            rw [if_pos (by simpa using hlt),List.getElem?_map,hi];rfl
          · rfl
        rw [this];exact c.ch
end Go.Sx
namespace Go.Sx
open Go.RowKit
end Go.Sx
namespace Go.Sx
open Go.RowKit
def LS (K Kp:MK) (n:Nat) (i:Nat) (m p:KV) (L:List Ent) (fin:RK 42):Prop:=i<=n/\List.length L<=50*i/\ ∃l fl,CS K Kp m p l fl/\vals fin.1=fl.map bV/\l.length<=i
theorem LS.start {K Kp:MK} {n:Nat}:LS K Kp n 0 [] [] [] (RK.nil 42):=⟨Nat.zero_le _,Nat.le_refl _,[],[],CS.start,rfl,Nat.le_refl _⟩
end Go.Sx
set_option linter.unusedVariables false
namespace Go.Sx
open Go.RowKit
theorem Und.trans {b:Nat} {m m' m'' :KV} {E F:List Ent} (h:Und b m m' E) (g:Und b m' m'' F):Und b m m'' (E++F):=fun m2 h2 e2=>by
  obtain ⟨a1,a2⟩:=g m2 h2 e2
  rw [undoB_app]
  exact h _ a1 a2
def Dm (K:MK) (E:Nat->KV->Value->Ent) (b:Nat) (m m' :KV) (L L' :List Ent) (k:Nat):Prop:=
  ∃Es:List Ent,L' =L++Es/\Es.length<=k/\Und b m m' Es/\ ∀e∈Es,∃a key,e=E b a key/\K.OkK key/\KOK K a
theorem Dm.refl {K:MK} {E:Nat->KV->Value->Ent} {b:Nat} {m:KV} {L:List Ent} {k:Nat}:Dm K E b m m L L k:=⟨[],(List.append_nil _).symm,Nat.zero_le _,Und.nil b m,fun e h=>by cases h⟩
theorem Dm.one {K:MK} {E:Nat->KV->Value->Ent} {b:Nat} (hE:EntOK b (E b)) {m m' :KV} {L L' :List Ent} {key:Value} (hk:K.OkK key) (hm:KOK K m) (ho: ∀k,k≠key->mget m' k=mget m k) (hL:L' =L++ [E b m key]):Dm K E b m m' L L' 1:=
  ⟨[E b m key],hL,Nat.le_refl _,(Und.nil b m).snoc (hE.b _ _) (by rw [hE.was,hE.key]) (fun k q=>ho k (by rw [hE.key] at q;exact q)),fun e h=>by simp at h;subst h;exact ⟨_,_,rfl,hk,hm⟩⟩
theorem Dm.set {K:MK} {E:Nat->KV->Value->Ent} {b:Nat} (hE:EntOK b (E b)) {m m' :KV} {L L' :List Ent} {key v:Value} (hk:K.OkK key) (hm:KOK K m) (h:m' =mset m key v/\L' =L++ [E b m key]):Dm K E b m m' L L' 1:=
  Dm.one hE hk hm (fun k q=>by rw [h.1,mget_set,if_neg q]) h.2
theorem Dm.drop {K:MK} {E:Nat->KV->Value->Ent} {b:Nat} (hE:EntOK b (E b)) {m m' :KV} {L L' :List Ent} {key:Value} (hk:K.OkK key) (hm:KOK K m) (h1:m' =mdel m key) (h2:L' =if (mget m key).isSome then L++ [E b m key] else L):Dm K E b m m' L L' 1:=by
  by_cases hs:(mget m key).isSome=true
  · rw [if_pos hs] at h2
    exact Dm.one hE hk hm (fun k q=>by rw [h1,mget_del hm.once,if_neg q]) h2
  · rw [if_neg hs] at h2
    rw [h1,h2,mdel_none (by simpa using hs)]
    exact Dm.refl
theorem Dm.trans {K:MK} {E:Nat->KV->Value->Ent} {b:Nat} {m m' m'' :KV} {L L' L'' :List Ent} {j k:Nat} (h:Dm K E b m m' L L' j) (g:Dm K E b m' m'' L' L'' k):Dm K E b m m'' L L'' (j+k):=by
  obtain ⟨E1,rfl,l1,u1,a1⟩:=h
  obtain ⟨E2,rfl,l2,u2,a2⟩:=g
  refine ⟨E1++E2,List.append_assoc _ _ _,by rw [List.length_append];omega,u1.trans u2,fun e he=> ?_⟩
  rcases List.mem_append.1 he with q | q
  · exact a1 e q
  · exact a2 e q
theorem Dm.up {K:MK} {E:Nat->KV->Value->Ent} {b:Nat} {m m' :KV} {L L' :List Ent} {j k:Nat} (h:Dm K E b m m' L L' j) (hk:j<=k):Dm K E b m m' L L' k:=by
  obtain ⟨Es,e,l,r⟩:=h;exact ⟨Es,e,by omega,r⟩
theorem Dm.len {K:MK} {E:Nat->KV->Value->Ent} {b:Nat} {m m' :KV} {L L' :List Ent} {k:Nat} (h:Dm K E b m m' L L' k):L'.length<=L.length+k:=by
  obtain ⟨Es,rfl,l,_⟩:=h;rw [List.length_append];omega
theorem Und.others {b:Nat} (m:KV): ∀ {Es:List Ent},(∀e∈Es,e.b≠b)->Und b m m Es:=by
  intro Es
  induction Es with
  | nil=>exact fun _=>Und.nil b m
  | cons e Es ih=>exact fun h=>Und.trans (m' :=m) (E:= [e]) (Und.other (E:= []) (Und.nil b m) (h e (List.mem_cons_self ..))) (ih fun x hx=>h x (List.mem_cons_of_mem _ hx))
def Dp (K K' :MK) (E E' :Nat->KV->Value->Ent) (b b' :Nat) (m p m' p' :KV) (L L' :List Ent) (k:Nat):Prop:=
  ∃Es:List Ent,L' =L++Es/\Es.length<=k/\Und b m m' Es/\Und b' p p' Es/\ ∀e∈Es,(∃a key,e=E b a key/\K.OkK key/\KOK K a)∨(∃a key,e=E' b' a key/\K'.OkK key/\KOK K' a)
theorem Dp.of {K K' :MK} {E E' :Nat->KV->Value->Ent} {b b' :Nat} (hE:EntOK b (E b)) (hn:b≠b') {m p m' :KV} {L L' :List Ent} {k:Nat} (h:Dm K E b m m' L L' k):Dp K K' E E' b b' m p m' p L L' k:=by
  obtain ⟨Es,e,l,u,a⟩:=h
  exact ⟨Es,e,l,u,Und.others p fun x hx=>(by obtain ⟨a0,k0,rfl,_⟩:=a x hx;rw [hE.b];exact hn),fun x hx=> .inl (a x hx)⟩
theorem Dp.of2 {K K' :MK} {E E' :Nat->KV->Value->Ent} {b b' :Nat} (hE:EntOK b (E b)) (hE' :EntOK b' (E' b')) (hn:b≠b') {m p m' p' :KV} {L L1 L' :List Ent} {j k:Nat} (h:Dm K E b m m' L L1 j) (g:Dm K' E' b' p p' L1 L' k):Dp K K' E E' b b' m p m' p' L L' (j+k):=by
  obtain ⟨E1,rfl,l1,u1,a1⟩:=h
  obtain ⟨E2,rfl,l2,u2,a2⟩:=g
  refine ⟨E1++E2,List.append_assoc _ _ _,by rw [List.length_append];omega,u1.trans (Und.others m' fun x hx=> ?_),(Und.others p fun x hx=> ?_).trans u2,fun e he=> ?_⟩
  · obtain ⟨a0,k0,rfl,_⟩:=a2 x hx;rw [hE'.b];exact hn.symm
  · obtain ⟨a0,k0,rfl,_⟩:=a1 x hx;rw [hE.b];exact hn
  · rcases List.mem_append.1 he with q | q
    · exact .inl (a1 e q)
    · exact .inr (a2 e q)
theorem Dp.refl {K K' :MK} {E E' :Nat->KV->Value->Ent} {b b' :Nat} {m p:KV} {L:List Ent} {k:Nat}:Dp K K' E E' b b' m p m p L L k:=⟨[],(List.append_nil _).symm,Nat.zero_le _,Und.nil b m,Und.nil b' p,fun e h=>by cases h⟩
theorem Dp.trans {K K' :MK} {E E' :Nat->KV->Value->Ent} {b b' :Nat} {m p m' p' m'' p'' :KV} {L L' L'' :List Ent} {j k:Nat} (h:Dp K K' E E' b b' m p m' p' L L' j) (g:Dp K K' E E' b b' m' p' m'' p'' L' L'' k):Dp K K' E E' b b' m p m'' p'' L L'' (j+k):=by
  obtain ⟨E1,rfl,l1,u1,v1,a1⟩:=h
  obtain ⟨E2,rfl,l2,u2,v2,a2⟩:=g
  refine ⟨E1++E2,List.append_assoc _ _ _,by rw [List.length_append];omega,u1.trans u2,v1.trans v2,fun e he=> ?_⟩
  rcases List.mem_append.1 he with q | q
  · exact a1 e q
  · exact a2 e q
theorem Dp.back {K K' :MK} {E E' :Nat->KV->Value->Ent} {b b' :Nat} {m p m' p' :KV} {L L' :List Ent} {k:Nat} (h:Dp K K' E E' b b' m p m' p' L L' k) (hm:MOK m') (hp:MOK p') {m2 p2:KV} (u0:m2=undoB b (L'.drop L.length) m') (u1:p2=undoB b' (L'.drop L.length) p'):
    L'.take L.length=L/\MOK m2/\EqM m2 m/\MOK p2/\EqM p2 p:=by
  obtain ⟨Es,rfl,l,u,v,a⟩:=h
  rw [List.drop_left] at u0 u1
  obtain ⟨a1,a2⟩:=u m' hm (EqM.refl _)
  obtain ⟨a3,a4⟩:=v p' hp (EqM.refl _)
  rw [u0,u1]
  exact ⟨List.take_left,a1,a2,a3,a4⟩
end Go.Sx
set_option linter.unusedVariables false
namespace Go.Sx
open Go.RowKit
def Dpost (K K' :MK) (E E' :Nat->KV->Value->Ent) (b b' :Nat) (m p m' p' :KV) (L L' :List Ent):Prop:= ∃L1:List Ent,Dm K E b m m' L L1 1/\Dm K' E' b' p p' L1 L' 1
theorem Dpost.refl {K K' :MK} {E E' :Nat->KV->Value->Ent} {b b' :Nat} {m p:KV} {L:List Ent}:Dpost K K' E E' b b' m p m p L L:=⟨L,Dm.refl,Dm.refl⟩
theorem Dpost.len {K K' :MK} {E E' :Nat->KV->Value->Ent} {b b' :Nat} {m p m' p' :KV} {L L' :List Ent} (h:Dpost K K' E E' b b' m p m' p' L L'):L'.length<=L.length+2:=by
  obtain ⟨L1,h1,h2⟩:=h
  have:=h1.len;have:=h2.len;omega
end Go.Sx
set_option linter.unusedVariables false
set_option linter.unusedSimpArgs false
namespace Go.Sx
open Go.RowKit
end Go.Sx
set_option linter.unusedVariables false
set_option linter.unusedSimpArgs false
namespace Go.Sx
open Go.RowKit
def lstL (l:List BT):BT:=l.getLastD b0
def endL (l:List BT):Int:=(lstL l).1 2
def findN (l:List BT) (n:Int):Nat:=l.findIdx fun b=>decide (b.1 0=n)
def findL (l:List BT) (n:Int):Int:=if findN l n<l.length then ((findN l n:Nat):Int) else -1
theorem findL_pos {l:List BT} {n:Int} (h: ¬findL l n<0): ∃b,l[(findL l n).toNat]? =some b/\b.1 0=n/\(findL l n).toNat<l.length/\0<=findL l n:=by
  unfold findL at h ⊢
  split at h
  · rename_i hlt
    rw [if_pos hlt,Int.toNat_natCast]
    refine ⟨l[findN l n],List.getElem?_eq_getElem hlt,?_,hlt,by omega⟩
    have:=List.findIdx_getElem (p:=fun b:BT=>decide (b.1 0=n)) (w:=hlt)
    exact of_decide_eq_true this
  · omega
def postE (l:List BT) (to poster block:Int):Int:=if 16<=poster∨1099511627776<block then 1 else if to<endL l∨(0<l.length/\block<(lstL l).1 40) then 11 else 0
def newB20 (l:List BT) (po to:Int) (r:Nat->Int) (poster:Int) (h:Nat->Int) (block:Int):BT:=
  (fnL [po,endL l,to,r 0,r 1,r 2,r 3,r 4,r 5,r 6,r 7,r 8,r 9,r 10,r 11,r 12,r 13,r 14,r 15,r 16,r 17,r 18,r 19,r 20,r 21,r 22,r 23,r 24,r 25,r 26,r 27,r 28,r 29,r 30,r 31,poster,h 0,h 1,h 2,h 3,block],false)
def atL (l:List BT) (n:Int):BT:=l.getD (findL l n).toNat b0
theorem atL_of {l:List BT} {n:Int} {b:BT} (h:l[(findL l n).toNat]? =some b):atL l n=b:=by unfold atL;rw [List.getD_eq_getElem?_getD,h];rfl
end Go.Sx
set_option linter.unusedVariables false
set_option linter.unusedSimpArgs false
namespace Go.Sx
open Go.RowKit
noncomputable def lS (v:Value) (s:Slot):List BT:=(kvals 42 v s).map unB
end Go.Sx
set_option linter.unusedVariables false
set_option linter.unusedSimpArgs false
namespace Go.Sx
open Go.RowKit
def ssetS (s:Slot) (v:Value):Slot:=match s with | .blk b (.cells _ t f)=> .blk b (.cells v.cells t f) | s=>s
def F_putS:List Value->List Slot->Ctr:=fun vs hs=>⟨Unit,fun _=>undef,fun _=> [ssetS (sarg hs 0) (varg vs 1)],fun _=>True⟩
theorem xputS {P:Program} {b k:Nat} {cs:Array Value} {ty te:TypeId} (hs: ∀w,(sizeOf te).run P w= .ok k w) (v:Value) (hv:v.cells.toList.length=k) (hc:cs.toList.length=k) (h2: ∀u∈v.cells.toList,u.oneCell' =true):
    OpT P (do Instr.storeAt te (.pointer (some ⟨b,0,none⟩)) v;pure .skip) [.blk b (.cells cs ty (0,0))] Unit (fun _=>undef) (fun _=> [.blk b (.cells v.cells ty (0,0))]) (fun _=>True):=by
  intro R w ho
  have hb:w.heap[b]? =some (.cells cs ty (0,0)):=ho.block (i:=0) rfl
  have hcell: ∀j,j<v.cells.toList.length->(w.cell? ⟨b,0+0+j,none⟩).isSome=true:=by
    intro j hj
    have hlen:j<cs.size:=by rw [←Array.length_toList];omega
    simp [World.cell?,hb,hlen]
  have hst:=run_storeCells_cells (P:=P) b 0 v.cells.toList 0 w hcell (fun j hj=>by rw [frozen_of_block hb];simp [frozenAt,frz]) h2
  have hh:=heap_setCells_same b ty v.cells.toList 0 w _ hb
  have hset:putAll cs 0 v.cells.toList=v.cells:=by
    have:=putAll_eq v.cells.toList [] cs.toList [] (by omega)
    simpa using this
  rw [hset] at hh
  refine ⟨(),w.setCells b 0 v.cells.toList,trivial, .inr ⟨?_,rfl⟩,?_,ext_setCells b _ _ w⟩
  · have hsz:=hs w
    have hk:v.cells.size=k:=by simpa using hv
    simp only [Nat.add_zero] at hst
    simp [Instr.storeAt,Instr.sureAddr,storeVar,Sem.run_bind,hsz,hk,hst]
  · have:=ho.set (i:=0) (b:=b) rfl hh (fun c hc=>heap_setCells_other' b _ _ w c hc)
    refine (congrArg (fun H=>Own H R (w.setCells b 0 v.cells.toList)) ?_).mp this
    funext i
    cases i<;>rfl
end Go.Sx
set_option linter.unusedVariables false
set_option linter.unusedSimpArgs false
namespace Go.Sx
open Go.RowKit
def fstL (l:List BT):Nat:=l.findIdx fun b=> !b.2
def fstB (l:List BT):BT:=l.getD (fstL l) b0
def finE (l:List BT) (w a:Int):Int:=if fstL l<l.length then (if openB w ((fstB l).1 40) a then 15 else 0) else 10
def finL (l:List BT):List BT:=l.set (fstL l) ((fstB l).1,true)
end Go.Sx
set_option linter.unusedVariables false
set_option linter.unusedSimpArgs false
namespace Go.Sx
open Go.RowKit
abbrev PL:=List (Int×Int)
def pvs (l:PL):List Value:=l.map p2V
def setS (k v:Int) (s:PL×Bool) (p:Int×Int):PL×Bool:=
  if s.2=false/\k<=p.1 then (if p.1=k then (s.1++ [(k,v)],true) else (s.1++ [(k,v)]++ [p],true)) else (if p.1=k then s else (s.1++ [p],s.2))
def finS (k v:Int) (s:PL×Bool):PL:=if s.2 then s.1 else s.1++ [(k,v)]
def pSet (l:PL) (k v:Int):PL:=finS k v (l.foldl (setS k v) ([],false))
def setA (k v:Int) (p:PL):PL×Bool:=if p.any (fun x=>decide (k<=x.1)) then (p.filter (fun x=>decide (x.1<k))++(k,v)::p.filter (fun x=>decide (k<x.1)),true) else (p,false)
theorem fold_set {k v : Int} {l : PL} (h : l.Pairwise fun a b => a.1 < b.1) : ∀ n, n <= l.length -> (l.take n).foldl (setS k v) ([], false) = setA k v (l.take n)
  | 0,_=>by simp [setA]
  | n + 1, hn => by
    have hlt:n<l.length:=hn
    have hs:(l.take n++ [l[n]]).Pairwise fun a b=>a.1<b.1:=by
      rw [←List.take_succ_eq_append_getElem hlt];exact h.sublist (List.take_sublist _ _)
    have hm: ∀y∈l.take n,y.1<l[n].1:=fun y hy=>(List.pairwise_append.1 hs).2.2 y hy _ (by simp)
    rw [List.take_succ_eq_append_getElem hlt,List.foldl_append,fold_set h n (by omega)]
    simp only [List.foldl_cons,List.foldl_nil]
    generalize l[n]=x at *
    generalize l.take n=p at *
    unfold setA
    by_cases ha:p.any (fun x=>decide (k<=x.1))=true
    · obtain ⟨y,hy,hy2⟩:=List.any_eq_true.1 ha
      have h0:=of_decide_eq_true hy2
      have h3:=hm y hy
      have h1:k<x.1:=by omega
      rw [if_pos ha,if_pos (by simp only [List.any_append,ha,Bool.true_or])]
      unfold setS
      rw [if_neg (by simp),if_neg (by omega)]
      simp [List.filter_append,h1,show ¬x.1<k by omega]
    · have hall: ∀y∈p,y.1<k:=fun y hy=>by
        have: ¬k<=y.1:=fun q=>ha (List.any_eq_true.2 ⟨y,hy,decide_eq_true q⟩)
        omega
      have f1:p.filter (fun x=>decide (x.1<k))=p:=List.filter_eq_self.2 fun y hy=>decide_eq_true (hall y hy)
      have f2:p.filter (fun x=>decide (k<x.1))= []:=List.filter_eq_nil_iff.2 fun y hy=>by have:=hall y hy;simp;omega
      rw [if_neg ha]
      unfold setS
      by_cases hx:k<=x.1
      · have hany:((p++ [x]).any fun x=>decide (k<=x.1))=true:=by simp [List.any_append,hx]
        rw [if_pos hany,if_pos ⟨rfl,hx⟩]
        by_cases he:x.1=k
        · rw [if_pos he]
          simp [List.filter_append,f1,f2,show ¬x.1<k by omega,show ¬k<x.1 by omega]
        · rw [if_neg he]
          simp [List.filter_append,f1,f2,show ¬x.1<k by omega,show k<x.1 by omega]
      · rw [if_neg (by simp [hx]),if_neg (by omega),if_neg (by simp only [List.any_append,List.any_cons,List.any_nil,Bool.or_false,Bool.or_eq_true,not_or];exact ⟨ha,by simp;omega⟩)]
theorem pSet_eq {k v:Int} {l:PL} (h:l.Pairwise fun a b=>a.1<b.1):pSet l k v=l.filter (fun x=>decide (x.1<k))++(k,v)::l.filter (fun x=>decide (k<x.1)):=by
  have:=fold_set (k:=k) (v:=v) h l.length (Nat.le_refl _)
  rw [List.take_length] at this
  unfold pSet
  rw [this]
  unfold setA
  by_cases ha:l.any (fun x=>decide (k<=x.1))=true
  · rw [if_pos ha];rfl
  · have hall: ∀y∈l,y.1<k:=fun y hy=>by
      have: ¬k<=y.1:=fun q=>ha (List.any_eq_true.2 ⟨y,hy,decide_eq_true q⟩)
      omega
    rw [if_neg ha,List.filter_eq_self.2 fun y hy=>decide_eq_true (hall y hy),List.filter_eq_nil_iff.2 fun y hy=>by have:=hall y hy;simp;omega]
    rfl
def pDrop (l:PL) (k:Int):PL:=l.filter fun p=>decide (p.1≠k)
def pGet (l:PL) (k:Int):Int×Bool:=match l.find? fun p=>decide (p.1=k) with | some p=>(p.2,true) | none=>(0,false)
theorem pGet_none {l:PL} {k:Int} (h: ∀p∈l,p.1≠k):pGet l k=(0,false):=by
  unfold pGet
  rw [List.find?_eq_none.2 fun p hp=>by simp [h p hp]]
structure DocP (K:MK) (l:PL) (m:KV):Prop where
  ok:KOK K m
  r:l.Pairwise fun a b=>a.1<b.1
  at_: ∀k v:Int,(k,v)∈l↔mget m (iv k)=some (iv v)
theorem DocP.nil {K:MK}:DocP K [] []:=⟨KOK.nil,List.Pairwise.nil,fun k v=>by rw [mget_nil];simp⟩
theorem DocP.eqm {K:MK} {l:PL} {m n:KV} (h:DocP K l m) (hn:KOK K n) (e:EqM n m):DocP K l n:=⟨hn,h.r,fun k v=>by rw [h.at_,e]⟩
theorem DocP.set {K : MK} (I : IntK K) {l : PL} {m : KV} (h : DocP K l m) (k v : Int) (hv : (Lit.int .i64 v).wf = true) : DocP K (pSet l k v) (mset m (iv k) (iv v)) := by
  refine ⟨h.ok.set (I.k k) (I.v v hv),?_,fun k' v' => ?_⟩
  · rw [pSet_eq h.r,List.pairwise_append,List.pairwise_cons]
    refine ⟨h.r.filter _,⟨fun b hb=>of_decide_eq_true (List.mem_filter.1 hb).2,h.r.filter _⟩,fun a ha b hb=> ?_⟩
    have h1:=of_decide_eq_true (List.mem_filter.1 ha).2
    rcases List.mem_cons.1 hb with e | hb
    · subst e;exact h1
    · have h2:=of_decide_eq_true (List.mem_filter.1 hb).2;omega
  · rw [pSet_eq h.r, mget_set, List.mem_append, List.mem_cons, List.mem_filter, List.mem_filter]
    simp only [decide_eq_true_eq,Prod.mk.injEq]
    by_cases e:k' =k
    · subst e
      rw [if_pos rfl]
      constructor
      · rintro (q | q | q)
        · omega
        · rw [q.2]
        · omega
      · intro q
        injection q with q
        injection q with _ q
        exact .inr (.inl ⟨rfl,q.symm⟩)
    · rw [if_neg (fun q=>e (by injection q)),←h.at_]
      constructor
      · rintro (q | q | q)
        · exact q.1
        · exact absurd q.1 e
        · exact q.1
      · intro q
        rcases Int.lt_or_gt_of_ne e with r | r
        · exact .inl ⟨q,r⟩
        · exact .inr (.inr ⟨q,r⟩)
theorem DocP.drop {K:MK} {l:PL} {m:KV} (h:DocP K l m) (k:Int):DocP K (pDrop l k) (mdel m (iv k)):=by
  refine ⟨h.ok.del _,h.r.filter _,fun k' v' => ?_⟩
  unfold pDrop
  rw [mget_del h.ok.once,List.mem_filter]
  by_cases e:k' =k
  · subst e;rw [if_pos rfl];simp
  · rw [if_neg (fun q=>e (by injection q)),←h.at_];simp [e]
theorem DocP.some {K:MK} (I:IntK K) {l:PL} {m:KV} (h:DocP K l m) (k:Int):(mget m (iv k)).isSome=true↔ ∃p∈l,p.1=k:=by
  constructor
  · intro q
    obtain ⟨x,hx⟩:=Option.isSome_iff_exists.1 q
    obtain ⟨v,_,rfl⟩:=I.v' x (h.ok.val hx)
    exact ⟨(k,v),(h.at_ k v).2 hx,rfl⟩
  · rintro ⟨p,hp,rfl⟩
    rw [(h.at_ p.1 p.2).1 hp];rfl
theorem DocP.get {K:MK} (I:IntK K) {l:PL} {m:KV} (h:DocP K l m) (k:Int):pGet l k=(ci ((mget m (iv k)).getD (iv 0)),(mget m (iv k)).isSome):=by
  cases hg:mget m (iv k) with
  | none =>
    refine pGet_none fun p hp e=> ?_
    subst e
    rw [(h.at_ p.1 p.2).1 hp] at hg;cases hg
  | some x =>
    obtain ⟨v,_,rfl⟩:=I.v' x (h.ok.val hg)
    have hm:=(h.at_ k v).2 hg
    unfold pGet
    cases hf:l.find? fun p=>decide (p.1=k) with
    | none=>have:=List.find?_eq_none.1 hf _ hm;simp at this
    | some p =>
      have h1:p.1=k:=by have:=List.find?_some hf;simpa using this
      have h2:=(h.at_ p.1 p.2).1 (List.mem_of_find?_eq_some hf)
      rw [h1,hg] at h2
      injection h2 with h2
      injection h2 with _ h2
      rw [h2];rfl
theorem pl_unique : ∀ {l l' : PL}, l.Pairwise (fun a b => a.1 < b.1) -> l'.Pairwise (fun a b => a.1 < b.1) -> (∀ p, p ∈ l ↔ p ∈ l') -> l = l'
  | [],[],_,_,_=>rfl
  | [],b::l',_,_,h=>absurd ((h b).2 (List.mem_cons_self ..)) (by simp)
  | a::l,[],_,_,h=>absurd ((h a).1 (List.mem_cons_self ..)) (by simp)
  | a :: l, b :: l', h1, h2, h => by
    rw [List.pairwise_cons] at h1 h2
    have e:a=b:=by
      rcases List.mem_cons.1 ((h a).1 (List.mem_cons_self ..)) with e | hm
      · exact e
      · rcases List.mem_cons.1 ((h b).2 (List.mem_cons_self ..)) with e | hm'
        · exact e.symm
        · have:=h2.1 _ hm;have:=h1.1 _ hm';omega
    subst e
    rw [pl_unique h1.2 h2.2 fun v=> ?_]
    constructor
    · intro hv
      rcases List.mem_cons.1 ((h v).1 (List.mem_cons_of_mem _ hv)) with e | hm
      · subst e;exact absurd (h1.1 _ hv) (Int.lt_irrefl _)
      · exact hm
    · intro hv
      rcases List.mem_cons.1 ((h v).2 (List.mem_cons_of_mem _ hv)) with e | hm
      · subst e;exact absurd (h2.1 _ hv) (Int.lt_irrefl _)
      · exact hm
theorem DocP.pairs {K : MK} (I : IntK K) {l : PL} {m : KV} (h : DocP K l m) {ks : List Value} (hk : KeysOf .i64 m ks) : pairsOf (iv 0) m ks = pvs l /\ ks = l.map fun p => iv p.1 := by
  have e:(ks.map fun k=>(ci k,ci ((mget m k).getD (iv 0))))=l:=by
    refine pl_unique ?_ h.r fun p=> ?_
    · rw [List.pairwise_map];exact hk.2.1
    · rw [List.mem_map]
      constructor
      · rintro ⟨k,hkk,rfl⟩
        obtain ⟨n,rfl⟩:=hk.2.2 k hkk
        obtain ⟨e,he,h1⟩:=List.mem_map.1 (hk.1.mem_iff.1 hkk)
        have hg:=mget_of_mem h.ok.once he
        rw [h1] at hg
        obtain ⟨v,_,hv⟩:=I.v' _ (h.ok.val hg)
        rw [hg,hv]
        exact (h.at_ n v).2 (by rw [hg,hv])
      · intro hp
        have hg:=(h.at_ p.1 p.2).1 hp
        refine ⟨iv p.1,hk.1.mem_iff.2 (List.mem_map_of_mem (f:=(·.1)) (mget_mem hg)),?_⟩
        rw [hg];rfl
  have hint: ∀k∈ks,(mget m k).getD (iv 0)=iv (ci ((mget m k).getD (iv 0)))/\k=iv (ci k):=by
    intro k hkk
    obtain ⟨n,rfl⟩:=hk.2.2 k hkk
    refine ⟨?_,rfl⟩
    cases hg:mget m (iv n) with
    | none=>rfl
    | some x=>obtain ⟨v,_,rfl⟩:=I.v' x (h.ok.val hg);rfl
  rw [←e]
  unfold pairsOf pvs
  rw [List.map_map,List.map_map]
  refine ⟨List.map_congr_left fun k hkk=> ?_,?_⟩
  · obtain ⟨n,rfl⟩:=hk.2.2 k hkk
    show Value.agg #[iv n,(mget m (iv n)).getD (iv 0)]=Value.agg #[iv n,iv (ci ((mget m (iv n)).getD (iv 0)))]
    rw [←(hint _ hkk).1]
  · conv=>lhs;rw [←List.map_id ks]
    exact List.map_congr_left fun k hkk=>(hint k hkk).2
theorem DocP.len {K:MK} (I:IntK K) {l:PL} {m:KV} (h:DocP K l m):m.length=l.length:=by
  obtain ⟨z,hz⟩:=keysOf_wit (SO1.int I h.ok).1 h.ok.once
  have:=(h.pairs I hz).2
  have h2:=hz.len
  rw [this,List.length_map] at h2
  exact h2.symm
end Go.Sx
set_option linter.unusedVariables false
set_option linter.unusedSimpArgs false
namespace Go.Sx
open Go.RowKit
theorem rise_eqI : ∀ {l l' : List Int}, l.Pairwise (· < ·) -> l'.Pairwise (· < ·) -> (∀ v, v ∈ l ↔ v ∈ l') -> l = l'
  | [],[],_,_,_=>rfl
  | [],b::l',_,_,h=>absurd ((h b).2 (List.mem_cons_self ..)) (by simp)
  | a::l,[],_,_,h=>absurd ((h a).1 (List.mem_cons_self ..)) (by simp)
  | a :: l, b :: l', h1, h2, h => by
    rw [List.pairwise_cons] at h1 h2
    have e:a=b:=by
      rcases List.mem_cons.1 ((h a).1 (List.mem_cons_self ..)) with e | hm
      · exact e
      · rcases List.mem_cons.1 ((h b).2 (List.mem_cons_self ..)) with e | hm'
        · exact e.symm
        · have:=h2.1 _ hm;have:=h1.1 _ hm';omega
    subst e
    rw [rise_eqI h1.2 h2.2 fun v=> ?_]
    constructor
    · intro hv
      rcases List.mem_cons.1 ((h v).1 (List.mem_cons_of_mem _ hv)) with e | hm
      · subst e;exact absurd (h1.1 _ hv) (Int.lt_irrefl _)
      · exact hm
    · intro hv
      rcases List.mem_cons.1 ((h v).2 (List.mem_cons_of_mem _ hv)) with e | hm
      · subst e;exact absurd (h2.1 _ hv) (Int.lt_irrefl _)
      · exact hm
theorem numsK_iff {m:KV} (hm:MOK m) {l:List Value} (h:KeysOf .u32 m l) (v:Int):v∈numsK m l↔hasI m v=true:=by
  refine ⟨numsK_mem h,fun hv=> ?_⟩
  unfold hasI at hv
  have hs:(mget m (u32v (v/64))).isSome=true:=by
    cases hg:mget m (u32v (v/64)) with
    | some x=>rfl
    | none=>rw [show wd m (v/64)=0 by unfold wd;rw [hg];rfl] at hv;simp at hv
  obtain ⟨x,hx⟩:=Option.isSome_iff_exists.1 hs
  refine List.mem_flatMap.2 ⟨u32v (v/64),h.1.mem_iff.2 (List.mem_map_of_mem (f:=(·.1)) (mget_mem hx)),?_⟩
  unfold numsW
  refine List.mem_map.2 ⟨(v%64).toNat,bitsL_mem.2 ⟨by omega,hv⟩,?_⟩
  show v/64*64+(((v%64).toNat:Nat):Int)=v
  omega
structure Doc (K:MK) (ln:List Int) (m:KV):Prop where
  s: ∃c,SpS K ln m c
  r:ln.Pairwise (· < ·)
  w: ∀x∈ln,(Lit.int .u32 x).wf=true
theorem Doc.ok {K:MK} {ln:List Int} {m:KV} (h:Doc K ln m):KOK K m:=h.s.elim fun _ q=>q.ok
theorem Doc.nil {K:MK}:Doc K [] []:=⟨⟨0,SpS.nil⟩,List.Pairwise.nil,fun _ h=>by cases h⟩
theorem Doc.has {K:MK} {ln:List Int} {m:KV} (h:Doc K ln m) (i:Int):hasI m i=decide (i∈ln):=by
  obtain ⟨c,q⟩:=h.s
  rw [Bool.eq_iff_iff,q.has,decide_eq_true_eq]
theorem Doc.nums {K:MK} {ln:List Int} {m:KV} (h:Doc K ln m) {l:List Value} (hx:KeysOf .u32 m l):numsK m l=ln:=by
  obtain ⟨c,q⟩:=h.s
  exact rise_eqI (numsK_rise hx.2.1) h.r fun v=>by rw [numsK_iff q.ok.once hx,q.has]
theorem Doc.tot {K:MK} (I:WdK K) {ln:List Int} {m:KV} (h:Doc K ln m):totW m=ln.length:=by
  obtain ⟨c,q⟩:=h.s
  obtain ⟨z,hz⟩:=keysOf_wit (SpS.int I q.ok).1 q.ok.once
  rw [←numsK_totW q.ok.once hz,h.nums hz]
theorem Doc.len {K:MK} (I:WdK K) {ln:List Int} {m:KV} (h:Doc K ln m):m.length<=ln.length:=h.s.elim fun _ q=>q.len I
theorem Doc.keyb {K:MK} {ln:List Int} {m:KV} (h:Doc K ln m) {l:List Value} (hx:KeysOf .u32 m l): ∀v∈l,0<=ci v/\ci v<=67108863:=h.s.elim fun _ q=>q.keyb h.w hx
theorem Doc.word {K:MK} (I:WdK K) {ln:List Int} {m:KV} (h:Doc K ln m) (w:Int):wd m w=pWord ln w:=h.s.elim fun _ q=>(pWord_wd I q h.r w).symm
theorem Doc.text {K:MK} (I:WdK K) {ln:List Int} {m:KV} (h:Doc K ln m) {l:List Value} (hx:KeysOf .u32 m l):wordsB m l=textL ln:=by
  obtain ⟨c,q⟩:=h.s
  have hk: ∀k∈l,numsW m k≠ []/\dg4 (ci k)++dg8 (pWord ln (ci k))=wordB m k:=by
    intro k hk
    have hb:=h.keyb hx k hk
    obtain ⟨n,rfl⟩:=hx.2.2 k hk
    have hm:=hx.1.mem_iff.1 hk
    obtain ⟨e,he,h1⟩:=List.mem_map.1 hm
    have hg:=mget_of_mem q.ok.once he
    rw [h1] at hg
    have hg' :mget m (u32v n)=some e.2:=hg
    obtain ⟨x,hx',h2⟩:=(q.key n).1 (by rw [hg'];rfl)
    refine ⟨fun hn=> ?_,?_⟩
    · have ht:(wd m n).toNat.testBit (x%64).toNat=true:=(q.bit n _ (by omega)).2 ⟨x,hx',h2,rfl⟩
      unfold numsW at hn
      have h3:=List.map_eq_nil_iff.1 hn
      have:(x%64).toNat∈bitsL (wd m n).toNat:=bitsL_mem.2 ⟨by omega,ht⟩
      have e0:bitsL (wd m n).toNat= []:=h3
      rw [e0] at this;cases this
    · have hb' :0<=n/\n<=67108863:=hb
      show dg4 n++dg8 (pWord ln n)=nb4 (IntKind.u64.wrap n)++nb8 (wd m n)
      rw [h.word I,show IntKind.u64.wrap n=n by rw [wrap_u64];omega,nb4_dg (show W n by unfold W;omega),nb8_dg (pWord_W _ _)]
  have:=text_fold (m:=m) (pWord ln) hx.2.1 hk [] none (fun k _ e=>by cases e)
  rw [h.nums hx] at this
  unfold textL
  rw [this];rfl
theorem SpS.congr {K:MK} {P Q:List Int} {m:KV} {c:Nat} (h:SpS K P m c) (e: ∀x,x∈Q↔x∈P):SpS K Q m c:=
  ⟨h.ok,fun w b hb=>by rw [h.bit w b hb];simp only [e],fun w=>by rw [h.key w];simp only [e],h.cnt⟩
theorem Doc.put {K:MK} (I:WdK K) {ln:List Int} {m:KV} (h:Doc K ln m) {x:Int} (hx:(Lit.int .u32 x).wf=true):Doc K (if x∈ln then ln else pIns ln x) (putO m x):=by
  obtain ⟨c,q⟩:=h.s
  by_cases hi:x∈ln
  · rw [if_pos hi]
    have hh:=(q.has x).2 hi
    unfold putO
    rw [if_pos hh]
    exact h
  · rw [if_neg hi]
    obtain ⟨h1,h2⟩:=pIns_rise h.r hi
    refine ⟨⟨_,(q.put I x).congr fun v=> ?_⟩,h1,fun v hv=> ?_⟩
    · rw [h2,List.mem_append,List.mem_singleton]
    · rcases (h2 v).1 hv with r | r
      · exact h.w v r
      · exact r▸hx
theorem Doc.eqm {K:MK} (I:WdK K) {ln:List Int} {m n:KV} (h:Doc K ln m) (hn:KOK K n) (e:EqM n m):Doc K ln n:=by
  obtain ⟨c,q⟩:=h.s
  have hw: ∀w,wd n w=wd m w:=fun w=>by unfold wd;rw [e]
  refine ⟨⟨totW n,hn,fun w b hb=>by rw [hw];exact q.bit w b hb,fun w=>by rw [e];exact q.key w,rfl⟩,h.r,h.w⟩
theorem pIns_len {ln : List Int} {x : Int} (h : ln.Pairwise (· < ·)) : (if x ∈ ln then ln else pIns ln x).length <= ln.length + 1 := by
  by_cases hi:x∈ln
  · rw [if_pos hi];omega
  · rw [if_neg hi, pIns_eq h hi]
    have hp: ∀l:List Int,x∉l->(l.filter (fun y=>decide (y<x))).length+(l.filter (fun y=>decide (x<y))).length<=l.length:=by
      intro l
      induction l with
      | nil=>simp
      | cons a l ih =>
        intro hn
        have:=ih (fun q=>hn (List.mem_cons_of_mem _ q))
        simp only [List.filter_cons,List.length_cons]
        by_cases h1:a<x
        · have h2: ¬x<a:=by omega
          simp [h1,h2];omega
        · by_cases h2:x<a
          · simp [h1,h2];omega
          · simp [h1,h2];omega
    have:=hp ln hi
    rw [List.length_append,List.length_cons];omega
structure SpD (K:MK) (ent:KV->Value->Ent) (i:Nat) (m:KV) (L:List Ent) (mark:Int) (bm:KV) (vn vk:Value):Prop where
  ex: ∃ (hs:List KV) (ln lk:List Int) (h0:KV),SB K ent hs L m/\(hs++ [m])[mark.toNat]? =some h0/\Doc K ln m/\Doc K lk h0/\InBag bm vn (uvs ln)/\InBag bm vk (uvs lk)/\ln.length<=i/\lk.length<=i
  m0:0<=mark
  m1:mark<=((L.length:Nat):Int)
  l:L.length<=i
theorem SpD.start {K:MK} {ent:KV->Value->Ent}:SpD K ent 0 [] [] 0 [] (sv .nil) (sv .nil):=
  ⟨⟨[],[],[],[],SB.start,rfl,Doc.nil,Doc.nil,InBag.nil (fun _ h=>by cases h),InBag.nil (fun _ h=>by cases h),Nat.le_refl _,Nat.le_refl _⟩,Int.le_refl _,Int.le_refl _,Nat.le_refl _⟩
theorem SpD.jr {K:MK} {ent:KV->Value->Ent} {i:Nat} {m:KV} {L:List Ent} {mark:Int} {bm:KV} {vn vk:Value} (h:SpD K ent i m L mark bm vn vk): ∃hs,Jr K ent hs L m:=by
  obtain ⟨hs,ln,lk,h0,h1,_⟩:=h.ex
  exact ⟨hs,h1.jr⟩
theorem SpD.mark {K:MK} {ent:KV->Value->Ent} {i:Nat} {m:KV} {L:List Ent} {mark:Int} {bm:KV} {vn vk:Value} (h:SpD K ent i m L mark bm vn vk) {x:Int} (hx:x=((L.length:Nat):Int)):SpD K ent (i+1) m L x bm vn vn:=by
  obtain ⟨hs,ln,lk,h0,h1,h2,h3,h4,h5,h6,h7,h8⟩:=h.ex
  have hl:=h1.jr.1
  have:=h.l
  exact ⟨⟨hs,ln,ln,m,h1,by rw [hx,Int.toNat_natCast,←hl];simp,h3,h3,h5,h5,by omega,by omega⟩,by omega,by omega,by omega⟩
theorem SpD.back {K:MK} (I:WdK K) {ent:KV->Value->Ent} {b:Nat} (E:EntOK b ent) {i:Nat} {m:KV} {L:List Ent} {mark:Int} {bm:KV} {vn vk:Value} (h:SpD K ent i m L mark bm vn vk) {m' :KV} (hu:m' =undoB b (L.drop mark.toNat) m):SpD K ent (i+1) m' (L.take mark.toNat) mark bm vk vk:=by
  obtain ⟨hs,ln,lk,h0,h1,h2,h3,h4,h5,h6,h7,h8⟩:=h.ex
  have hm1:=h.m1
  have hm0:=h.m0
  have hl:=h1.jr.1
  have:=h.l
  obtain ⟨S5,q5⟩:=h1.back E (n:=mark.toNat) (by omega) h2
  rw [←hu] at S5 q5
  have hd:=h4.eqm I S5.ok q5
  have ht:(hs.take mark.toNat).length=mark.toNat:=by rw [List.length_take];omega
  have ht2:(L.take mark.toNat).length=mark.toNat:=by rw [List.length_take];omega
  exact ⟨⟨_,lk,lk,m',S5,by rw [List.getElem?_append_right (by omega),ht];simp,hd,hd,h6,h6,by omega,by omega⟩,hm0,by rw [ht2];omega,by rw [ht2];omega⟩
theorem SpD.put {K:MK} (I:WdK K) {ent:KV->Value->Ent} {i:Nat} {m:KV} {L:List Ent} {mark:Int} {bm:KV} {vn vk:Value} (h:SpD K ent i m L mark bm vn vk) {x:Int} (hx:(Lit.int .u32 x).wf=true) {y:KV×Value×Bool} (pb:PutB bm vn x y) {m' :KV} {L' :List Ent}
    (p:m' =putO m x/\L' =bif hasI m x then L else L++ [ent m (u32v (x/64))]):SpD K ent (i+1) m' L' mark y.1 y.2.1 vk:=by
  obtain ⟨hs,ln,lk,h0,h1,h2,h3,h4,h5,h6,h7,h8⟩:=h.ex
  have hm1:=h.m1
  have hm0:=h.m0
  have hl:=h1.jr.1
  have hL:=h.l
  obtain ⟨p1,p2⟩:=p
  subst p1
  obtain ⟨_,pb2,pb3⟩:=pb
  rw [h5.bl] at pb2
  have hd:=h3.put I hx
  have hn:=pIns_len (x:=x) h3.r
  cases hh:hasI m x with
  | true =>
    rw [hh] at p2
    have p2' :L' =L:=p2
    subst p2'
    have e:putO m x=m:=put_again hh
    rw [e] at hd ⊢
    exact ⟨⟨hs,_,lk,h0,h1,h2,hd,h4,pb2,pb3 _ _ h6,by omega,by omega⟩,hm0,hm1,by omega⟩
  | false =>
    rw [hh] at p2
    have p2' :L' =L++ [ent m (u32v (x/64))]:=p2
    subst p2'
    have e:putO m x=putM m x:=by unfold putO;rw [if_neg (by rw [hh];decide)]
    obtain ⟨j,o⟩:=h1.jr.set h1.ok (I.k (x/64)) (I.v _ (setW_W (wd_W I h1.ok (x/64)) (b:=(x%64).toNat) (by omega)))
    obtain ⟨z,z1,z2⟩:=h1.zero
    have S2:SB K ent (hs++ [m]) (L++ [ent m (u32v (x/64))]) (putO m x):=by
      rw [e]
      exact ⟨j,o,z,by rw [List.getElem?_append_left (by simp)];exact z1,z2⟩
    refine ⟨⟨_,_,lk,h0,S2,by rw [List.getElem?_append_left (by simp;omega)];exact h2,hd,h4,pb2,pb3 _ _ h6,by omega,by omega⟩,hm0,?_,?_⟩
    · rw [List.length_append,List.length_singleton];omega
    · rw [List.length_append,List.length_singleton];omega
theorem strneq {a b:ByteArray} (h:a=b):(!(a.toList==b.toList))=false:=by rw [streq h];rfl
theorem text_eq {y:Row} {l:List Int} {e:TypeId} (hb:BOK y) (h:dg y=l):strOf (rvals (sv y) (ss e y))=strL l:=by rw [rvals_eq,hb.eq,h];rfl
end Go.Sx
set_option linter.unusedVariables false
set_option linter.unusedSimpArgs false
namespace Go.Sx
open Go.RowKit
end Go.Sx
set_option linter.unusedVariables false
set_option linter.unusedSimpArgs false
namespace Go.Sx
open Go.RowKit
noncomputable def bb (m:KV) (v:Value):List BT:=(bget m v).map unB
structure InB (m:KV) (v:Value) (l:List BT):Prop where
  inb:InBag m v (l.map bV)
  ok: ∀b∈l,okB b
theorem InB.bb {m:KV} {v:Value} {l:List BT} (h:InB m v l):Sx.bb m v=l:=by
  unfold Sx.bb
  rw [h.inb.get,List.map_map]
  conv=>rhs;rw [←List.map_id l]
  exact List.map_congr_left fun b hb=>unB_bV (h.ok b hb)
theorem InB.self {m:KV} {v:Value} {l:List BT} (h:InB m v l):InB m v (Sx.bb m v):=by rw [h.bb];exact h
def NewBB (bm:KV) (l:List BT) (x:KV×Slc):Prop:=InB x.1 (slV x.2) l/\ ∀v' k',InBag bm v' k' ->InBag x.1 v' k'
theorem NewBB.mono {bm:KV} {l:List BT} {x:KV×Slc} (h:NewBB bm l x) {v:Value} {k:List BT} (hb:InB bm v k):InB x.1 v k:=⟨h.2 _ _ hb.inb,hb.ok⟩
theorem okB_lst {l:List BT} (h: ∀b∈l,okB b):okB (lstL l):=by
  unfold lstL
  rw [List.getLastD_eq_getLast?]
  cases hl:l.getLast? with
  | none=>exact okB0
  | some b=>exact h b (List.mem_of_getLast? hl)
theorem okB_new {l:List BT} (h: ∀b∈l,okB b) {po to:Int} {r:Nat->Int} {poster:Int} {g:Nat->Int} {block:Int} (hpo:0<=po/\po<=1000000) (hto:(Lit.int .u64 to).wf=true) (hbl:(Lit.int .u64 block).wf=true):okB (newB20 l po to r poster g block):=
  ⟨wf32' (by simp only [newB20];exact hpo.1) (by simp only [newB20];show po<=_;omega),(okB_lst h).to,hto,hbl,fnL_rest rfl⟩
def postL (l:List BT) (po to:Int) (r:Nat->Int) (poster:Int) (h:Nat->Int) (block:Int):List BT:=if postE l to poster block=0 then l++ [newB20 l po to r poster h block] else l
def finR20 (l:List BT) (w a:Int):List BT:=if finE l w a=0 then finL l else l
end Go.Sx
set_option linter.unusedVariables false
set_option linter.unusedSimpArgs false
namespace Go.Sx
open Go.RowKit
structure BR (K Kp:MK) (m p:KV) (l:List BT) (po:Int):Prop where
  mb:MB K m l
  kp:KOK Kp p
  nx:nxt p=po
  lt: ∀b∈l,b.1 0<po
  bk: ∀b∈l,0<=b.1 40/\b.1 40<=1099511627776
theorem BR.start {K Kp:MK}:BR K Kp [] [] [] 0:=⟨MB.nil,KOK.nil,rfl,fun b h=>(by cases h),fun b h=>by cases h⟩
theorem BR.last {K Kp:MK} {m p:KV} {l:List BT} {po:Int} (h:BR K Kp m p l po):lastB m=lstL l:=by unfold lastB lstL;rw [h.mb.all]
theorem BR.lend {K Kp:MK} {m p:KV} {l:List BT} {po:Int} (h:BR K Kp m p l po):(lastB m).1 2=endL l:=by rw [h.last];rfl
theorem findL_nn {l:List BT} {n:Int} {b:BT} (hb:b∈l) (e:b.1 0=n): ¬findL l n<0:=by
  have h1:findN l n<l.length:=List.findIdx_lt_length_of_exists ⟨b,hb,by simpa using e⟩
  unfold findL
  rw [if_pos h1];omega
theorem BR.mget {K Kp:MK} {m p:KV} {l:List BT} {po:Int} (h:BR K Kp m p l po) (n:Int):Go.Sx.mget m (.int .u32 n)=if findL l n<0 then none else some (bV (atL l n)):=by
  by_cases hf:findL l n<0
  · rw [if_pos hf]
    cases hg:Go.Sx.mget m (.int .u32 n) with
    | none=>rfl
    | some v =>
      obtain ⟨b,hb,e1,e2⟩:=(h.mb.get _ _).1 hg
      injection e1 with _ e1
      exact absurd hf (findL_nn hb e1.symm)
  · rw [if_neg hf]
    obtain ⟨b,h1,h2,h3,h4⟩:=findL_pos hf
    rw [atL_of h1]
    exact (h.mb.get _ _).2 ⟨b,List.mem_of_getElem? h1,by unfold nk;rw [h2],rfl⟩
theorem BR.fin {K Kp : MK} (B : KB K) {m p : KV} {l : List BT} {po : Int} (h : BR K Kp m p l po) (w a : Int) : (finB m w a).1 = ((bif decide (finE l w a = 0) then ((fstB l).1, true) else b0), finE l w a) /\ BR K Kp (finB m w a).2 p (finR20 l w a) po := by
  by_cases hf:fstL l<l.length
  · have hi:l[fstL l]? =some (fstB l):=by unfold fstB;rw [List.getD_eq_getElem?_getD,List.getElem?_eq_getElem hf];rfl
    have hb:(fstB l).2=false:=by
      have:=List.findIdx_getElem (p:=fun b:BT=> !b.2) (w:=hf)
      unfold fstB
      rw [List.getD_eq_getElem?_getD,List.getElem?_eq_getElem hf]
      have h5:(!(l[fstL l]'hf).2)=true:=this
      cases h6:(l[fstL l]'hf).2 with
      | false=>exact h6
      | true=>rw [h6] at h5;cases h5
    have hn: ∀j c,j<fstL l->l[j]? =some c->c.2=true:=fun j c hj hc=>by
      have:=List.not_of_lt_findIdx (p:=fun b:BT=> !b.2) (xs:=l) hj
      obtain ⟨hjl,rfl⟩:=List.getElem?_eq_some_iff.1 hc
      simpa using this
    have hF:=find_at hn hi hb
    by_cases ho:openB w ((fstB l).1 40) a=true
    · have hE:finE l w a=15:=by unfold finE;rw [if_pos hf,if_pos ho]
      have hB:finB m w a=((b0,15),m):=by unfold finB;rw [h.mb.all,hF];dsimp only;rw [if_pos ho]
      rw [hB]
      refine ⟨by rw [hE];rfl,?_⟩
      unfold finR20;rw [hE];exact h
    · have hE:finE l w a=0:=by unfold finE;rw [if_pos hf,if_neg ho]
      have hB:finB m w a=((((fstB l).1,true),0),mset m (.int .u32 ((fstB l).1 0)) (bV ((fstB l).1,true))):=by unfold finB;rw [h.mb.all,hF];dsimp only;rw [if_neg ho]
      rw [hB]
      refine ⟨by rw [hE];rfl,?_⟩
      unfold finR20;rw [hE,if_pos rfl]
      have hmem:=List.mem_of_getElem? hi
      have hm:=h.mb.put B hi (okB_fin (h.mb.ok _ hmem) true) rfl
      refine ⟨hm,h.kp,h.nx,fun b hb=> ?_,fun b hb=> ?_⟩
      · rcases List.mem_or_eq_of_mem_set hb with q | rfl
        · exact h.lt b q
        · exact h.lt (fstB l) hmem
      · rcases List.mem_or_eq_of_mem_set hb with q | rfl
        · exact h.bk b q
        · exact h.bk (fstB l) hmem
  · have hn: ∀j c,j<l.length->l[j]? =some c->c.2=true:=fun j c hj hc=>by
      have:=List.not_of_lt_findIdx (p:=fun b:BT=> !b.2) (xs:=l) (i:=j) (by unfold fstL at hf;omega)
      obtain ⟨hjl,rfl⟩:=List.getElem?_eq_some_iff.1 hc
      simpa using this
    have hE:finE l w a=10:=by unfold finE;rw [if_neg hf]
    have hB:finB m w a=((b0,10),m):=by unfold finB;rw [h.mb.all,find_no hn]
    rw [hB]
    refine ⟨by rw [hE];rfl,?_⟩
    unfold finR20;rw [hE];exact h
theorem BR.post {K Kp : MK} (B : KB K) (P : KP Kp) {m p : KV} {l : List BT} {po : Int} (h : BR K Kp m p l po) {to : Int} {r : Nat -> Int} {poster : Int} {g : Nat -> Int} {block : Int} (hpo : 0 <= po /\ po <= 1000000) (hto : (Lit.int .u64 to).wf = true) (hbl : (Lit.int .u64 block).wf = true) :
    (postB m p to r poster g block).1=((bif decide (postE l to poster block=0) then newB20 l po to r poster g block else b0),postE l to poster block)/\
    BR K Kp (postB m p to r poster g block).2.1 (postB m p to r poster g block).2.2 (postL l po to r poster g block) (bif decide (postE l to poster block=0) then po+1 else po):=by
  have hl:=h.last
  have hbl2:=wfW hbl
  unfold W at hbl2
  by_cases h1:16<=poster∨1099511627776<block
  · have hE:postE l to poster block=1:=by unfold postE;rw [if_pos h1]
    have hB:postB m p to r poster g block=((b0,1),m,p):=by unfold postB;rw [if_pos h1]
    rw [hB,hE]
    refine ⟨rfl,?_⟩
    unfold postL;rw [hE];exact h
  · have hiff:(to<(lastB m).1 2∨block<(lastB m).1 40)↔(to<endL l∨(0<l.length/\block<(lstL l).1 40)):=by
      rw [hl]
      show (to<endL l∨_)↔_
      by_cases q:0<l.length
      · simp [q]
      · have:l= []:=List.length_eq_zero_iff.1 (by omega)
        subst this
        have:(lstL []).1 40=0:=rfl
        rw [this]
        constructor
        · rintro (q | q)
          · exact .inl q
          · omega
        · rintro (q | q)
          · exact .inl q
          · exact absurd q.1 (by simp)
    by_cases h2:to<endL l∨(0<l.length/\block<(lstL l).1 40)
    · have hE:postE l to poster block=11:=by unfold postE;rw [if_neg h1,if_pos h2]
      have hB:postB m p to r poster g block=((b0,11),m,p):=by unfold postB;rw [if_neg h1,if_pos (hiff.2 h2)]
      rw [hB,hE]
      refine ⟨rfl,?_⟩
      unfold postL;rw [hE];exact h
    · have hE:postE l to poster block=0:=by unfold postE;rw [if_neg h1,if_neg h2]
      have hnx:ci ((Go.Sx.mget p (.int .u8 0)).getD (.int .u32 0))=po:=h.nx
      have hB:postB m p to r poster g block=((newB20 l po to r poster g block,0),mset m (.int .u32 po) (bV (newB20 l po to r poster g block)),mset p (.int .u8 0) (.int .u32 (po+1))):=by
        unfold postB;rw [if_neg h1,if_neg (fun q=>h2 (hiff.1 q)),hnx,if_neg (by omega),hl];rfl
      have hnew:=okB_new h.mb.ok (r:=r) (poster:=poster) (g:=g) hpo hto hbl
      rw [hB,hE]
      refine ⟨rfl,?_⟩
      unfold postL;rw [hE,if_pos rfl]
      have hm:=h.mb.add B hnew (fun a ha=>h.lt a ha)
      refine ⟨hm,h.kp.set P.k (P.v _ (wf32' (by omega) (by omega))),by unfold nxt;rw [mget_set,if_pos rfl];rfl,fun b hb=> ?_,fun b hb=> ?_⟩
      · show b.1 0<po+1
        rcases List.mem_append.1 hb with q | q
        · have:=h.lt b q;omega
        · simp at q;subst q;show po<po+1;omega
      · rcases List.mem_append.1 hb with q | q
        · exact h.bk b q
        · simp at q;subst q;show 0<=block/\block<=_;omega
theorem BR.eqm {K Kp:MK} {m p m2 p2:KV} {l:List BT} {po:Int} (h:BR K Kp m p l po) (hm:MOK m2) (em:EqM m2 m) (hp:MOK p2) (ep:EqM p2 p):BR K Kp m2 p2 l po:=
  ⟨⟨h.mb.kok.of_eq hm em,h.mb.ok,h.mb.up,fun k v=>by rw [em k];exact h.mb.get k v⟩,h.kp.of_eq hp ep,by rw [←h.nx];unfold nxt;rw [ep],h.lt,h.bk⟩
end Go.Sx
set_option linter.unusedVariables false
set_option linter.unusedSimpArgs false
namespace Go.Sx
open Go.RowKit
structure BS2 (K Kp:MK) (m p gm:KV) (v:Value) (po:Int):Prop where
  r:BR K Kp m p (bb gm v) po
  b:InB gm v (bb gm v)
theorem BS2.of {K Kp:MK} {m p gm:KV} {v:Value} {po:Int} {l:List BT} (r:BR K Kp m p l po) (b:InB gm v l):BS2 K Kp m p gm v po:=⟨by rw [b.bb];exact r,b.self⟩
abbrev DoX:=KV×KV×List Ent×KV×Slc×Int
structure DoR (K Kp:MK) (E Ep:Nat->KV->Value->Ent) (bm bp:Nat) (m p:KV) (L:List Ent) (gm:KV) (v:Value) (po:Int) (x:DoX):Prop where
  s:BS2 K Kp x.1 x.2.1 x.2.2.2.1 (slV x.2.2.2.2.1) x.2.2.2.2.2
  d:Dp K Kp E Ep bm bp m p x.1 x.2.1 L x.2.2.1 (1002+(bb gm v).length)
  g: ∀v' k',InBag gm v' k' ->InBag x.2.2.2.1 v' k'
  l:(bb x.2.2.2.1 (slV x.2.2.2.2.1)).length<=(bb gm v).length+1
  po:po<=x.2.2.2.2.2/\x.2.2.2.2.2<=po+1
theorem DoR.post {K Kp:MK} (B:KB K) (P:KP Kp) {E Ep:Nat->KV->Value->Ent} {bm bp:Nat} (hE:EntOK bm (E bm)) (hE' :EntOK bp (Ep bp)) (hne:bm≠bp) {m p:KV} {L:List Ent} {gm:KV} {v:Value} {po:Int} (s:BS2 K Kp m p gm v po) {to:Int} {r:Nat->Int} {poster:Int} {g:Nat->Int} {block:Int}
    (hpo:0<=po/\po<=1000000) (hto:(Lit.int .u64 to).wf=true) (hbl:(Lit.int .u64 block).wf=true) {y:(BT×Int)×KV×KV×List Ent} (hy:(y.1,y.2.1,y.2.2.1)=postB m p to r poster g block) (hd:Dpost K Kp E Ep bm bp m p y.2.1 y.2.2.1 L y.2.2.2)
    {z:KV×Slc} (hz:NewBB gm (postL (bb gm v) po to r poster g block) z):
    DoR K Kp E Ep bm bp m p L gm v po (y.2.1,y.2.2.1,y.2.2.2,z.1,z.2,bif decide (postE (bb gm v) to poster block=0) then po+1 else po):=by
  obtain ⟨h1,h2⟩:=s.r.post B P (r:=r) (poster:=poster) (g:=g) hpo hto hbl
  rw [←hy] at h2
  obtain ⟨L1,d1,d2⟩:=hd
  refine ⟨BS2.of h2 hz.1,?_,hz.2,?_,?_⟩
  · obtain ⟨Es,e1,e2,e3⟩:=Dp.of2 hE hE' hne d1 d2
    exact ⟨Es,e1,by omega,e3⟩
  · show (bb z.1 (slV z.2)).length<=_
    rw [hz.1.bb];unfold postL;split
    · simp
    · omega
  · show po<=(bif _ then po+1 else po)/\(bif _ then po+1 else po)<=po+1
    cases decide (postE (bb gm v) to poster block=0)<;>simp<;>omega
theorem DoR.fin {K Kp:MK} (B:KB K) {E Ep:Nat->KV->Value->Ent} {bm bp:Nat} (hE:EntOK bm (E bm)) (hne:bm≠bp) {m p:KV} {L:List Ent} {gm:KV} {v:Value} {po:Int} (s:BS2 K Kp m p gm v po) {w a:Int}
    {y:(BT×Int)×KV×List Ent} (hy:(y.1,y.2.1)=finB m w a) (hd:Dm K E bm m y.2.1 L y.2.2 1) {z:KV×Slc} (hz:NewBB gm (finR20 (bb gm v) w a) z):DoR K Kp E Ep bm bp m p L gm v po (y.2.1,p,y.2.2,z.1,z.2,po):=by
  obtain ⟨h1,h2⟩:=s.r.fin B w a
  rw [←hy] at h2
  refine ⟨BS2.of h2 hz.1,?_,hz.2,?_,⟨Int.le_refl _,by show po<=po+1;omega⟩⟩
  · obtain ⟨Es,e1,e2,e3⟩:=Dp.of (K' :=Kp) (E' :=Ep) (p:=p) hE hne hd
    exact ⟨Es,e1,by omega,e3⟩
  · show (bb z.1 (slV z.2)).length<=_
    rw [hz.1.bb];unfold finR20;split
    · unfold finL;simp
    · omega
end Go.Sx
set_option linter.unusedVariables false
set_option linter.unusedSimpArgs false
namespace Go.Sx
open Go.RowKit
theorem BS2.mono {K Kp:MK} {m p gm:KV} {v:Value} {po:Int} (s:BS2 K Kp m p gm v po) {gm' :KV} (g: ∀v' k',InBag gm v' k' ->InBag gm' v' k'):BS2 K Kp m p gm' v po/\bb gm' v=bb gm v:=by
  have hb:InB gm' v (bb gm v):=⟨g _ _ s.b.inb,s.b.ok⟩
  exact ⟨BS2.of s.r hb,hb.bb⟩
structure BPl (K Kp:MK) (E Ep:Nat->KV->Value->Ent) (bm bp:Nat) (i:Nat) (m p:KV) (L:List Ent) (gm:KV) (v vk:Value) (po pok mark:Int):Prop where
  now:BS2 K Kp m p gm v po
  len:(bb gm v).length<=i
  lenk:(bb gm vk).length<=i
  pos:0<=po/\po<=i
  posk:0<=pok/\pok<=i
  l:L.length<=1100*i
  ex: ∃ (mk pk:KV) (L0:List Ent) (k:Nat),mark=((L0.length:Nat):Int)/\Dp K Kp E Ep bm bp mk pk m p L0 L k/\BS2 K Kp mk pk gm vk pok
theorem BPl.start {K Kp:MK} {E Ep:Nat->KV->Value->Ent} {bm bp:Nat}:BPl K Kp E Ep bm bp 0 [] [] [] [] (slV (none,0,0)) (slV (none,0,0)) 0 0 0:=by
  have hb:InB [] (slV (none,0,0)) []:=⟨InBag.nil fun _ q=>(by cases q),fun b h=>by cases h⟩
  have hs:BS2 K Kp [] [] [] (slV (none,0,0)) 0:=BS2.of BR.start hb
  exact ⟨hs,by rw [hb.bb];exact Nat.le_refl _,by rw [hb.bb];exact Nat.le_refl _,by omega,by omega,Nat.zero_le _,[],[],[],0,rfl,Dp.refl,hs⟩
theorem BPl.mark {K Kp:MK} {E Ep:Nat->KV->Value->Ent} {bm bp i:Nat} {m p:KV} {L:List Ent} {gm:KV} {v vk:Value} {po pok mark:Int} (h:BPl K Kp E Ep bm bp i m p L gm v vk po pok mark):BPl K Kp E Ep bm bp (i+1) m p L gm v v po po ((L.length:Nat):Int):=by
  have hl:=h.len;have hp:=h.pos;have hL:=h.l
  exact ⟨h.now,by omega,by omega,by omega,by omega,by omega,m,p,L,0,rfl,Dp.refl,h.now⟩
theorem BPl.back {K Kp:MK} {E Ep:Nat->KV->Value->Ent} {bm bp i:Nat} {m p:KV} {L:List Ent} {gm:KV} {v vk:Value} {po pok mark:Int} (h:BPl K Kp E Ep bm bp i m p L gm v vk po pok mark) {m2 p2:KV} (u0:m2=undoB bm (L.drop (Int.toNat mark)) m) (u1:p2=undoB bp (L.drop (Int.toNat mark)) p):
    BPl K Kp E Ep bm bp (i+1) m2 p2 (L.take (Int.toNat mark)) gm vk vk pok pok mark:=by
  obtain ⟨mk,pk,L0,k,rfl,e2,e3⟩:=h.ex
  rw [Int.toNat_natCast] at *
  obtain ⟨t,a1,a2,a3,a4⟩:=e2.back h.now.r.mb.kok.once h.now.r.kp.once u0 u1
  have hk:=h.lenk;have hq:=h.posk;have hL:=h.l
  have hs:BS2 K Kp m2 p2 gm vk pok:=⟨e3.r.eqm a1 a2 a3 a4,e3.b⟩
  rw [t]
  have hL0:L0.length<=L.length:=by rw [←t,List.length_take];omega
  exact ⟨hs,by omega,by omega,by omega,by omega,by omega,m2,p2,L0,0,rfl,Dp.refl,hs⟩
theorem BPl.ents {K Kp:MK} {E Ep:Nat->KV->Value->Ent} {bm bp i:Nat} {m p:KV} {L:List Ent} {gm:KV} {v vk:Value} {po pok mark:Int} (h:BPl K Kp E Ep bm bp i m p L gm v vk po pok mark): ∀e∈L.drop (Int.toNat mark),(∃a key,e=E bm a key/\K.OkK key/\KOK K a)∨(∃a key,e=Ep bp a key/\Kp.OkK key/\KOK Kp a):=by
  obtain ⟨mk,pk,L0,k,rfl,⟨Es,rfl,_,_,_,ha⟩,e3⟩:=h.ex
  rw [Int.toNat_natCast,List.drop_left]
  exact ha
theorem BPl.same {K Kp:MK} {E Ep:Nat->KV->Value->Ent} {bm bp i:Nat} {m p:KV} {L:List Ent} {gm:KV} {v vk:Value} {po pok mark:Int} (h:BPl K Kp E Ep bm bp i m p L gm v vk po pok mark):allB m=bb gm v/\(lastB m).1 2=endL (bb gm v):=⟨h.now.r.mb.all,h.now.r.lend⟩
end Go.Sx
set_option linter.unusedVariables false
set_option linter.unusedSimpArgs false
namespace Go.Sx
open Go.RowKit
theorem BR.none {K Kp:MK} {m p:KV} {l:List BT} {po:Int} (h:BR K Kp m p l po) {n:Int} (hn:(Go.Sx.mget m (.int .u32 n)).isSome=false):unB ((Go.Sx.mget m (.int .u32 n)).getD (bV b0))=b0:=by
  cases hg:Go.Sx.mget m (.int .u32 n) with
  | none=>exact unB_bV okB0
  | some v=>rw [hg] at hn;cases hn
end Go.Sx
namespace Go.Sx
open Go.RowKit
def gt (xs:List Int) (t p:Int):Int:=xs.getD (0+t.toNat*18+p.toNat*1) 0
def rW (t p q n:Int):Int:=if 3<t∨17<p∨17<q then 1 else if n=0 then 3 else 0
def rI (n:Int):Int:=if 0<=n then (rInt n).1 else 0
def ixT (t p:Int):Nat:=0+t.toNat*18+p.toNat*1
def rsum (xs:List Int) (t:Int) (k:Nat):Int:=sumTo (fun p=>gt xs t p) k
def rMint (xs:List Int) (t p n:Int):List Int×Int:=
  if rW t p p n≠0 then (xs,rW t p p n) else if M256<=rsum xs t 18+n then (xs,2) else (tset xs (ixT t p) [rI (gt xs t p+n)],0)
def rBurn (xs:List Int) (t p n:Int):List Int×Int:=
  if rW t p p n≠0 then (xs,rW t p p n) else if gt xs t p<n then (xs,8) else (tset xs (ixT t p) [rI (gt xs t p - n)],0)
def rMove (xs : List Int) (t p q n : Int) : List Int × Int :=
  if rW t p q n≠0 then (xs,rW t p q n) else if gt xs t p<n then (xs,8) else
    (tset (tset xs (ixT t p) [rI (gt xs t p - n)]) (ixT t q) [rI (gt (tset xs (ixT t p) [rI (gt xs t p - n)]) t q+n)],0)
theorem rI_eq {n:Int} (h:R4 n):rI n=n:=by unfold rI rInt;rw [if_pos h.1,if_pos h.2]
theorem rI_of {n:Int} (h:0<=n):rI n=(rInt n).1:=if_pos h
theorem rI_all (n:Int):R4 (rI n):=by
  unfold rI;split
  · exact rInt_R (by assumption)
  · exact R4_zero
theorem rI_R {n:Int} (h:0<=n):R4 (rI n):=rI_all n
theorem okT.put {xs:List Int} (h:okT 72 xs) {t p v:Int} (hv:R4 v) (t0:0<=t) (t4:t<4) (p0:0<=p) (p18:p<18):okT 72 (Sx.tset xs (ixT t p) [v]):=h.tset (R4s1 hv) (by unfold ixT;simp only [List.length_cons,List.length_nil];omega)
theorem getD_tset {xs:List Int} {n:Nat} {v:Int} (hn:n<xs.length) (m:Nat):(tset xs n [v]).getD m 0=if m=n then v else xs.getD m 0:=by
  unfold tset
  rw [List.getD_eq_getElem?_getD,List.getD_eq_getElem?_getD]
  have hl:(xs.take n).length=n:=by rw [List.length_take];omega
  by_cases e:m=n
  · subst e
    rw [if_pos rfl,List.append_assoc,List.getElem?_append_right (by omega),hl]
    simp
  · rw [if_neg e]
    rcases Nat.lt_or_ge m n with q | q
    · rw [List.append_assoc,List.getElem?_append_left (by omega),List.getElem?_take_of_lt q]
    · rw [List.getElem?_append_right (by simp;omega),List.getElem?_drop]
      congr 2
      simp;omega
theorem gt_put {xs:List Int} (h:okT 72 xs) {t p v:Int} (t0:0<=t) (t4:t<4) (p0:0<=p) (p18:p<18) {t' p' :Int} (t0' :0<=t') (p0' :0<=p') (p18' :p' <18):gt (tset xs (ixT t p) [v]) t' p' =if t' =t/\p' =p then v else gt xs t' p' :=by
  unfold gt
  rw [getD_tset (by rw [h.1];unfold ixT;omega)]
  by_cases e:t' =t/\p' =p
  · rw [if_pos e,if_pos (by unfold ixT;obtain ⟨rfl,rfl⟩:=e;rfl)]
  · rw [if_neg e,if_neg (by unfold ixT;omega)]
structure DRT (Kb Ks:MK) (mb ms:KV) (xs:List Int):Prop where
  kb:KOK Kb mb
  ks:KOK Ks ms
  inr:InR mb
  ok:okT 72 xs
  bal: ∀t p,0<=t->t<4->0<=p->p<18->bal mb t p=gt xs t p
  sup: ∀t,0<=t->t<4->tot mb t=sup ms t
  so: ∀t,4<=t->Sx.sup ms t=0
theorem okT_zero72:okT 72 (List.replicate 72 0):=okT_zero 72
theorem gt_zero (t p:Int):gt (List.replicate 72 0) t p=0:=by
  unfold gt;rw [List.getD_eq_getElem?_getD,List.getElem?_replicate];split<;>rfl
theorem DRT.start {Kb Ks:MK}:DRT Kb Ks [] [] (List.replicate 72 0):=
  ⟨KOK.nil,KOK.nil,InR.nil,okT_zero72,fun t p _ _ _ _=>by rw [bal_nil,gt_zero],fun t _ _=>by
    unfold tot;rw [sup_nil,sumTo_congr (g:=fun _=>0) (fun p _=>bal_nil t p)];rfl,fun t _=>sup_nil t⟩
theorem DRT.tot {Kb Ks:MK} {mb ms:KV} {xs:List Int} (h:DRT Kb Ks mb ms xs) {t:Int} (t0:0<=t) (t4:t<4):rsum xs t 18=Sx.sup ms t:=by
  rw [←h.sup t t0 t4]
  exact sumTo_congr fun p hp=>(h.bal t p t0 t4 (by omega) (by omega)).symm
theorem DRT.eqm {Kb Ks:MK} {mb ms mb' ms' :KV} {xs:List Int} (h:DRT Kb Ks mb ms xs) (a1:MOK mb') (a2:EqM mb' mb) (a3:MOK ms') (a4:EqM ms' ms):DRT Kb Ks mb' ms' xs:=by
  have mem: ∀ {m m' :KV},MOK m' ->EqM m' m-> ∀e∈m',e∈m:=fun {m m'} h1 h2 e he=>by
    have:=mget_of_mem h1 he
    rw [h2 e.1] at this
    exact mget_mem this
  refine ⟨⟨a1,fun e he=>h.kb.ok e (mem a1 a2 e he)⟩,⟨a3,fun e he=>h.ks.ok e (mem a3 a4 e he)⟩,fun e he=>h.inr e (mem a1 a2 e he),h.ok,fun t p t0 t4 p0 p18=> ?_,fun t t0 t4=> ?_,fun t t4=> ?_⟩
  · rw [←h.bal t p t0 t4 p0 p18];unfold Sx.bal;rw [a2]
  · have e1:Sx.sup ms' t=Sx.sup ms t:=by unfold Sx.sup;rw [a4]
    rw [e1,←h.sup t t0 t4]
    exact sumTo_congr fun p _=>by show Sx.bal mb' t p=Sx.bal mb t p;unfold Sx.bal;rw [a2]
  · rw [←h.so t t4];unfold Sx.sup;rw [a4]
section
variable {Kb Ks:MK} {mb ms:KV} {L:List Ent} {xs:List Int}
theorem bw_rw1 {t p n:Int}:bw1 t p n=rW t p p n:=by
  unfold bw1 rW
  by_cases h:4<=t∨18<=p
  · rw [if_pos h,if_pos (by omega)]
  · have h2: ¬ (3<t∨17<p∨17<p):=by omega
    rw [if_neg h,if_neg h2]
theorem bw_rw2 {t p q n:Int}:bw2 t p q n=rW t p q n:=by
  unfold bw2 rW
  by_cases h:4<=t∨18<=p∨18<=q
  · rw [if_pos h,if_pos (by omega)]
  · have h2: ¬ (3<t∨17<p∨17<q):=by omega
    rw [if_neg h,if_neg h2]
theorem rW_z {t p q n:Int} (h: ¬rW t p q n≠0):t<4/\p<18/\q<18/\n≠0:=by
  unfold rW at h
  split at h
  · exact absurd (by decide:(1:Int)≠0) h
  · split at h
    · exact absurd (by decide:(3:Int)≠0) h
    · refine ⟨by omega,by omega,by omega,by assumption⟩
theorem DRT.ci (h:DRT Kb Ks mb ms xs) (ns:NumK Ks) (L:List Ent):CI Kb Ks (mb,ms,L) (fun u=>Sx.sup ms u) (fun _=>0) 1:=
  ⟨h.kb,h.ks,h.sup,ns,fun t _ _=>by simp,fun t _ _=>Int.le_refl _,fun t _ _=>by have:=(KOK.R4v ns h.ks (.int .u8 t)).2;show Sx.sup ms t<=_;unfold Sx.sup M256;omega⟩
theorem DRT.mint (h : DRT Kb Ks mb ms xs) (nb : NumK Kb) (ns : NumK Ks) (ob : ∀ t p, Kb.OkK (kk t p)) (os : ∀ t : Int, Ks.OkK (.int .u8 t)) {eb es : KV -> Value -> Ent} {t p n : Int} (hn : R4 n) (t0 : 0 <= t) (p0 : 0 <= p) {x : Int × BS} (hx : x = bMint eb es (mb, ms, L) t p n) :
    x.1=(rMint xs t p n).2/\DRT Kb Ks x.2.1 x.2.2.1 (rMint xs t p n).1:=by
  have hci:=CI.mint nb ns ob os (h.ci ns L) (eb:=eb) (es:=es) hn t0 p0 hx
  obtain ⟨i1,i2,i3,_,_⟩:=bMint_in (s:=(mb,ms,L)) h.kb h.ks h.inr nb ns ob os hn t0 p0 hx
  subst hx
  unfold bMint rMint at *
  rw [bw_rw1] at *
  by_cases hw:rW t p p n≠0
  · rw [if_pos hw,if_pos hw];exact ⟨rfl,h⟩
  · obtain ⟨t4,p18,_,_⟩:=rW_z hw
    simp only [if_neg hw] at *
    rw [h.tot t0 t4]
    by_cases hov:M256<=Sx.sup ms t+n
    · rw [if_pos hov,if_pos hov];exact ⟨rfl,h⟩
    · simp only [if_neg hov] at *
      have hci' :=hci.resolve_right fun q=>absurd rfl q.1
      have hb:=tot_bal nb h.kb (t:=t) p0 p18
      rw [h.sup t t0 t4] at hb
      have hle:Sx.bal mb t p+n<M256:=by omega
      have rb:R4 (Sx.bal mb t p+n):=⟨by have:=hn.1;omega,hle⟩
      have ha:(hAdd (Sx.bal mb t p) n).1=Sx.bal mb t p+n:=by unfold hAdd;rw [if_pos hle]
      have e1:=h.bal t p t0 t4 p0 p18
      have hv:rI (gt xs t p+n)=Sx.bal mb t p+n:=by rw [←e1,rI_eq rb]
      refine ⟨by first | rfl | trivial,i1,i2,i3,h.ok.put (by rw [hv];exact rb) t0 t4 p0 p18,fun t' p' a b c d=> ?_,fun u a b=>hci'.2.2.eq u a b,fun u a=>by
        show Sx.sup (mset ms _ _) u=0
        rw [sup_set _ ⟨by have:=(KOK.R4v ns h.ks (.int .u8 t)).1;have:=hn.1;unfold Sx.sup;omega,Int.not_le.1 hov⟩,if_neg (by omega)]
        exact h.so u a⟩
      show Sx.bal (mput mb (kk t p) _) t' p' =_
      rw [ha,bal_put h.kb.once rb,gt_put h.ok t0 t4 p0 p18 a c d,hv]
      by_cases q:t' =t/\p' =p
      · rw [if_pos q,if_pos q]
      · rw [if_neg q,if_neg q];exact h.bal t' p' a b c d
theorem hSub_R4 {a b:Int} (ha:R4 a) (hb:R4 b):R4 (hSub a b).1:=by
  unfold hSub
  split
  · exact ⟨by dsimp only;omega,by have:=ha.2;have:=hb.1;dsimp only;omega⟩
  · exact R4_zero
theorem bBurn_in {s : BS} (hb : KOK Kb s.1) (hs : KOK Ks s.2.1) (hi : InR s.1) (nb : NumK Kb) (ns : NumK Ks) (ob : ∀ t p, Kb.OkK (kk t p)) (os : ∀ t : Int, Ks.OkK (.int .u8 t)) {eb es : KV -> Value -> Ent} {t p n : Int} (hn : R4 n) (t0 : 0 <= t) (p0 : 0 <= p) {x : Int × BS} (hx : x = bBurn eb es s t p n) :
    KOK Kb x.2.1/\KOK Ks x.2.2.1/\InR x.2.1:=by
  subst hx
  unfold bBurn
  split
  · exact ⟨hb,hs,hi⟩
  · rename_i hw
    split
    · exact ⟨hb,hs,hi⟩
    · rename_i hov
      have hw' :t<4/\p<18:=by
        unfold bw1 at hw
        split at hw
        · exact absurd (by decide:(1:Int)≠0) hw
        · omega
      have hB:=KOK.R4v nb hb (kk t p)
      have rB:R4 (bal s.1 t p - n):=⟨by have: ¬Sx.bal s.1 t p<n:=hov;omega,by have:=hB.2;have:=hn.1;show Sx.bal s.1 t p - n<_;unfold Sx.bal;omega⟩
      have rS:R4 (hSub (Sx.sup s.2.1 t) n).1:=by
        have hR:=KOK.R4v ns hs (.int .u8 t)
        unfold hSub
        split
        · exact ⟨by dsimp only;omega,by have:=hR.2;have:=hn.1;dsimp only;show Sx.sup s.2.1 t - n<_;unfold Sx.sup;omega⟩
        · exact R4_zero
      exact ⟨hb.put nb (ob t p) rB,hs.set (os t) ((ns _).2 ⟨_,rS,rfl⟩),hi.put rB t0 hw'.1 p0 hw'.2⟩
theorem DRT.burn (h : DRT Kb Ks mb ms xs) (nb : NumK Kb) (ns : NumK Ks) (ob : ∀ t p, Kb.OkK (kk t p)) (os : ∀ t : Int, Ks.OkK (.int .u8 t)) {eb es : KV -> Value -> Ent} {t p n : Int} (hn : R4 n) (t0 : 0 <= t) (p0 : 0 <= p) {x : Int × BS} (hx : x = bBurn eb es (mb, ms, L) t p n) :
    x.1=(rBurn xs t p n).2/\DRT Kb Ks x.2.1 x.2.2.1 (rBurn xs t p n).1:=by
  have hci:=CI.burn nb ns ob os (h.ci ns L) (eb:=eb) (es:=es) hn t0 p0 hx
  obtain ⟨i1,i2,i3⟩:=bBurn_in (s:=(mb,ms,L)) h.kb h.ks h.inr nb ns ob os hn t0 p0 hx
  subst hx
  unfold bBurn rBurn at *
  rw [bw_rw1] at *
  by_cases hw:rW t p p n≠0
  · rw [if_pos hw,if_pos hw];exact ⟨rfl,h⟩
  · obtain ⟨t4,p18,_,_⟩:=rW_z hw
    have e1:=h.bal t p t0 t4 p0 p18
    simp only [if_neg hw] at *
    rw [←e1]
    by_cases hov:Sx.bal mb t p<n
    · rw [if_pos hov,if_pos hov];exact ⟨rfl,h⟩
    · simp only [if_neg hov] at *
      have hci' :=hci.resolve_right fun q=>absurd rfl q.1
      have hB:=KOK.R4v nb h.kb (kk t p)
      have rb:R4 (Sx.bal mb t p - n):=⟨by omega,by have:=hB.2;have:=hn.1;show Sx.bal mb t p - n<_;unfold Sx.bal;omega⟩
      have hv:rI (Sx.bal mb t p - n)=Sx.bal mb t p - n:=rI_eq rb
      refine ⟨by first | rfl | trivial,i1,i2,i3,h.ok.put (by rw [hv];exact rb) t0 t4 p0 p18,fun t' p' a b c d=> ?_,fun u a b=>hci'.2.2.eq u a b,fun u a=>by
        show Sx.sup (mset ms _ _) u=0
        rw [sup_set _ (show R4 (hSub (Sx.sup ms t) n).1 from hSub_R4 (KOK.R4v ns h.ks _) hn),if_neg (by omega)]
        exact h.so u a⟩
      show Sx.bal (mput mb (kk t p) _) t' p' =_
      rw [bal_put h.kb.once rb,gt_put h.ok t0 t4 p0 p18 a c d,hv]
      by_cases q:t' =t/\p' =p
      · rw [if_pos q,if_pos q]
      · rw [if_neg q,if_neg q];exact h.bal t' p' a b c d
theorem DRT.move (h : DRT Kb Ks mb ms xs) (nb : NumK Kb) (ns : NumK Ks) (ob : ∀ t p, Kb.OkK (kk t p)) {eb : KV -> Value -> Ent} {t p q n : Int} (hn : R4 n) (t0 : 0 <= t) (p0 : 0 <= p) (q0 : 0 <= q) {x : Int × BS} (hx : x = bMove eb (mb, ms, L) t p q n) :
    x.1=(rMove xs t p q n).2/\DRT Kb Ks x.2.1 x.2.2.1 (rMove xs t p q n).1:=by
  have hci:=CI.move nb ob (h.ci ns L) (eb:=eb) hn t0 p0 q0 hx
  obtain ⟨i1,i2,i3,_,_⟩:=bMove_in (s:=(mb,ms,L)) h.kb h.ks h.inr nb ob hn t0 p0 q0 hx
  subst hx
  unfold bMove rMove at *
  rw [bw_rw2] at *
  by_cases hw:rW t p q n≠0
  · rw [if_pos hw,if_pos hw];exact ⟨rfl,h⟩
  · obtain ⟨t4,p18,q18,_⟩:=rW_z hw
    have e1:=h.bal t p t0 t4 p0 p18
    simp only [if_neg hw] at *
    rw [←e1]
    by_cases hov:Sx.bal mb t p<n
    · rw [if_pos hov,if_pos hov];exact ⟨rfl,h⟩
    · simp only [if_neg hov] at *
      have hB:=KOK.R4v nb h.kb (kk t p)
      have rb:R4 (Sx.bal mb t p - n):=⟨by omega,by have:=hB.2;have:=hn.1;show Sx.bal mb t p - n<_;unfold Sx.bal;omega⟩
      have hv:rI (Sx.bal mb t p - n)=Sx.bal mb t p - n:=rI_eq rb
      have ok1:okT 72 (tset xs (ixT t p) [Sx.bal mb t p - n]):=h.ok.put rb t0 t4 p0 p18
      have k1:KOK Kb (mput mb (kk t p) (Sx.bal mb t p - n)):=h.kb.put nb (ob t p) rb
      have b1: ∀t' p',0<=t' ->t' <4->0<=p' ->p' <18->Sx.bal (mput mb (kk t p) (Sx.bal mb t p - n)) t' p' =gt (tset xs (ixT t p) [Sx.bal mb t p - n]) t' p' :=fun t' p' a b c d=>by
        rw [bal_put h.kb.once rb,gt_put h.ok t0 t4 p0 p18 a c d]
        by_cases q:t' =t/\p' =p
        · rw [if_pos q,if_pos q]
        · rw [if_neg q,if_neg q];exact h.bal t' p' a b c d
      rw [hv]
      have e2:=b1 t q t0 t4 q0 q18
      have hle:Sx.bal (mput mb (kk t p) (Sx.bal mb t p - n)) t q+n<M256:=by
        have ht:=tot_bal nb k1 (t:=t) q0 q18
        rw [tot_put h.kb.once rb p0 p18,if_pos rfl] at ht
        have hs:=h.sup t t0 t4
        have hR:=(KOK.R4v ns h.ks (.int .u8 t)).2
        have hS:Sx.sup ms t<M256:=hR
        omega
      have r2:R4 (Sx.bal (mput mb (kk t p) (Sx.bal mb t p - n)) t q+n):=⟨by have hbq:0<=Sx.bal (mput mb (kk t p) (Sx.bal mb t p - n)) t q:=(KOK.R4v nb k1 (kk t q)).1;have:=hn.1;omega,hle⟩
      have ha:(hAdd (Sx.bal (mput mb (kk t p) (Sx.bal mb t p - n)) t q) n).1=Sx.bal (mput mb (kk t p) (Sx.bal mb t p - n)) t q+n:=by unfold hAdd;rw [if_pos hle]
      have hv2:rI (gt (tset xs (ixT t p) [Sx.bal mb t p - n]) t q+n)=Sx.bal (mput mb (kk t p) (Sx.bal mb t p - n)) t q+n:=by rw [←e2,rI_eq r2]
      refine ⟨by first | rfl | trivial,i1,i2,i3,ok1.put (by rw [hv2];exact r2) t0 t4 q0 q18,fun t' p' a b c d=> ?_,fun u a b=> ?_,h.so⟩
      · show Sx.bal (mput (mput mb (kk t p) (Sx.bal mb t p - n)) (kk t q) _) t' p' =_
        show Sx.bal (mput (mput mb (kk t p) (Sx.bal mb t p - n)) (kk t q) (hAdd (Sx.bal (mput mb (kk t p) (Sx.bal mb t p - n)) t q) n).1) t' p' =_
        rw [ha,bal_put k1.once r2,gt_put ok1 t0 t4 q0 q18 a c d,hv2]
        by_cases q:t' =t/\p' =q
        · rw [if_pos q,if_pos q]
        · rw [if_neg q,if_neg q];exact b1 t' p' a b c d
      · exact hci.eq u a b
end
end Go.Sx
namespace Go.Sx
open Go.RowKit
theorem Dp.ofR {K K' :MK} {E E' :Nat->KV->Value->Ent} {b b' :Nat} (hE' :EntOK b' (E' b')) (hn:b≠b') {m p p' :KV} {L L' :List Ent} {k:Nat} (h:Dm K' E' b' p p' L L' k):Dp K K' E E' b b' m p m p' L L' k:=by
  obtain ⟨Es,e,l,u,a⟩:=h
  exact ⟨Es,e,l,Und.others m fun x hx=>(by obtain ⟨a0,k0,rfl,_⟩:=a x hx;rw [hE'.b];exact hn.symm),u,fun x hx=> .inr (a x hx)⟩
section
variable {Kb Ks:MK} {E E' :Nat->KV->Value->Ent} {b b' :Nat}
theorem bPut_dm (hE:EntOK b (E b)) {s:BS} (hk:KOK Kb s.1) {k:Value} (ok:Kb.OkK k) (n:Int):Dm Kb E b s.1 (bPut (E b) s k n).1 s.2.2 (bPut (E b) s k n).2.2 1:=by
  unfold bPut mput putL
  by_cases h:n=0
  · simp only [if_pos h];exact Dm.drop hE ok hk rfl rfl
  · simp only [if_neg h];exact Dm.set hE ok hk ⟨rfl,rfl⟩
theorem bSup_dm (hE' :EntOK b' (E' b')) {s:BS} (hk:KOK Ks s.2.1) {t:Int} (ok:Ks.OkK (.int .u8 t)) (n:Int):Dm Ks E' b' s.2.1 (bSup (E' b') s t n).2.1 s.2.2 (bSup (E' b') s t n).2.2 1:=Dm.set hE' ok hk ⟨rfl,rfl⟩
def DA (Kb Ks:MK) (E E' :Nat->KV->Value->Ent) (b b' :Nat) (s s' :BS):Prop:=Dp Kb Ks E E' b b' s.1 s.2.1 s'.1 s'.2.1 s.2.2 s'.2.2 2
theorem mint_da (hE:EntOK b (E b)) (hE' :EntOK b' (E' b')) (hn:b≠b') (ob: ∀t p,Kb.OkK (kk t p)) (os: ∀t:Int,Ks.OkK (.int .u8 t)) {s:BS} (hb:KOK Kb s.1) (hs:KOK Ks s.2.1) {t p n:Int} {x:Int×BS} (hx:x=bMint (E b) (E' b') s t p n):DA Kb Ks E E' b b' s x.2:=by
  subst hx
  unfold bMint
  split
  · exact Dp.refl
  · split
    · exact Dp.refl
    · have h1:=bSup_dm (E' :=E') hE' hs (os t) (Sx.sup s.2.1 t+n)
      have h2:=bPut_dm (Kb:=Kb) (E:=E) hE (s:=bSup (E' b') s t (Sx.sup s.2.1 t+n)) hb (ob t p) (hAdd (bal s.1 t p) n).1
      exact (Dp.ofR hE' hn h1).trans (Dp.of hE hn h2)
theorem burn_da (hE:EntOK b (E b)) (hE' :EntOK b' (E' b')) (hn:b≠b') (ob: ∀t p,Kb.OkK (kk t p)) (os: ∀t:Int,Ks.OkK (.int .u8 t)) {s:BS} (hb:KOK Kb s.1) (hs:KOK Ks s.2.1) {t p n:Int} {x:Int×BS} (hx:x=bBurn (E b) (E' b') s t p n):DA Kb Ks E E' b b' s x.2:=by
  subst hx
  unfold bBurn
  split
  · exact Dp.refl
  · split
    · exact Dp.refl
    · have h1:=bSup_dm (E' :=E') hE' hs (os t) (hSub (Sx.sup s.2.1 t) n).1
      have h2:=bPut_dm (Kb:=Kb) (E:=E) hE (s:=bSup (E' b') s t (hSub (Sx.sup s.2.1 t) n).1) hb (ob t p) (bal s.1 t p - n)
      exact (Dp.ofR hE' hn h1).trans (Dp.of hE hn h2)
theorem move_da (hE:EntOK b (E b)) (hE' :EntOK b' (E' b')) (hn:b≠b') (nb:NumK Kb) (ob: ∀t p,Kb.OkK (kk t p)) {s:BS} (hb:KOK Kb s.1) {t p q n:Int} (hn4:R4 n) {x:Int×BS} (hx:x=bMove (E b) s t p q n):DA Kb Ks E E' b b' s x.2:=by
  subst hx
  unfold bMove
  split
  · exact Dp.refl
  · split
    · exact Dp.refl
    · rename_i hov
      have hB:=KOK.R4v nb hb (kk t p)
      have rb:R4 (bal s.1 t p - n):=⟨by have: ¬bal s.1 t p<n:=hov;omega,by have:=hB.2;have:=hn4.1;show bal s.1 t p - n<_;unfold bal;omega⟩
      have h1:=bPut_dm (Kb:=Kb) (E:=E) hE (s:=s) hb (ob t p) (bal s.1 t p - n)
      have k1:KOK Kb (bPut (E b) s (kk t p) (bal s.1 t p - n)).1:=hb.put nb (ob t p) rb
      have h2:=bPut_dm (Kb:=Kb) (E:=E) hE (s:=bPut (E b) s (kk t p) (bal s.1 t p - n)) k1 (ob t q) (hAdd (bal (bPut (E b) s (kk t p) (bal s.1 t p - n)).1 t q) n).1
      exact Dp.of hE hn (h1.trans h2)
structure BkP (Kb Ks:MK) (E E' :Nat->KV->Value->Ent) (b b' :Nat) (i:Nat) (s:BS) (xs xk:List Int) (mark:Int):Prop where
  now:DRT Kb Ks s.1 s.2.1 xs
  l:s.2.2.length<=2*i
  okk:okT 72 xk
  ex: ∃ (mk pk:KV) (L0:List Ent) (k:Nat),mark=((L0.length:Nat):Int)/\Dp Kb Ks E E' b b' mk pk s.1 s.2.1 L0 s.2.2 k/\DRT Kb Ks mk pk xk
theorem BkP.start:BkP Kb Ks E E' b b' 0 ([],[],[]) (List.replicate 72 0) (List.replicate 72 0) 0:=⟨DRT.start,Nat.zero_le _,okT_zero72,[],[],[],0,rfl,Dp.refl,DRT.start⟩
theorem BkP.mark {i:Nat} {s:BS} {xs xk:List Int} {mark:Int} (h:BkP Kb Ks E E' b b' i s xs xk mark):BkP Kb Ks E E' b b' (i+1) s xs xs ((s.2.2.length:Nat):Int):=
  ⟨h.now,by have:=h.l;omega,h.now.ok,s.1,s.2.1,s.2.2,0,rfl,Dp.refl,h.now⟩
theorem BkP.back {i:Nat} {s:BS} {xs xk:List Int} {mark:Int} (h:BkP Kb Ks E E' b b' i s xs xk mark) {m2 p2:KV} (u0:m2=undoB b (s.2.2.drop (Int.toNat mark)) s.1) (u1:p2=undoB b' (s.2.2.drop (Int.toNat mark)) s.2.1):
    BkP Kb Ks E E' b b' (i+1) (m2,p2,s.2.2.take (Int.toNat mark)) xk xk mark:=by
  obtain ⟨mk,pk,L0,k,rfl,e2,e3⟩:=h.ex
  rw [Int.toNat_natCast] at *
  obtain ⟨t,a1,a2,a3,a4⟩:=e2.back h.now.kb.once h.now.ks.once u0 u1
  have hL:=h.l
  have hs:DRT Kb Ks m2 p2 xk:=e3.eqm a1 a2 a3 a4
  rw [t]
  have hL0:L0.length<=s.2.2.length:=by rw [←t,List.length_take];omega
  exact ⟨hs,by show L0.length<=_;omega,h.okk,m2,p2,L0,0,rfl,Dp.refl,hs⟩
theorem BkP.ents {i:Nat} {s:BS} {xs xk:List Int} {mark:Int} (h:BkP Kb Ks E E' b b' i s xs xk mark): ∀e∈s.2.2.drop (Int.toNat mark),(∃a key,e=E b a key/\Kb.OkK key/\KOK Kb a)∨(∃a key,e=E' b' a key/\Ks.OkK key/\KOK Ks a):=by
  obtain ⟨mk,pk,L0,k,rfl,⟨Es,e,_,_,_,ha⟩,e3⟩:=h.ex
  rw [e,Int.toNat_natCast,List.drop_left]
  exact ha
end
def dg32 (n:Int):List Int:=dg8 (lim n 3)++(dg8 (lim n 2)++(dg8 (lim n 1)++dg8 (lim n 0)))
def tx1 (xs:List Int) (j:Nat):List Int:=if xs.getD j 0=0 then [] else [((j/18:Nat):Int),((j%18:Nat):Int)]++dg32 (xs.getD j 0)
def txN (xs:List Int):Nat->List Int
  | 0=> []
  | n+1=>txN xs n++tx1 xs n
theorem dg32_len (n:Int):(dg32 n).length=32:=rfl
theorem tx1_len (xs:List Int) (j:Nat):(tx1 xs j).length<=34:=by unfold tx1;split<;>simp [dg32_len]
theorem txN_len (xs:List Int): ∀n,(txN xs n).length<=34*n
  | 0=>Nat.le_refl _
  | n+1=>by rw [txN,List.length_append];have:=txN_len xs n;have:=tx1_len xs n;omega
theorem l32_dg {n:Int}:l32 (ib4 (lim n 0) (lim n 1) (lim n 2) (lim n 3))=dg32 n:=by
  have h0:=nb8_dg (W_lim n 0);have h1:=nb8_dg (W_lim n 1);have h2:=nb8_dg (W_lim n 2);have h3:=nb8_dg (W_lim n 3)
  unfold dg32
  rw [←h0,←h1,←h2,←h3]
  rfl
theorem eB_dg {t p:Int} (t0:0<=t) (t1:t<256) (p0:0<=p) (p1:p<256) {v:Int} (hv:R4 v):eB (kk t p) (vI v)= [t,p]++dg32 v:=by
  have e: ∀x:Int,0<=x->x<256->nb1 (IntKind.u64.wrap x)= [x]:=fun x h0 h1=>by
    unfold nb1
    rw [wrap_W ⟨h0,by omega⟩,show (2:Int)^0=1 from rfl,Int.fdiv_one,wrap_u8 _ h0 (by omega)]
  unfold eB
  rw [num_vI hv,l32_dg]
  show nb1 (IntKind.u64.wrap t)++(nb1 (IntKind.u64.wrap p)++dg32 v)=_
  rw [e t t0 t1,e p p0 p1];rfl
def tks (xs:List Int):Nat->List Value
  | 0=> []
  | n+1=>tks xs n++(if xs.getD n 0=0 then [] else [kk ((n/18:Nat):Int) ((n%18:Nat):Int)])
theorem mem_tks {xs : List Int} {v : Value} : ∀ {n : Nat}, v ∈ tks xs n ↔ ∃ j, j < n /\ xs.getD j 0 ≠ 0 /\ v = kk ((j / 18 : Nat) : Int) ((j % 18 : Nat) : Int)
  | 0=>by simp [tks]
  | n + 1 => by
    rw [tks,List.mem_append,mem_tks (n:=n)]
    constructor
    · rintro (⟨j,h1,h2,h3⟩ | h)
      · exact ⟨j,by omega,h2,h3⟩
      · split at h
        · cases h
        · simp only [List.mem_singleton] at h;exact ⟨n,by omega,by assumption,h⟩
    · rintro ⟨j,h1,h2,h3⟩
      rcases Nat.lt_or_ge j n with q | q
      · exact .inl ⟨j,q,h2,h3⟩
      · have:j=n:=by omega
        subst this
        right;rw [if_neg h2];simp [h3]
theorem tks_rise (xs:List Int): ∀n,Rise2 (tks xs n)
  | 0=>List.Pairwise.nil
  | n + 1 => by
    rw [tks]
    unfold Rise2
    rw [List.pairwise_append]
    refine ⟨tks_rise xs n,by split<;>simp,fun a ha c hc=> ?_⟩
    obtain ⟨j,h1,_,rfl⟩:=mem_tks.1 ha
    split at hc
    · cases hc
    · simp only [List.mem_singleton] at hc;subst hc
      rw [c2_kk,c2_kk,ahd_iff]
      show ((j/18:Nat):Int)<((n/18:Nat):Int)∨(((j/18:Nat):Int)=((n/18:Nat):Int)/\((j%18:Nat):Int)<((n%18:Nat):Int))
      omega
theorem rise2_ext : ∀ {l l' : List Value}, Rise2 l -> Rise2 l' -> (∀ v, v ∈ l ↔ v ∈ l') -> l = l'
  | [],[],_,_,_=>rfl
  | [],b::l',_,_,h=>absurd ((h b).2 (List.mem_cons_self ..)) (by simp)
  | a::l,[],_,_,h=>absurd ((h a).1 (List.mem_cons_self ..)) (by simp)
  | a :: l, b :: l', h1, h2, h => by
    unfold Rise2 at h1 h2
    rw [List.pairwise_cons] at h1 h2
    have irr: ∀v,ahd (c2 v) (c2 v)=true->False:=fun v q=>by have:=(ahd_iff _ _).1 q;omega
    have e:a=b:=by
      rcases List.mem_cons.1 ((h a).1 (List.mem_cons_self ..)) with e | hm
      · exact e
      · rcases List.mem_cons.1 ((h b).2 (List.mem_cons_self ..)) with e | hm'
        · exact e.symm
        · have q1:=(ahd_iff _ _).1 (h2.1 _ hm);have q2:=(ahd_iff _ _).1 (h1.1 _ hm');omega
    subst e
    have hm: ∀v,v∈l↔v∈l' :=fun v=>by
      constructor
      · intro hv
        rcases List.mem_cons.1 ((h v).1 (List.mem_cons_of_mem _ hv)) with e | hm
        · subst e;exact (irr _ (h1.1 _ hv)).elim
        · exact hm
      · intro hv
        rcases List.mem_cons.1 ((h v).2 (List.mem_cons_of_mem _ hv)) with e | hm
        · subst e;exact (irr _ (h2.1 _ hv)).elim
        · exact hm
    rw [rise2_ext h1.2 h2.2 hm]
theorem gt_at {xs:List Int} {j:Nat}:gt xs ((j/18:Nat):Int) ((j%18:Nat):Int)=xs.getD j 0:=by
  unfold gt
  congr 1
  rw [Int.toNat_natCast,Int.toNat_natCast];omega
theorem DRT.keys {Kb Ks:MK} {mb ms:KV} {xs:List Int} (h:DRT Kb Ks mb ms xs) {l:List Value} (hl:KeysOf2 mb l):l=tks xs 72:=by
  refine rise2_ext hl.2.1 (tks_rise xs 72) fun v=> ?_
  rw [hl.1.mem_iff,mem_tks]
  constructor
  · intro hv
    obtain ⟨e,he,rfl⟩:=List.mem_map.1 hv
    obtain ⟨t,p,n,rfl,t0,t4,p0,p18,rn,nz⟩:=h.inr e he
    have hg:mget mb (kk t p)=some (vI n):=mget_of_mem h.kb.once he
    have hb:Sx.bal mb t p=n:=by unfold Sx.bal;rw [hg];exact num_vI rn
    have hq:=h.bal t p t0 t4 p0 p18
    refine ⟨t.toNat*18+p.toNat,by omega,?_,?_⟩
    · have e2:xs.getD (t.toNat*18+p.toNat) 0=gt xs t p:=by unfold gt;congr 1;omega
      rw [e2,←hq,hb];exact nz
    · show kk t p=_
      rw [show (((t.toNat*18+p.toNat)/18:Nat):Int)=t by omega,show (((t.toNat*18+p.toNat)%18:Nat):Int)=p by omega]
  · rintro ⟨j,hj,hz,rfl⟩
    have hq:=h.bal ((j/18:Nat):Int) ((j%18:Nat):Int) (by omega) (by omega) (by omega) (by omega)
    rw [gt_at] at hq
    cases hg:mget mb (kk ((j/18:Nat):Int) ((j%18:Nat):Int)) with
    | none =>
      unfold Sx.bal at hq
      rw [hg,Option.getD_none,num_vI R4_zero] at hq
      exact absurd hq.symm hz
    | some x=>exact List.mem_map.2 ⟨_,mget_mem hg,rfl⟩
theorem DRT.text {Kb Ks : MK} {mb ms : KV} {xs : List Int} (h : DRT Kb Ks mb ms xs) (nb : NumK Kb) {l : List Value} (hl : KeysOf2 mb l) : bkB mb l = txN xs 72 := by
  rw [h.keys hl]
  have: ∀n,n<=72->bkB mb (tks xs n)=txN xs n:=by
    intro n
    induction n with
    | zero=>intro _;rfl
    | succ n ih =>
      intro hn
      rw [tks,txN,←ih (by omega)]
      unfold bkB
      rw [List.flatMap_append]
      congr 1
      unfold tx1
      split
      · rfl
      · simp only [List.flatMap_cons,List.flatMap_nil,List.append_nil]
        have hq:=h.bal ((n/18:Nat):Int) ((n%18:Nat):Int) (by omega) (by omega) (by omega) (by omega)
        rw [gt_at] at hq
        have hv:(mget mb (kk ((n/18:Nat):Int) ((n%18:Nat):Int))).getD (vI 0)=vI (xs.getD n 0):=by
          rw [←hq]
          unfold Sx.bal
          cases hg:mget mb (kk ((n/18:Nat):Int) ((n%18:Nat):Int)) with
          | none=>rw [Option.getD_none,num_vI R4_zero]
          | some x =>
            obtain ⟨v,hv,rfl⟩:=(nb x).1 (h.kb.val hg)
            rw [Option.getD_some,num_vI hv]
        rw [hv]
        exact eB_dg (by omega) (by omega) (by omega) (by omega) (h.ok.get _)
  exact this 72 (Nat.le_refl _)
end Go.Sx
set_option linter.unusedVariables false
namespace Go.Sx
open Go.RowKit
def F_tpart (k:Nat):List Value->List Slot->Ctr:=fun vs hs=>⟨List Int,tnV,fun _=>hs,fun z=>okT k z/\z=((utn (sval (sarg hs 0))).drop (voff (varg vs 0)/4)).take k⟩
theorem okT_part {m:Nat} {xs:List Int} (h:okT m xs) {n k:Nat} (hn:n+k<=m):okT k ((xs.drop n).take k):=
  ⟨by rw [List.length_take,List.length_drop,h.1];omega,fun x hx=>h.2 x (List.mem_of_mem_drop (List.mem_of_mem_take hx))⟩
theorem xtpartV {P:Program} {e:TypeId} {m:Nat} (n k K:Nat) (ha: ∀w,(isAgg e).run P w= .ok true w) (hk: ∀w,(sizeOf e).run P w= .ok K w) (hK:K=k*4) (b:Nat) (ty:TypeId) {xs:List Int} (hx:okT m xs) (o:Nat) (ho:o=n*4) (h:n+k<=m):
    OpT P (do pure (.value (←Instr.loadAt e (.pointer (some ⟨b,o,none⟩))))) [tb b ty (tnV xs)] (List Int) tnV (fun _=> [tb b ty (tnV xs)]) (fun z=>okT k z/\z=((utn (sval (tb b ty (tnV xs)))).drop (o/4)).take k):=by
  intro R w hw
  obtain ⟨_,w',_,hr,ho',he⟩:=xtpart (P:=P) n k K ha hk hK b ty xs o ho (by rw [hx.1];exact h) R w hw
  refine ⟨(xs.drop n).take k,w',⟨okT_part hx h,?_⟩,hr,ho',he⟩
  show _=((utn (tnV xs)).drop (o/4)).take k
  rw [utn_tnV hx,ho,Nat.mul_div_cancel _ (by decide)]
theorem wtpart {m:Nat} {b:Nat} {ty:TypeId} {xs:List Int} (hx:okT m xs) (k n o:Nat) (ho:o=n*4) (h:n+k<=m): ∃z,(fun z=>okT k z/\z=((utn (sval (tb b ty (tnV xs)))).drop (o/4)).take k) z:=
  ⟨(xs.drop n).take k,okT_part hx h,by show _=((utn (tnV xs)).drop (o/4)).take k;rw [utn_tnV hx,ho,Nat.mul_div_cancel _ (by decide)]⟩
theorem etpart {m:Nat} {b:Nat} {ty:TypeId} {xs:List Int} (hx:okT m xs) {k n o:Nat} (ho:o=n*4) {z:List Int} (h:okT k z/\z=((utn (sval (tb b ty (tnV xs)))).drop (o/4)).take k):z=(xs.drop n).take k:=by
  have h2:z=((utn (tnV xs)).drop (o/4)).take k:=h.2
  rw [utn_tnV hx,ho,Nat.mul_div_cancel _ (by decide)] at h2;exact h2
theorem xtidx {P:Program} {t e:TypeId} {n:Nat} (hu:P.underlying t=some (.array n e)) (hs: ∀w,(sizeOf e).run P w= .ok 4 w) (ha: ∀w,(isAgg e).run P w= .ok true w) {ys:List Int} (hy:ys.length=n) (ki:IntKind) (i:Int) (h0:0<=i) (h1:i<n):
    PureRun P (do pure (.value (←Instr.index t (tnV ys) (.int ki i)))) (vI (ys.getD i.toNat 0)):=by
  intro w
  obtain ⟨j,rfl⟩: ∃j:Nat,i=(j:Int):=⟨i.toNat,by omega⟩
  have hj:j<ys.length:=by omega
  have hc:0<=(j:Int)/\(j:Int)<(n:Int):=⟨h0,h1⟩
  have hex:(tL ys).toArray.extract (j*4) (j*4+4)=(tL [ys.getD j 0]).toArray:=by
    apply Array.ext'
    rw [Array.toList_extract,List.extract_eq_take_drop,List.toList_toArray]
    show List.take (j*4+4 - j*4) (List.drop (j*4) (tL ys))=tL [ys.getD j 0]
    rw [show j*4+4 - j*4=1*4 by omega,tL_drop,tL_take,take_one hj]
  have hv:(Value.agg (tL [ys.getD j 0]).toArray)=vI (ys.getD j 0):=rfl
  have hv2: ∀z:Value,vI (ys.getD j 0)=z->Value.agg (tL [ys.getD j 0]).toArray=z:=fun z h=>hv.trans h
  unfold tnV
  simp only [Instr.index,run_underlying hu,asIntOf,Sem.run_bind,Sem.run_pure,Result.andThen_ok,hs w]
  simp only [hc,and_self,if_true,Int.toNat_natCast]
  have hsz:(tL ys).length=ys.length*4:=tL_len ys
  have hb:j*4+4<=(tL ys).toArray.size:=by rw [List.size_toArray,hsz];omega
  simp only [part,Sem.run_bind,ha w,hs w,Result.andThen_ok,if_true,Sem.run_pure,hex,hv]
def F_tix:List Value->List Slot->Ctr:=fun vs hs=>⟨Int,vI,fun _=>hs,fun z=>R4 z/\z=(utn (varg vs 0)).getD (ci (varg vs 1)).toNat 0⟩
theorem xtidxV {P:Program} {t e:TypeId} {n:Nat} (hu:P.underlying t=some (.array n e)) (hs: ∀w,(sizeOf e).run P w= .ok 4 w) (ha: ∀w,(isAgg e).run P w= .ok true w) {ys:List Int} (hy:okT n ys) (ki:IntKind) (i:Int) (h0:0<=i) (h1:i<n):
    OpT P (do pure (.value (←Instr.index t (tnV ys) (.int ki i)))) [] Int vI (fun _=> []) (fun z=>R4 z/\z=(utn (tnV ys)).getD i.toNat 0):=by
  intro R w ho
  refine ⟨ys.getD i.toNat 0,w,⟨hy.get _,by rw [utn_tnV hy]⟩, .inl (xtidx hu hs ha hy.1 ki i h0 h1 w),ho,Ext.refl w⟩
theorem wtidx {n:Nat} {ys:List Int} (hy:okT n ys) (i:Int): ∃z,(fun z=>R4 z/\z=(utn (tnV ys)).getD i.toNat 0) z:=⟨ys.getD i.toNat 0,hy.get _,by rw [utn_tnV hy]⟩
theorem etidx {n:Nat} {ys:List Int} (hy:okT n ys) {i z:Int} (h:R4 z/\z=(utn (tnV ys)).getD i.toNat 0):z=ys.getD i.toNat 0:=by have:=h.2;rwa [utn_tnV hy] at this
def F_strN2:List Value->List Slot->Ctr:=fun _ hs=>⟨Unit,fun _=> .string (strL [ci (scell (sarg hs 0) 0),ci (scell (sarg hs 0) 1)]),fun _=>hs,fun _=>True⟩
section
variable {xs:List Int} (h:okT 72 xs) {t p q n:Int}
theorem gt_R (h:okT 72 xs) (t p:Int):R4 (gt xs t p):=h.get _
theorem rMint_R (h:okT 72 xs) (hn:R4 n) (t0:0<=t) (p0:0<=p):okT 72 (rMint xs t p n).1:=by
  unfold rMint
  split
  · exact h
  · rename_i hw;obtain ⟨t4,p18,_,_⟩:=rW_z hw
    split
    · exact h
    · exact h.put (rI_R (by have:=(gt_R h t p).1;have:=hn.1;omega)) t0 t4 p0 p18
theorem rBurn_R (h:okT 72 xs) (hn:R4 n) (t0:0<=t) (p0:0<=p):okT 72 (rBurn xs t p n).1:=by
  unfold rBurn
  split
  · exact h
  · rename_i hw;obtain ⟨t4,p18,_,_⟩:=rW_z hw
    split
    · exact h
    · exact h.put (rI_R (by omega)) t0 t4 p0 p18
theorem rMove_R (h:okT 72 xs) (hn:R4 n) (t0:0<=t) (p0:0<=p) (q0:0<=q):okT 72 (rMove xs t p q n).1:=by
  unfold rMove
  split
  · exact h
  · rename_i hw;obtain ⟨t4,p18,q18,_⟩:=rW_z hw
    split
    · exact h
    · have h1:=h.put (rI_R (n:=gt xs t p - n) (by omega)) t0 t4 p0 p18
      exact h1.put (rI_R (by have:=(gt_R h1 t q).1;have:=hn.1;omega)) t0 t4 q0 q18
variable {e:Int}
theorem rMint_w (hw:e=rW t p p n) (h:e≠0):rMint xs t p n=(xs,e):=by unfold rMint;rw [←hw,if_pos h]
theorem rMint_ov (hw:0=rW t p p n) (h:M256<=rsum xs t 18+n):rMint xs t p n=(xs,2):=by unfold rMint;rw [←hw,if_neg (by decide),if_pos h]
theorem rMint_ok (hw:0=rW t p p n) (h: ¬M256<=rsum xs t 18+n) {v:Int} (hv:v=rI (gt xs t p+n)) {ys:List Int} (hy:ys=tset xs (ixT t p) [v]):rMint xs t p n=(ys,0):=by unfold rMint;rw [←hw,if_neg (by decide),if_neg h,hy,hv]
theorem rBurn_w (hw:e=rW t p p n) (h:e≠0):rBurn xs t p n=(xs,e):=by unfold rBurn;rw [←hw,if_pos h]
theorem rBurn_no (hw:0=rW t p p n) (h:gt xs t p<n):rBurn xs t p n=(xs,8):=by unfold rBurn;rw [←hw,if_neg (by decide),if_pos h]
theorem rBurn_ok (hw:0=rW t p p n) (h: ¬gt xs t p<n) {v:Int} (hv:v=rI (gt xs t p - n)) {ys:List Int} (hy:ys=tset xs (ixT t p) [v]):rBurn xs t p n=(ys,0):=by unfold rBurn;rw [←hw,if_neg (by decide),if_neg h,hy,hv]
theorem rMove_w (hw:e=rW t p q n) (h:e≠0):rMove xs t p q n=(xs,e):=by unfold rMove;rw [←hw,if_pos h]
theorem rMove_no (hw:0=rW t p q n) (h:gt xs t p<n):rMove xs t p q n=(xs,8):=by unfold rMove;rw [←hw,if_neg (by decide),if_pos h]
theorem rMove_ok (hw:0=rW t p q n) (h: ¬gt xs t p<n) {v:Int} (hv:v=rI (gt xs t p - n)) {ys:List Int} (hy:ys=tset xs (ixT t p) [v]) {u:Int} (hu:u=rI (gt ys t q+n)) {zs:List Int} (hz:zs=tset ys (ixT t q) [u]):rMove xs t p q n=(zs,0):=by
  unfold rMove;rw [←hw,if_neg (by decide),if_neg h,hz,hu,hy,hv]
theorem rW0 (hw:0=rW t p q n):t<4/\p<18/\q<18/\n≠0:=rW_z (by rw [←hw];decide)
end
theorem rInt_2 {n:Int} {z:Int×Bool} (h:z=rInt n):(z.2=true-> ¬M256<=n/\z.1=n)/\(z.2=false->M256<=n):=by
  subst h
  unfold rInt
  by_cases hn:n<115792089237316195423570985008687907853269984665640564039457584007913129639936
  · rw [if_pos hn];exact ⟨fun _=>⟨Int.not_le.2 hn,rfl⟩,fun q=>(by simp at q)⟩
  · rw [if_neg hn];exact ⟨fun q=>(by simp at q),fun _=>Int.not_lt.1 hn⟩
theorem rsum_row {xs:List Int} {t:Int} {j:Nat} (hj:j<18) (ht:0<=t):(((xs.drop (0+t.toNat*18)).take 18).getD j 0)=gt xs t (j:Int):=by
  unfold gt
  rw [List.getD_eq_getElem?_getD,List.getD_eq_getElem?_getD,List.getElem?_take_of_lt hj,List.getElem?_drop]
  congr 2
  rw [Int.toNat_natCast];omega
theorem rsum_bound {xs:List Int} (h:okT 72 xs) (t:Int): ∀k,0<=rsum xs t k/\rsum xs t k<=k*M256
  | 0=>⟨Int.le_refl _,by simp [rsum,sumTo]⟩
  | k + 1 => by
    obtain ⟨h0,h1⟩:=rsum_bound h t k
    have h2:=gt_R h t (k:Int)
    unfold rsum at *
    rw [sumTo]
    refine ⟨by have:=h2.1;omega,?_⟩
    rw [Int.natCast_succ,Int.add_mul]
    have:=h2.2
    unfold M256 at *
    omega
theorem rI_sum {a b:Int} (ha:R4 a) (hb:R4 b):R4 (rI (a+b)):=rI_R (by have:=ha.1;have:=hb.1;omega)
theorem wit_rsum {xs:List Int} (h:okT 72 xs) (t:Int): ∃x:Row,(fun zx=>RowOK zx/\nv (dg zx)=rsum xs t 18/\Canon (dg zx)) x:=by
  obtain ⟨x,h1,h2,h3⟩:=wit_row (n:=rsum xs t 18) (rsum_bound h t 18).1
  exact ⟨x,h1,h2,h3⟩
end Go.Sx
namespace Go.Sx
theorem scatI (a b c d:List Int):strL a++strL b++strL c++strL d=strL (a++(b++(c++d))):=by
  simp only [strL_app,List.append_assoc]
theorem txN_nz {xs:List Int} {t p:Nat} {z:Int} (hp:p<18) (hz:z=xs.getD (0+t*18+p*1) 0) (h0:z≠0):strL (txN xs (18*t+p))++strL [((t:Nat):Int),((p:Nat):Int)]++strL (dg32 z)=strL (txN xs (18*t+(p+1))):=by
  have e:0+t*18+p*1=18*t+p:=by omega
  rw [e] at hz
  show _=strL (txN xs (18*t+p)++tx1 xs (18*t+p))
  unfold tx1
  rw [←hz,if_neg h0,show (18*t+p)/18=t by omega,show (18*t+p)%18=p by omega]
  simp only [strL_app,List.append_assoc]
theorem txN_z {xs:List Int} {t p:Nat} {z:Int} (hz:z=xs.getD (0+t*18+p*1) 0) (h0:z=0):strL (txN xs (18*t+p))=strL (txN xs (18*t+(p+1))):=by
  have e:0+t*18+p*1=18*t+p:=by omega
  rw [e] at hz
  show _=strL (txN xs (18*t+p)++tx1 xs (18*t+p))
  unfold tx1
  rw [←hz,if_pos h0,List.append_nil]
end Go.Sx
