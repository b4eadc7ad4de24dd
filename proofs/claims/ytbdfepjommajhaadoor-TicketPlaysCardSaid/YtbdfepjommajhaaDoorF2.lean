/- A part of the prover's own frame for walking code (see the claim's other texts). -/
import Derived.Test.YtbdfepjommajhaaDoorF1
import Derived.Lib.SliceRun
import Derived.Maps.RangeRun
import Derived.RangeFuncLeaves
import Derived.RangeFuncRecord
import Derived.Shelf.SlMaps.Clone
import Derived.Shelf.SlSortCmp.Whole1
import Derived.Shelf.SlSortCmp.NoneTotal
set_option linter.unusedVariables false
set_option linter.unusedSimpArgs false
namespace Go.Sx
open Go.RowKit
def Hl.emp:Hl:=fun _=>none
def Hl.un (p q:Hl):Hl:=fun b=>match p b with | some o=>some o | none=>q b
theorem un_some {p q:Hl} {b:Nat} {o:Obj} (h:Hl.un p q b=some o):p b=some o∨q b=some o:=by
  unfold Hl.un at h
  cases hp:p b with
  | some x=>rw [hp] at h;exact .inl h
  | none=>rw [hp] at h;exact .inr h
theorem un_left {p q:Hl} {b:Nat} {o:Obj} (h:p b=some o):Hl.un p q b=some o:=by unfold Hl.un;rw [h]
theorem un_right {p q:Hl} (d:p.disj q) {b:Nat} {o:Obj} (h:q b=some o):Hl.un p q b=some o:=by
  unfold Hl.un
  rcases d b with h' | h'
  · rw [h'];exact h
  · rw [h] at h';cases h'
theorem un_none {p q:Hl} {b:Nat} (h:p b=none) (k:q b=none):Hl.un p q b=none:=by unfold Hl.un;rw [h];exact k
theorem un_none_iff {p q:Hl} {b:Nat}:Hl.un p q b=none↔p b=none/\q b=none:=by
  constructor
  · intro h
    unfold Hl.un at h
    cases hp:p b with
    | some x=>rw [hp] at h;cases h
    | none=>rw [hp] at h;exact ⟨rfl,h⟩
  · exact fun h=>un_none h.1 h.2
theorem disj_symm {p q:Hl} (h:p.disj q):q.disj p:=fun b=>(h b).symm
theorem disj_un {p q r:Hl}:(Hl.un p q).disj r↔p.disj r/\q.disj r:=by
  constructor
  · intro h
    refine ⟨fun b=> ?_,fun b=> ?_⟩<;>rcases h b with h' | h'
    · exact .inl (un_none_iff.1 h').1
    · exact .inr h'
    · exact .inl (un_none_iff.1 h').2
    · exact .inr h'
  · intro ⟨h1,h2⟩ b
    rcases h1 b with a | a
    · rcases h2 b with c | c
      · exact .inl (un_none a c)
      · exact .inr c
    · exact .inr a
theorem disj_un' {p q r:Hl}:r.disj (Hl.un p q)↔r.disj p/\r.disj q:=
  ⟨fun h=>let ⟨a,b⟩:=disj_un.1 (disj_symm h);⟨disj_symm a,disj_symm b⟩,fun ⟨a,b⟩=>disj_symm (disj_un.2 ⟨disj_symm a,disj_symm b⟩)⟩
theorem disj_emp {p:Hl}:p.disj Hl.emp:=fun _=> .inr rfl
theorem un_emp {p:Hl}:Hl.un p Hl.emp=p:=by funext b;unfold Hl.un;cases p b<;>rfl
theorem emp_un {p:Hl}:Hl.un Hl.emp p=p:=rfl
theorem un_assoc {p q r:Hl}:Hl.un (Hl.un p q) r=Hl.un p (Hl.un q r):=by
  funext b;unfold Hl.un;cases p b<;>simp
theorem un_comm {p q:Hl} (d:p.disj q):Hl.un p q=Hl.un q p:=by
  funext b
  unfold Hl.un
  rcases d b with h | h<;>rw [h]
  · cases q b<;>rfl
  · cases p b<;>rfl
theorem inw_un {p q:Hl} {w:World} (h:p.inw w) (k:q.inw w):(Hl.un p q).inw w:=fun b o hb=>(un_some hb).elim (h b o) (k b o)
theorem inw_left {p q:Hl} {w:World} (h:(Hl.un p q).inw w):p.inw w:=fun b o hb=>h b o (un_left hb)
theorem inw_right {p q:Hl} {w:World} (d:p.disj q) (h:(Hl.un p q).inw w):q.inw w:=fun b o hb=>h b o (un_right d hb)
def SepL:List Slot->Hl->Prop
  | [],h=>h=Hl.emp
  | s::l,h=> ∃p q,s.sat p/\SepL l q/\p.disj q/\h=Hl.un p q
theorem sep_append: ∀ (a b:List Slot) {h:Hl},SepL (a++b) h↔ ∃p q,SepL a p/\SepL b q/\p.disj q/\h=Hl.un p q
  | [],b,h=>⟨fun hb=>⟨Hl.emp,h,rfl,hb,fun _=> .inl rfl,rfl⟩,fun ⟨p,q,hp,hq,_,e⟩=>by cases hp;subst e;exact hq⟩
  | s :: a, b, h => by
    constructor
    · rintro ⟨p,q,hs,hr,d,rfl⟩
      obtain ⟨p2,q2,ha,hb,d2,rfl⟩:=(sep_append a b).1 hr
      have d' :=disj_un'.1 d
      exact ⟨Hl.un p p2,q2,⟨p,p2,hs,ha,d'.1,rfl⟩,hb,disj_un.2 ⟨d'.2,d2⟩,un_assoc.symm⟩
    · rintro ⟨p,q,⟨p1,p2,hs,ha,d1,rfl⟩,hb,d,rfl⟩
      have d' :=disj_un.1 d
      exact ⟨p1,Hl.un p2 q,hs,(sep_append a b).2 ⟨p2,q,ha,hb,d'.2,rfl⟩,disj_un'.2 ⟨d1,d'.1⟩,un_assoc⟩
theorem sep_swap {a b:List Slot} {h:Hl} (k:SepL (a++b) h):SepL (b++a) h:=by
  obtain ⟨p,q,hp,hq,d,rfl⟩:=(sep_append a b).1 k
  exact (sep_append b a).2 ⟨q,p,hq,hp,disj_symm d,un_comm d⟩
theorem sep_mid {a b c:List Slot} {h:Hl}:SepL (a++b++c) h↔SepL (b++(a++c)) h:=by
  constructor
  · intro k
    rw [List.append_assoc] at k
    obtain ⟨p,q,hp,hq,d,rfl⟩:=(sep_append a (b++c)).1 k
    obtain ⟨p2,q2,hp2,hq2,d2,rfl⟩:=(sep_append b c).1 hq
    have d' :=disj_un'.1 d
    refine (sep_append b (a++c)).2 ⟨p2,Hl.un p q2,hp2,(sep_append a c).2 ⟨p,q2,hp,hq2,d'.2,rfl⟩,disj_un'.2 ⟨disj_symm d'.1,d2⟩,?_⟩
    rw [←un_assoc,un_comm d'.1,un_assoc]
  · intro k
    obtain ⟨p,q,hp,hq,d,rfl⟩:=(sep_append b (a++c)).1 k
    obtain ⟨p2,q2,hp2,hq2,d2,rfl⟩:=(sep_append a c).1 hq
    have d' :=disj_un'.1 d
    rw [List.append_assoc]
    refine (sep_append a (b++c)).2 ⟨p2,Hl.un p q2,hp2,(sep_append b c).2 ⟨p,q2,hp,hq2,d'.2,rfl⟩,disj_un'.2 ⟨disj_symm d'.1,d2⟩,?_⟩
    rw [←un_assoc,un_comm d'.1,un_assoc]
theorem own_sep : ∀ {l : List Slot} {R : HP} {w : World}, Own (ofList l) R w ↔ ∃ h q, SepL l h /\ R q /\ h.inw w /\ q.inw w /\ h.disj q
  | [], R, w => by
    constructor
    · rintro ⟨p,q,hs,hq,hp,hqw,hd,hdq⟩
      exact ⟨Hl.emp,q,rfl,hq,fun b o hb=>(by cases hb),hqw,fun _=> .inl rfl⟩
    · rintro ⟨h,q,_,hq,_,hqw,_⟩
      exact ⟨fun _ _=>none,q,fun i=>fun _=>rfl,hq,fun i b o hb=>(by cases hb),hqw,fun i j _ b=> .inl rfl,fun i b=> .inl rfl⟩
  | s :: l, R, w => by
    constructor
    · rintro ⟨p,q,hs,hq,hp,hqw,hd,hdq⟩
      have:Own (ofList l) (fun q' => ∃q0,R q0/\q' =Hl.un (p 0) q0/\q0.inw w/\(p 0).disj q0) w:=by
        refine ⟨fun i=>p (i+1),Hl.un (p 0) q,fun i=>hs (i+1),⟨q,hq,rfl,hqw,hdq 0⟩,fun i=>hp (i+1),inw_un (hp 0) hqw,fun i j h=>hd _ _ (fun e=>h (Nat.succ.inj e)),fun i=>disj_un'.2 ⟨hd _ _ (by omega),hdq _⟩⟩
      obtain ⟨h,q',hl,⟨q0,hq0,rfl,hq0w,d0⟩,hw,hqw',d⟩:=own_sep.1 this
      have d' :=disj_un'.1 d
      exact ⟨Hl.un (p 0) h,q0,⟨p 0,h,hs 0,hl,disj_symm d'.1,rfl⟩,hq0,inw_un (hp 0) hw,hq0w,disj_un.2 ⟨d0,d'.2⟩⟩
    · rintro ⟨h,q,⟨p,h',hs,hl,d,rfl⟩,hq,hw,hqw,dq⟩
      have dq' :=disj_un.1 dq
      have:Own (ofList l) (fun q' =>q' =Hl.un p q) w:=own_sep.2 ⟨h',Hl.un p q,hl,rfl,inw_right d hw,inw_un (inw_left hw) hqw,disj_un'.2 ⟨disj_symm d,dq'.2⟩⟩
      obtain ⟨pp,q2,hs2,rfl,hp2,hq2,hd2,hdq2⟩:=this
      refine ⟨fun i=>match i with | 0=>p | i+1=>pp i,q,fun i=> ?_,hq,fun i=> ?_,hqw,fun i j hij=> ?_,fun i=> ?_⟩
      · cases i with
        | zero=>exact hs
        | succ i=>exact hs2 i
      · cases i with
        | zero=>exact inw_left hw
        | succ i=>exact hp2 i
      · cases i with
        | zero =>
          cases j with
          | zero=>exact absurd rfl hij
          | succ j=>exact disj_symm (disj_un'.1 (hdq2 j)).1
        | succ i =>
          cases j with
          | zero=>exact (disj_un'.1 (hdq2 i)).1
          | succ j=>exact hd2 i j (fun e=>hij (e▸rfl))
      · cases i with
        | zero=>exact dq'.1
        | succ i=>exact (disj_un'.1 (hdq2 i)).2
def Imp (a b:List Slot):Prop:= ∀ (R:HP) (w:World),Own (ofList a) R w->Own (ofList b) R w
theorem Imp.of {a b:List Slot} (h: ∀p,SepL a p-> ∃q,SepL b q/\ ∀x o,q x=some o->p x=some o):Imp a b:=by
  intro R w ho
  obtain ⟨p,r,hp,hr,hpw,hrw,d⟩:=own_sep.1 ho
  obtain ⟨q,hq,hsub⟩:=h p hp
  refine own_sep.2 ⟨q,r,hq,hr,fun b o hb=>hpw b o (hsub b o hb),hrw,fun b=> ?_⟩
  rcases d b with h' | h'
  · left
    cases hqb:q b with
    | none=>rfl
    | some o=>rw [hsub b o hqb] at h';cases h'
  · exact .inr h'
theorem Imp.same {a b:List Slot} (h: ∀p,SepL a p->SepL b p):Imp a b:= .of fun p hp=>⟨p,h p hp,fun _ _ h=>h⟩
theorem Imp.refl (a:List Slot):Imp a a:=fun _ _ h=>h
theorem Imp.trans {a b c:List Slot} (h:Imp a b) (k:Imp b c):Imp a c:=fun R w x=>k R w (h R w x)
theorem Imp.swap (a b:List Slot):Imp (a++b) (b++a):= .same fun _=>sep_swap
theorem Imp.drop (a b:List Slot):Imp (a++b) a:= .of fun p hp=>by
  obtain ⟨p,q,ha,hb,d,rfl⟩:=(sep_append a b).1 hp
  exact ⟨p,ha,fun x o h=>un_left h⟩
def bun {E:Type} (ns:List Nat) (d:Dat) (F:E->List Slot):Slot:= .par ns d (fun h=> ∃e,SepL (F e) h)
theorem bun_shut {E:Type} {ns:List Nat} {d:Dat} {F:E->List Slot} (e:E) (l:List Slot):Imp (F e++l) (bun ns d F::l):= .same fun p hp=>by
  obtain ⟨p,q,ha,hb,d,rfl⟩:=(sep_append _ _).1 hp
  exact ⟨p,q,⟨e,ha⟩,hb,d,rfl⟩
theorem bun_open {E:Type} {ns:List Nat} {d:Dat} {F:E->List Slot} {l:List Slot} {R:HP} {w:World} (h:Own (ofList (bun ns d F::l)) R w): ∃e,Own (ofList (F e++l)) R w:=by
  obtain ⟨h,q,⟨p,h',⟨e,hs⟩,hl,d,rfl⟩,hq,hw,hqw,dq⟩:=own_sep.1 h
  exact ⟨e,own_sep.2 ⟨_,q,(sep_append _ _).2 ⟨p,h',hs,hl,d,rfl⟩,hq,hw,hqw,dq⟩⟩
theorem own_frame {a b:List Slot} {R:HP} {w:World}:Own (ofList (a++b)) R w↔Own (ofList a) (fun q=> ∃h r,SepL b h/\R r/\h.disj r/\q=Hl.un h r) w:=by
  constructor
  · intro ho
    obtain ⟨h,q,hab,hq,hw,hqw,d⟩:=own_sep.1 ho
    obtain ⟨p1,p2,ha,hb,d12,rfl⟩:=(sep_append a b).1 hab
    have dd:=disj_un.1 d
    exact own_sep.2 ⟨p1,Hl.un p2 q,ha,⟨p2,q,hb,hq,dd.2,rfl⟩,inw_left hw,inw_un (inw_right d12 hw) hqw,disj_un'.2 ⟨d12,dd.1⟩⟩
  · intro ho
    obtain ⟨p1,q,ha,⟨p2,r,hb,hr,dr,rfl⟩,hw,hqw,d⟩:=own_sep.1 ho
    have dd:=disj_un'.1 d
    exact own_sep.2 ⟨Hl.un p1 p2,r,(sep_append a b).2 ⟨p1,p2,ha,hb,dd.1,rfl⟩,hr,inw_un hw (inw_left hqw),inw_right dr hqw,disj_un.2 ⟨dd.2,dr⟩⟩
theorem CallT.frame {P:Program} {f:FuncId} {args:Array Value} {Hs:List Slot} {X:Type} {val:X->Value} {us:X->List Slot} {Φ:X->Prop} (h:CallT P f args Hs X val us Φ) (l:List Slot):
    CallT P f args (Hs++l) X val (fun x=>us x++l) Φ:=
  ⟨h.enter,fun R w ho=>(h.calls _ w (own_frame.1 ho)).mono fun _ _ ⟨x,hx,he,ho',hext⟩=>⟨x,hx,he,own_frame.2 ho',hext⟩⟩
theorem CallT.conv {P:Program} {f:FuncId} {args:Array Value} {Hs Ks:List Slot} {X:Type} {val:X->Value} {us vs:X->List Slot} {Φ:X->Prop} (h:CallT P f args Hs X val us Φ) (hi:Imp Ks Hs) (ho: ∀x,Φ x->Imp (us x) (vs x)):
    CallT P f args Ks X val vs Φ:=
  ⟨h.enter,fun R w hw=>(h.calls R w (hi R w hw)).mono fun _ _ ⟨x,hx,he,ho',hext⟩=>⟨x,hx,he,ho x hx _ _ ho',hext⟩⟩
theorem CallT.exists {P:Program} {f:FuncId} {args:Array Value} {Hs:List Slot} {X Y:Type} {val:X->Value} {us:X->List Slot} {Φ:X->Prop} {val' :Y->Value} {us' :Y->List Slot} {Ψ:Y->Prop}
    (h:CallT P f args Hs X val us Φ) (hk: ∀x,Φ x-> ∃y,Ψ y/\val x=val' y/\Imp (us x) (us' y)):CallT P f args Hs Y val' us' Ψ:=
  ⟨h.enter,fun R w hw=>(h.calls R w hw).mono fun _ _ ⟨x,hx,he,ho,hext⟩=>let ⟨y,hy,h1,h2⟩:=hk x hx;⟨y,hy,h1▸he,h2 _ _ ho,hext⟩⟩
end Go.Sx
namespace Go.Sx
open Go.RowKit
abbrev KV:=List (Value×Value)
noncomputable instance decValue:DecidableEq Value:=fun _ _=>Classical.propDecidable _
def kvs (es:Array MapEntry):KV:=es.toList.map fun e=>(e.key,e.val)
def Born (es:Array MapEntry) (clock:Nat):Prop:=(es.toList.map (·.born)).Nodup/\ ∀e∈es.toList,e.born<clock
theorem Born.push {es:Array MapEntry} {clock:Nat} (h:Born es clock) (k v:Value):Born (es.push { key:=k,val:=v,born:=clock }) (clock+1):=by
  refine ⟨?_,fun e he=> ?_⟩
  · rw [Array.toList_push,List.map_append,List.nodup_append]
    refine ⟨h.1,by simp,fun a ha b hb=> ?_⟩
    simp at hb;subst hb
    obtain ⟨e,he,rfl⟩:=List.mem_map.1 ha
    exact Nat.ne_of_lt (h.2 e he)
  · rw [Array.toList_push] at he
    rcases List.mem_append.1 he with he | he
    · exact Nat.lt_succ_of_lt (h.2 e he)
    · simp at he;subst he;exact Nat.lt_succ_self _
theorem modify_born {f:MapEntry->MapEntry} (hf: ∀y,(f y).born=y.born): ∀ (l:List MapEntry) (i:Nat),(l.modify i f).map (·.born)=l.map (·.born)
  | [],i=>by simp
  | x::l,0=>by simp [hf]
  | x::l,i+1=>by simp [modify_born hf l i]
theorem Born.modify {es:Array MapEntry} {clock i:Nat} {f:MapEntry->MapEntry} (h:Born es clock) (hf: ∀y,(f y).born=y.born):Born (es.modify i f) clock:=by
  have e:(es.modify i f).toList.map (·.born)=es.toList.map (·.born):=by rw [Array.toList_modify,modify_born hf]
  refine ⟨by rw [e];exact h.1,fun x hx=> ?_⟩
  have:x.born∈es.toList.map (·.born):=by rw [←e];exact List.mem_map.2 ⟨x,hx,rfl⟩
  obtain ⟨y,hy,hxy⟩:=List.mem_map.1 this
  have:=h.2 y hy
  omega
theorem Born.erase {es:Array MapEntry} {clock i:Nat} (h:Born es clock):Born (es.eraseIdxIfInBounds i) clock:=by
  have hs:(es.eraseIdxIfInBounds i).toList.Sublist es.toList:=by
    unfold Array.eraseIdxIfInBounds
    split
    · rw [Array.toList_eraseIdx];exact List.eraseIdx_sublist _ _
    · exact List.Sublist.refl _
  exact ⟨h.1.sublist (hs.map _),fun e he=>h.2 e (hs.subset he)⟩
theorem Born.empty:Born #[] 0:=⟨by simp,fun e he=>by simp at he⟩
def mo (r:Nat) (m:KV):Slot:= .par [r] (.kv m) (fun h=> ∃es clock,h r=some (.map es clock)/\(∀c,c≠r->h c=none)/\kvs es=m/\Born es clock)
def skv (s:Slot):KV:=match s with | .par _ (.kv m) _=>m | _=> []
def snum (s:Slot) (i:Nat):Nat:=match s with | .par ns _ _=>ns.getD i 0 | _=>0
def sents (s:Slot):List Ent:=match s with | .par _ (.ents L) _=>L | _=> []
theorem mo_open {r:Nat} {m:KV} {l:List Slot} {R:HP} {w:World} (h:Own (ofList (mo r m::l)) R w): ∃es clock,(kvs es=m/\Born es clock)/\Own (ofList (.blk r (.map es clock)::l)) R w:=by
  obtain ⟨p,q,hs,rest⟩:=h
  obtain ⟨es,clock,h1,h2,h3⟩:=hs 0
  refine ⟨es,clock,h3,p,q,fun i=> ?_,rest⟩
  cases i with
  | zero=>exact ⟨h1,h2⟩
  | succ i=>exact hs (i+1)
theorem mo_shut {r:Nat} {m:KV} {es:Array MapEntry} {clock:Nat} {l:List Slot} {R:HP} {w:World} (e:kvs es=m) (hbn:Born es clock) (h:Own (ofList (.blk r (.map es clock)::l)) R w):Own (ofList (mo r m::l)) R w:=by
  obtain ⟨p,q,hs,rest⟩:=h
  refine ⟨p,q,fun i=> ?_,rest⟩
  cases i with
  | zero=>exact ⟨es,clock,(hs 0).1,(hs 0).2,e,hbn⟩
  | succ i=>exact hs (i+1)
noncomputable def mget (m:KV) (k:Value):Option Value:=(m.find? fun e=>decide (e.1=k)).map (·.2)
noncomputable def mset (m:KV) (k v:Value):KV:=if (mget m k).isSome then m.map (fun e=>if e.1=k then (k,v) else e) else m++ [(k,v)]
noncomputable def mdel (m:KV) (k:Value):KV:=m.eraseP fun e=>decide (e.1=k)
def MOK (m:KV):Prop:=(m.map (·.1)).Nodup
theorem mget_nil (k:Value):mget [] k=none:=rfl
theorem mget_cons (e:Value×Value) (m:KV) (k:Value):mget (e::m) k=if e.1=k then some e.2 else mget m k:=by
  unfold mget
  rw [List.find?_cons]
  by_cases h:e.1=k<;>simp [h]
theorem mget_none {m:KV} {k:Value}:mget m k=none↔ ∀e∈m,e.1≠k:=by
  unfold mget
  rw [Option.map_eq_none_iff,List.find?_eq_none]
  simp
theorem mget_append (m n:KV) (k:Value):mget (m++n) k=(mget m k).or (mget n k):=by
  induction m with
  | nil=>rfl
  | cons e m ih=>rw [List.cons_append,mget_cons,mget_cons,ih];split<;>rfl
theorem mget_map_set (m:KV) (k v:Value) (k' :Value):mget (m.map fun e=>if e.1=k then (k,v) else e) k' =if k' =k then (mget m k).map (fun _=>v) else mget m k' :=by
  induction m with
  | nil=>simp [mget_nil]
  | cons e m ih =>
    rw [List.map_cons,mget_cons,mget_cons,mget_cons,ih]
    by_cases h:e.1=k
    · rw [if_pos h]
      by_cases h' :k' =k
      · subst h';simp [h]
      · rw [if_neg (fun x=>h' x.symm),if_neg h',if_neg h',if_neg (fun x=>h' (x.symm.trans h))]
    · rw [if_neg h]
      by_cases h' :k' =k
      · subst h';simp [h]
      · simp [h']
theorem mget_set (m:KV) (k v k' :Value):mget (mset m k v) k' =if k' =k then some v else mget m k' :=by
  unfold mset
  split
  · rename_i h
    rw [mget_map_set]
    split
    · obtain ⟨x,hx⟩:=Option.isSome_iff_exists.1 h
      rw [hx];rfl
    · rfl
  · rename_i h
    have hn:mget m k=none:=by simpa using h
    rw [mget_append,mget_cons,mget_nil]
    split
    · rename_i e;subst e;rw [hn];simp
    · rename_i e;rw [if_neg (fun x=>e x.symm)];simp
theorem mget_del {m : KV} (hm : MOK m) (k k' : Value) : mget (mdel m k) k' = if k' = k then none else mget m k' := by
  induction m with
  | nil=>simp [mdel,mget_nil]
  | cons e m ih =>
    unfold MOK at hm
    rw [List.map_cons,List.nodup_cons] at hm
    unfold mdel
    rw [List.eraseP_cons]
    by_cases h:e.1=k
    · simp only [h,decide_true,cond_true]
      rw [mget_cons]
      by_cases h' :k' =k
      · subst h'
        rw [if_pos rfl]
        refine mget_none.2 fun x hx he=>hm.1 ?_
        exact List.mem_map.2 ⟨x,hx,by rw [he,h]⟩
      · rw [if_neg h',if_neg (fun x=>h' (x.symm.trans h))]
    · simp only [h,decide_false,cond_false]
      rw [mget_cons,mget_cons]
      have:=ih hm.2
      unfold mdel at this
      rw [this]
      by_cases h' :e.1=k'
      · simp only [h',if_true];rw [if_neg (fun x=>h (h'.trans x))]
      · simp [h']
theorem keys_map_set (m:KV) (k v:Value):(m.map fun e=>if e.1=k then (k,v) else e).map (·.1)=m.map (·.1):=by
  rw [List.map_map]
  apply List.map_congr_left
  intro e he
  by_cases h:e.1=k<;>simp [h]
theorem MOK.set {m:KV} (h:MOK m) (k v:Value):MOK (mset m k v):=by
  unfold mset
  split
  · unfold MOK;rw [keys_map_set];exact h
  · rename_i hn
    have hn:mget m k=none:=by simpa using hn
    unfold MOK
    rw [List.map_append,List.map_cons,List.map_nil,List.nodup_append]
    refine ⟨h,by simp,fun a ha b hb=> ?_⟩
    simp at hb;subst hb
    obtain ⟨e,he,rfl⟩:=List.mem_map.1 ha
    exact mget_none.1 hn e he
theorem MOK.del {m:KV} (h:MOK m) (k:Value):MOK (mdel m k):=by
  unfold MOK mdel
  exact h.sublist (List.eraseP_sublist.map _)
theorem MOK.nil:MOK []:=List.nodup_nil
structure KL (P:Program) (kt:TypeId) (Ok:Value->Prop):Prop where
  check: ∀b k w,Ok k->(Instr.checkKey b 10000 kt k).run P w= .ok () w
  find: ∀k (es:List MapEntry) w,Ok k->(∀e∈es,Ok e.key)-> ∃o,(Instr.findKey kt k es).run P w= .ok o w/\
    (match o with | none=>mget (es.map fun e=>(e.key,e.val)) k=none | some (i,v)=> ∃e,es[i]? =some e/\e.key=k/\e.val=v/\ ∀j e',j<i->es[j]? =some e' ->e'.key≠k)
  same: ∀k,Ok k->Instr.sameBits 10000 k k=true
theorem mget_found {es:List MapEntry} {k:Value} {i:Nat} {e:MapEntry} (h:es[i]? =some e) (hk:e.key=k) (hl: ∀j e',j<i->es[j]? =some e' ->e'.key≠k):mget (es.map fun e=>(e.key,e.val)) k=some e.val:=by
  induction es generalizing i with
  | nil=>simp at h
  | cons x es ih =>
    rw [List.map_cons,mget_cons]
    cases i with
    | zero=>simp at h;subst h;simp [hk]
    | succ i =>
      have hx:=hl 0 x (by omega) (by simp)
      rw [if_neg hx]
      exact ih (by simpa using h) fun j e' hj he=>hl (j+1) e' (by omega) (by simpa using he)
structure TM (P:Program) (t kt vt:TypeId) (Ok:Value->Prop) (z:Value):Prop where
  und:P.underlying t=some (.map kt vt)
  key:KL P kt Ok
  zero: ∀w,(zeroValue vt).run P w= .ok z w
def KeysOk (Ok:Value->Prop) (m:KV):Prop:= ∀e∈m,Ok e.1
theorem kvs_keys {Ok:Value->Prop} {es:Array MapEntry} {m:KV} (e:kvs es=m) (h:KeysOk Ok m): ∀x∈es.toList,Ok x.key:=fun x hx=>h (x.key,x.val) (by rw [←e];exact List.mem_map.2 ⟨x,hx,rfl⟩)
theorem run_getMap {P:Program} {w:World} {r:Nat} {es:Array MapEntry} {clock:Nat} (h:w.heap[r]? =some (.map es clock)):(getObj r).run P w= .ok (.map es clock) w:=by
  simp [getObj,Sem.run,h]
theorem xlookup {P:Program} {t kt vt:TypeId} {Ok:Value->Prop} {z:Value} (T:TM P t kt vt Ok z) {r:Nat} {m:KV} (hm:KeysOk Ok m) {k:Value} (hk:Ok k):
    OpT P (do pure (.value (←Instr.lookup t (.map (some r)) k true))) [mo r m] Unit (fun _=> .tuple #[(mget m k).getD z, .bool (mget m k).isSome]) (fun _=> [mo r m]) (fun _=>True):=by
  intro R w ho
  obtain ⟨es,clock,⟨e,hbn⟩,ho'⟩:=mo_open ho
  have hb:=ho'.block (i:=0) rfl
  obtain ⟨o,hf,hspec⟩:=T.key.find k es.toList w hk (kvs_keys e hm)
  refine ⟨(),w,trivial, .inl ?_,ho,Ext.refl w⟩
  have hg:mget m k=o.map (·.2):=by
    rw [←e]
    cases o with
    | none=>exact hspec
    | some iv =>
      obtain ⟨x,h1,h2,h3,h4⟩:=hspec
      exact (mget_found h1 h2 h4).trans (by rw [h3];rfl)
  rw [hg]
  simp only [Instr.lookup,Sem.run_bind,run_underlying T.und,Result.andThen_ok,run_getMap hb,Sem.run_pure,T.key.check _ _ _ hk,hf]
  cases o with
  | none=>simp [T.zero w]
  | some iv=>simp
theorem own_setMap {r:Nat} {es:Array MapEntry} {clock:Nat} {o:Obj} {l:List Slot} {R:HP} {w:World} (ho:Own (ofList (.blk r (.map es clock)::l)) R w):
    Own (ofList (.blk r o::l)) R { w with heap:=w.heap.setIfInBounds r o }:=by
  have hb:=ho.block (i:=0) rfl
  have hlt:r<w.heap.size:=by
    rcases Nat.lt_or_ge r w.heap.size with h | h
    · exact h
    · simp [Array.getElem?_eq_none h] at hb
  have:=ho.set (i:=0) (w' := { w with heap:=w.heap.setIfInBounds r o }) (o' :=o) rfl (by simp [hlt]) (fun c hc=>by simp [Ne.symm hc])
  refine (congrArg (fun H=>Own H R _) ?_).mp this
  funext i
  cases i<;>rfl
theorem run_setMap {P:Program} {w:World} {r:Nat} {es:Array MapEntry} {clock:Nat} {o:Obj} (h:w.heap[r]? =some (.map es clock)):(setObj r o).run P w= .ok () { w with heap:=w.heap.setIfInBounds r o }:=by
  simp [setObj,Sem.run,h]
theorem ext_setMap (w:World) (r:Nat) (o:Obj):Ext w { w with heap:=w.heap.setIfInBounds r o }:=⟨rfl,rfl,rfl,by simp,by first | exact Nat.le_refl _ | exact Nat.le_succ _ | simp⟩
theorem kvs_modify {es : Array MapEntry} {i : Nat} {x : MapEntry} {k v : Value} {f : MapEntry -> MapEntry} (h : es.toList[i]? = some x) (hk : x.key = k) (hl : ∀ j e', j < i -> es.toList[j]? = some e' -> e'.key ≠ k) (hn : MOK (kvs es))
    (hf: ∀y,(f y).key=k/\(f y).val=v):kvs (es.modify i f)=mset (kvs es) k v:=by
  have hg:mget (kvs es) k=some x.val:=mget_found h hk hl
  unfold mset
  rw [if_pos (by rw [hg];rfl)]
  unfold kvs
  apply List.ext_getElem?
  intro j
  rw [List.getElem?_map,List.getElem?_map,List.getElem?_map]
  have hm:(es.modify i f).toList[j]? =if i=j then es.toList[j]?.map f else es.toList[j]? :=by
    rw [Array.toList_modify,List.getElem?_modify]
    by_cases hij:i=j<;>simp [hij]
  rw [hm]
  by_cases hij:i=j
  · subst hij
    rw [if_pos rfl,h]
    simp [hk,hf]
  · rw [if_neg hij]
    cases hj:es.toList[j]? with
    | none=>rfl
    | some y =>
      have hy:y.key≠k:=by
        intro hyk
        rcases Nat.lt_or_gt_of_ne hij with hlt | hlt
        ·
          unfold MOK at hn
          have h1:((kvs es).map (·.1))[i]? =some k:=by simp [kvs,h,hk]
          have h2:((kvs es).map (·.1))[j]? =some k:=by simp [kvs,hj,hyk]
          obtain ⟨a1,b1⟩:=List.getElem?_eq_some_iff.1 h1
          obtain ⟨a2,b2⟩:=List.getElem?_eq_some_iff.1 h2
          exact hij ((List.getElem_inj hn).1 (b1.trans b2.symm))
        · exact hl j y hlt hj hyk
      simp [hy]
theorem kvs_push {es:Array MapEntry} {k v:Value} {b:Nat} (h:mget (kvs es) k=none):kvs (es.push { key:=k,val:=v,born:=b })=mset (kvs es) k v:=by
  unfold mset
  rw [if_neg (by rw [h];simp)]
  simp [kvs]
theorem kvs_erase {es : Array MapEntry} {i : Nat} {x : MapEntry} {k : Value} (h : es.toList[i]? = some x) (hk : x.key = k) (hl : ∀ j e', j < i -> es.toList[j]? = some e' -> e'.key ≠ k) : kvs (es.eraseIdxIfInBounds i) = mdel (kvs es) k := by
  have key: ∀ (l:List MapEntry) (i:Nat),l[i]? =some x->(∀j e',j<i->l[j]? =some e' ->e'.key≠k)->(l.eraseIdx i).map (fun e=>(e.key,e.val))=mdel (l.map fun e=>(e.key,e.val)) k:=by
    intro l
    induction l with
    | nil=>intro i h;simp at h
    | cons y l ih =>
      intro i h hl
      unfold mdel
      rw [List.map_cons,List.eraseP_cons]
      cases i with
      | zero =>
        simp at h;subst h
        simp [hk]
      | succ i =>
        have hy:=hl 0 y (by omega) (by simp)
        simp only [hy,decide_false,cond_false,List.eraseIdx_cons_succ,List.map_cons]
        have:=ih i (by simpa using h) fun j e' hj he=>hl (j+1) e' (by omega) (by simpa using he)
        unfold mdel at this
        rw [this]
  have hlt:i<es.size:=by
    have:=(List.getElem?_eq_some_iff.1 h).1
    simpa using this
  unfold kvs
  rw [←key es.toList i h hl]
  simp [Array.eraseIdxIfInBounds,hlt]
theorem xupdate {P:Program} {t kt vt:TypeId} {Ok:Value->Prop} {z:Value} (T:TM P t kt vt Ok z) {r:Nat} {m:KV} (hm:KeysOk Ok m) (hn:MOK m) {k:Value} (hk:Ok k) (v:Value):
    OpT P (do Instr.mapUpdate t (.map (some r)) k v;pure .skip) [mo r m] Unit (fun _=>undef) (fun _=> [mo r (mset m k v)]) (fun _=>True):=by
  intro R w ho
  obtain ⟨es,clock,⟨e,hbn⟩,ho'⟩:=mo_open ho
  have hb:=ho'.block (i:=0) rfl
  obtain ⟨o,hf,hspec⟩:=T.key.find k es.toList w hk (kvs_keys e hm)
  cases o with
  | none =>
    have hg:mget (kvs es) k=none:=hspec
    refine ⟨(),_,trivial, .inr ⟨?_,rfl⟩,mo_shut (by rw [kvs_push hg,e]) (hbn.push _ _) (own_setMap (o:= .map (es.push { key:=k,val:=v,born:=clock }) (clock+1)) ho'),ext_setMap _ _ _⟩
    simp only [Instr.mapUpdate,Sem.run_bind,run_underlying T.und,Result.andThen_ok,run_getMap hb,T.key.check _ _ _ hk,hf,run_setMap hb,Sem.run_pure]
  | some iv =>
    obtain ⟨i,u⟩:=iv
    obtain ⟨x,h1,h2,h3,h4⟩:=hspec
    have hxi:es[i]? =some x:=by simpa using h1
    refine ⟨(),_,trivial, .inr ⟨?_,rfl⟩,mo_shut (by rw [kvs_modify (v:=v) h1 h2 h4 (by rw [e];exact hn) (f:=fun y=> { y with key:=k,val:=v }) (fun y=>⟨rfl,rfl⟩),e]) (hbn.modify (f:=fun y=> { y with key:=k,val:=v }) fun _=>rfl) (own_setMap (o:= .map (es.modify i fun y=> { y with key:=k,val:=v }) clock) ho'),ext_setMap _ _ _⟩
    have hs:(Instr.keyThatStays (((es[i]?).map (·.key)).getD k) k).run P w= .ok k w:=by
      rw [hxi]
      simp [h2,Instr.keyThatStays,T.key.same k hk]
    simp only [Instr.mapUpdate,Sem.run_bind,run_underlying T.und,Result.andThen_ok,run_getMap hb,T.key.check _ _ _ hk,hf,hs,run_setMap hb,Sem.run_pure]
theorem xdelete {P:Program} {t kt vt:TypeId} {Ok:Value->Prop} {z:Value} (T:TM P t kt vt Ok z) (ty kt' :TypeId) {r:Nat} {m:KV} (hm:KeysOk Ok m) {k:Value} (hk:Ok k):
    OpT P (do pure (.value (←Builtin.delete_ #[t,kt'] ty #[.map (some r),k]))) [mo r m] Unit (fun _=>undef) (fun _=> [mo r (mdel m k)]) (fun _=>True):=by
  intro R w ho
  obtain ⟨es,clock,⟨e,hbn⟩,ho'⟩:=mo_open ho
  have hb:=ho'.block (i:=0) rfl
  obtain ⟨o,hf,hspec⟩:=T.key.find k es.toList w hk (kvs_keys e hm)
  cases o with
  | none =>
    have hg:mget (kvs es) k=none:=hspec
    have hd:mdel m k=m:=by
      unfold mdel
      refine List.eraseP_of_forall_not fun x hx=> ?_
      rw [e] at hg
      simpa using mget_none.1 hg x hx
    refine ⟨(),_,trivial, .inl ?_,mo_shut (by rw [hd,e]) hbn (own_setMap (o:= .map es clock) ho'),ext_setMap _ _ _⟩
    simp [Builtin.delete_,Sem.run_bind,run_underlying T.und,run_getMap hb,T.key.check _ _ _ hk,hf,run_setMap hb,undef]
  | some iv =>
    obtain ⟨i,u⟩:=iv
    obtain ⟨x,h1,h2,h3,h4⟩:=hspec
    refine ⟨(),_,trivial, .inl ?_,mo_shut (by rw [kvs_erase h1 h2 h4,e]) hbn.erase (own_setMap (o:= .map (es.eraseIdxIfInBounds i) clock) ho'),ext_setMap _ _ _⟩
    simp [Builtin.delete_,Sem.run_bind,run_underlying T.und,run_getMap hb,T.key.check _ _ _ hk,hf,run_setMap hb,undef]
theorem xmlen {P:Program} {t kt vt:TypeId} (hu:P.underlying t=some (.map kt vt)) (ty:TypeId) {r:Nat} {m:KV}:
    OpT P (do pure (.value (←Builtin.len_ #[t] ty #[.map (some r)]))) [mo r m] Unit (fun _=> .int .i64 ((m.length:Nat):Int)) (fun _=> [mo r m]) (fun _=>True):=by
  intro R w ho
  obtain ⟨es,clock,⟨e,hbn⟩,ho'⟩:=mo_open ho
  have hb:=ho'.block (i:=0) rfl
  refine ⟨(),w,trivial, .inl ?_,ho,Ext.refl w⟩
  have hl:es.size=m.length:=by rw [←e];simp [kvs]
  simp [Builtin.len_,Sem.run_bind,run_underlying hu,run_getMap hb,goInt,hl]
end Go.Sx
namespace Go.Sx
open Go.RowKit
def pur (φ:Prop):Slot:= .par [] .none (fun h=>h=Hl.emp/\φ)
theorem sep_pur {φ:Prop} {a:List Slot} {h:Hl}:SepL (a++ [pur φ]) h↔SepL a h/\φ:=by
  constructor
  · intro k
    obtain ⟨p,q,ha,⟨p2,q2,⟨rfl,hφ⟩,rfl,_,rfl⟩,_,rfl⟩:=(sep_append _ _).1 k
    exact ⟨by rw [emp_un,un_emp];exact ha,hφ⟩
  · intro ⟨ha,hφ⟩
    exact (sep_append _ _).2 ⟨h,Hl.emp,ha,⟨Hl.emp,Hl.emp,⟨rfl,hφ⟩,rfl,disj_emp,rfl⟩,disj_emp,un_emp.symm⟩
theorem sep_free {a:List Slot} {h:Hl}:SepL (a++ [.free]) h↔SepL a h:=by
  constructor
  · intro k
    obtain ⟨p,q,ha,⟨p2,q2,hf,rfl,_,rfl⟩,_,rfl⟩:=(sep_append _ _).1 k
    have:p2=Hl.emp:=funext hf
    rw [this,emp_un,un_emp];exact ha
  · intro ha
    exact (sep_append _ _).2 ⟨h,Hl.emp,ha,⟨Hl.emp,Hl.emp,fun _=>rfl,rfl,disj_emp,rfl⟩,disj_emp,un_emp.symm⟩
structure MK where
  te:TypeId
  less:Value
  OkK:Value->Prop
  OkV:Value->Prop
structure KOK (K:MK) (m:KV):Prop where
  once:MOK m
  ok: ∀e∈m,K.OkK e.1/\K.OkV e.2
theorem KOK.keys {K:MK} {m:KV} (h:KOK K m):KeysOk K.OkK m:=fun e he=>(h.ok e he).1
theorem KOK.nil {K:MK}:KOK K []:=⟨MOK.nil,fun e h=>by cases h⟩
theorem mem_set {m:KV} {k v:Value} {e:Value×Value} (h:e∈mset m k v):e=(k,v)∨e∈m:=by
  unfold mset at h
  split at h
  · obtain ⟨x,hx,rfl⟩:=List.mem_map.1 h
    split
    · exact .inl rfl
    · exact .inr hx
  · rcases List.mem_append.1 h with h | h
    · exact .inr h
    · simp at h;exact .inl h
theorem KOK.set {K:MK} {m:KV} (h:KOK K m) {k v:Value} (hk:K.OkK k) (hv:K.OkV v):KOK K (mset m k v):=
  ⟨h.once.set k v,fun e he=>(mem_set he).elim (fun x=>by subst x;exact ⟨hk,hv⟩) (h.ok e)⟩
theorem KOK.del {K:MK} {m:KV} (h:KOK K m) (k:Value):KOK K (mdel m k):=⟨h.once.del k,fun e he=>h.ok e (List.mem_of_mem_eraseP he)⟩
theorem mget_mem {m:KV} {k v:Value} (h:mget m k=some v):(k,v)∈m:=by
  unfold mget at h
  obtain ⟨e,he,rfl⟩:=Option.map_eq_some_iff.1 h
  have h1:=List.find?_some he
  have h2:=List.mem_of_find?_eq_some he
  simp at h1
  subst h1;exact h2
theorem KOK.val {K:MK} {m:KV} (h:KOK K m) {k v:Value} (hg:mget m k=some v):K.OkV v:=(h.ok _ (mget_mem hg)).2
def mF (K:MK) (b bj:Nat) (m:KV):Nat->List Slot:=fun r=>
  [.blk b (.cells #[.map (some r), .pointer (some ⟨bj,0,none⟩),K.less] K.te (0,0)),mo r m]++ [pur (KOK K m)]
def mS (K:MK) (b bj:Nat) (m:KV):Slot:=bun [b,bj] (.kv m) (mF K b bj m)
theorem mS_shut {K:MK} {b bj r:Nat} {m:KV} (h:KOK K m) (l:List Slot):Imp (.blk b (.cells #[.map (some r), .pointer (some ⟨bj,0,none⟩),K.less] K.te (0,0))::mo r m::l) (mS K b bj m::l):=by
  refine Imp.trans (.same fun p hp=> ?_) (bun_shut r l)
  have h2:SepL ([.blk b (.cells #[.map (some r), .pointer (some ⟨bj,0,none⟩),K.less] K.te (0,0)),mo r m]++l) p:=hp
  obtain ⟨p1,p2,ha,hb,d,rfl⟩:=(sep_append _ _).1 h2
  exact (sep_append _ _).2 ⟨p1,p2,sep_pur.2 ⟨ha,h⟩,hb,d,rfl⟩
theorem mS_open {K:MK} {b bj:Nat} {m:KV} {l:List Slot} {R:HP} {w:World} (h:Own (ofList (mS K b bj m::l)) R w):
    ∃r,KOK K m/\Own (ofList (.blk b (.cells #[.map (some r), .pointer (some ⟨bj,0,none⟩),K.less] K.te (0,0))::mo r m::l)) R w:=by
  obtain ⟨r,hr⟩:=bun_open h
  obtain ⟨p,q,hp,hq,hw,hqw,d⟩:=own_sep.1 hr
  obtain ⟨p1,p2,ha,hb,d2,rfl⟩:=(sep_append _ _).1 hp
  obtain ⟨ha',hk⟩:=sep_pur.1 ha
  exact ⟨r,hk,own_sep.2 ⟨_,q,(sep_append [_,_] l).2 ⟨p1,p2,ha',hb,d2,rfl⟩,hq,hw,hqw,d⟩⟩
theorem mS_call {P:Program} {f:FuncId} {args:Array Value} {K:MK} {b bj:Nat} {m:KV} {l:List Slot} {X:Type} {val:X->Value} {us:X->List Slot} {Φ:X->Prop} {m' :X->KV} (he:EnterOK P f)
    (h: ∀r,KOK K m->CallT P f args (.blk b (.cells #[.map (some r), .pointer (some ⟨bj,0,none⟩),K.less] K.te (0,0))::mo r m::l) X val (fun x=> .blk b (.cells #[.map (some r), .pointer (some ⟨bj,0,none⟩),K.less] K.te (0,0))::mo r (m' x)::us x) Φ)
    (hk: ∀x,Φ x->KOK K m->KOK K (m' x)):CallT P f args (mS K b bj m::l) X val (fun x=>mS K b bj (m' x)::us x) Φ:=
  ⟨he,fun R w ho=>by
    obtain ⟨r,hm,ho'⟩:=mS_open ho
    exact ((h r hm).calls R w ho').mono fun _ _ ⟨x,hx,e,o,ext⟩=>⟨x,hx,e,mS_shut (hk x hx hm) _ _ _ o,ext⟩⟩
abbrev N4:=Nat×Nat×Nat×Nat
abbrev Rw:=Row
abbrev ptr (b:Nat):Value:= .pointer (some ⟨b,0,none⟩)
def Ent.fn (e:Ent) (a:N4):Value:= .func (.func e.g) #[] #[ptr a.1,ptr a.2.1,ptr a.2.2.1,ptr a.2.2.2]
def Ent.sl (e:Ent) (a:N4):List Slot:=
  [.blk a.1 (.cells #[.bool e.was.isSome] e.t1 (0,0)), .blk a.2.1 (.cells (e.was.getD e.z).cells e.t2 (0,0)), .blk a.2.2.1 (.cells #[ptr e.b] e.t3 (0,0)), .blk a.2.2.2 (.cells e.key.cells e.t4 (0,0))]
def ents (L:List Ent) (A:List N4):List Slot:=(L.zip A).flatMap fun x=>x.1.sl x.2
def fns (L:List Ent) (A:List N4):List Value:=(L.zip A).map fun x=>x.1.fn x.2
structure JK where
  tj:TypeId
  ft:TypeId
def jF (K:JK) (bj:Nat) (L:List Ent):Row×List N4->List Slot:=fun e=>
  (.blk bj (.cells #[sv e.1] K.tj (0,0))::ss K.ft e.1::ents L e.2)++ [pur (vals e.1=fns L e.2/\e.2.length=L.length)]
def jS (K:JK) (bj:Nat) (L:List Ent):Slot:=bun [bj] (.ents L) (jF K bj L)
theorem jS_shut {K:JK} {bj:Nat} {L:List Ent} {row:Row} {A:List N4} (hv:vals row=fns L A) (hl:A.length=L.length) (l:List Slot):
    Imp (.blk bj (.cells #[sv row] K.tj (0,0))::ss K.ft row::(ents L A++l)) (jS K bj L::l):=by
  refine Imp.trans (.same fun p hp=> ?_) (bun_shut (row,A) l)
  have h2:SepL ((.blk bj (.cells #[sv row] K.tj (0,0))::ss K.ft row::ents L A)++l) p:=hp
  obtain ⟨p1,p2,ha,hb,d,rfl⟩:=(sep_append _ _).1 h2
  exact (sep_append _ _).2 ⟨p1,p2,sep_pur.2 ⟨ha,hv,hl⟩,hb,d,rfl⟩
theorem jS_open {K:JK} {bj:Nat} {L:List Ent} {l:List Slot} {R:HP} {w:World} (h:Own (ofList (jS K bj L::l)) R w):
    ∃row A,vals row=fns L A/\A.length=L.length/\Own (ofList (.blk bj (.cells #[sv row] K.tj (0,0))::ss K.ft row::(ents L A++l))) R w:=by
  obtain ⟨⟨row,A⟩,hr⟩:=bun_open h
  obtain ⟨p,q,hp,hq,hw,hqw,d⟩:=own_sep.1 hr
  obtain ⟨p1,p2,ha,hb,d2,rfl⟩:=(sep_append _ _).1 hp
  obtain ⟨ha',hv,hl⟩:=sep_pur.1 ha
  exact ⟨row,A,hv,hl,own_sep.2 ⟨_,q,(sep_append (_::_::ents L A) l).2 ⟨p1,p2,ha',hb,d2,rfl⟩,hq,hw,hqw,d⟩⟩
theorem fns_len {L:List Ent} {A:List N4} (h:A.length=L.length):(fns L A).length=L.length:=by simp [fns,h]
theorem fns_snoc {L:List Ent} {A:List N4} (h:A.length=L.length) (e:Ent) (a:N4):fns (L++ [e]) (A++ [a])=fns L A++ [e.fn a]:=by
  unfold fns;rw [List.zip_append h.symm,List.map_append];rfl
theorem ents_snoc {L:List Ent} {A:List N4} (h:A.length=L.length) (e:Ent) (a:N4):ents (L++ [e]) (A++ [a])=ents L A++e.sl a:=by
  unfold ents;rw [List.zip_append h.symm,List.flatMap_append];simp
theorem jS_read {P:Program} {f:FuncId} {args:Array Value} {K:JK} {bj:Nat} {L:List Ent} {X:Type} {val:X->Value} {Φ:X->Prop} (he:EnterOK P f)
    (h: ∀row,vals row=vals row->(vals row).length=L.length->CallT P f args [.blk bj (.cells #[sv row] K.tj (0,0)),ss K.ft row] X val (fun _=> [.blk bj (.cells #[sv row] K.tj (0,0)),ss K.ft row]) Φ):
    CallT P f args [jS K bj L] X val (fun _=> [jS K bj L]) Φ:=
  ⟨he,fun R w ho=>by
    obtain ⟨row,A,hv,hl,ho'⟩:=jS_open (l:= []) ho
    rw [List.append_nil] at ho'
    have c:=(h row rfl (by rw [hv,fns_len hl])).frame (ents L A)
    exact (c.calls R w ho').mono fun _ _ ⟨x,hx,e,o,ext⟩=>⟨x,hx,e,jS_shut hv hl [] _ _ (by rw [List.append_nil];exact o),ext⟩⟩
theorem jS_empty {K:JK} {bj:Nat}:Imp [.blk bj (.cells #[.slice none 0 0] K.tj (0,0))] [jS K bj []]:=by
  refine Imp.trans (.same fun p hp=> ?_) (jS_shut (row:= .nil) (A:= []) rfl rfl [])
  exact (sep_free (a:= [.blk bj (.cells #[.slice none 0 0] K.tj (0,0))])).2 hp
theorem jS_note {P:Program} {f:FuncId} {args:Array Value} {K:JK} {bj:Nat} {L:List Ent} {S1 S2:Slot} {V:Type} {vv:V->Value} {e:Ent} {mk:Option Value->Ent} (he:EnterOK P f) (hs:e.was.isSome=e.was.isSome)
    (h: ∀row,(vals row).length=L.length->CallT P f args [S1,S2, .blk bj (.cells #[sv row] K.tj (0,0)),ss K.ft row] (Row×N4×V×Bool) (fun _=>undef)
      (fun x=> [S1,S2, .blk bj (.cells #[sv x.1] K.tj (0,0)),ss K.ft x.1, .blk x.2.1.1 (.cells #[.bool x.2.2.2] e.t1 (0,0)), .blk x.2.1.2.1 (.cells (vv x.2.2.1).cells e.t2 (0,0)), .blk x.2.1.2.2.1 (.cells #[ptr e.b] e.t3 (0,0)), .blk x.2.1.2.2.2 (.cells e.key.cells e.t4 (0,0))])
      (fun x=>vals x.1=vals row++ [e.fn x.2.1]/\x.2.2.2=e.was.isSome/\vv x.2.2.1=e.was.getD e.z)):
    CallT P f args [S1,S2,jS K bj L] Unit (fun _=>undef) (fun _=> [S1,S2,jS K bj (L++ [e])]) (fun _=>True):=
  ⟨he,fun R w ho=>by
    have ho1:Own (ofList (jS K bj L:: [S1,S2])) R w:=Imp.swap [S1,S2] [jS K bj L] R w ho
    obtain ⟨row,A,hv,hl,ho2⟩:=jS_open (l:= [S1,S2]) ho1
    have ho3:Own (ofList ([S1,S2]++([.blk bj (.cells #[sv row] K.tj (0,0)),ss K.ft row]++ents L A))) R w:=
      Imp.swap ([.blk bj (.cells #[sv row] K.tj (0,0)),ss K.ft row]++ents L A) [S1,S2] R w ho2
    have c:=(h row (by rw [hv,fns_len hl])).frame (ents L A)
    refine (c.calls R w ho3).mono fun e' w' hh=> ?_
    obtain ⟨x,⟨h1,h2,h3⟩,e1,o,ext⟩:=hh
    refine ⟨(),trivial,e1,?_,ext⟩
    obtain ⟨y,a,v,is⟩:=x
    simp only at h1 h2 h3 o
    rw [h2,h3] at o
    have o1:Own (ofList ([S1,S2]++([.blk bj (.cells #[sv y] K.tj (0,0)),ss K.ft y]++(e.sl a++ents L A)))) R w' :=o
    have o2:=Imp.swap [S1,S2] _ R w' o1
    have o3:Own (ofList (.blk bj (.cells #[sv y] K.tj (0,0))::ss K.ft y::(ents (L++ [e]) (A++ [a])++ [S1,S2]))) R w' :=by
      refine (Imp.same fun p hp=> ?_) R w' o2
      rw [ents_snoc hl]
      have hp' :SepL ([.blk bj (.cells #[sv y] K.tj (0,0)),ss K.ft y]++((e.sl a++ents L A)++ [S1,S2])) p:=by rw [←List.append_assoc];exact hp
      obtain ⟨p1,p2,ha,hb,d,rfl⟩:=(sep_append _ _).1 hp'
      obtain ⟨p3,p4,hc,hd,d2,rfl⟩:=(sep_append _ _).1 hb
      exact (sep_append [.blk bj (.cells #[sv y] K.tj (0,0)),ss K.ft y] ((ents L A++e.sl a)++ [S1,S2])).2 ⟨p1,_,ha,(sep_append _ _).2 ⟨p3,p4,sep_swap hc,hd,d2,rfl⟩,d,rfl⟩
    have o4:=jS_shut (by rw [fns_snoc hl,h1,hv]) (by simp [hl]) [S1,S2] R w' o3
    exact Imp.swap [jS K bj (L++ [e])] [S1,S2] R w' o4⟩
end Go.Sx
namespace Go.Sx
open Go.RowKit
theorem KL.of_asking {P : Program} {kt : TypeId} {d : TypeDesc} {Ok : Value -> Prop} (hu : P.underlying kt = some d) (hc : ∀ b k w, Ok k -> (Instr.checkKey b 10000 kt k).run P w = .ok () w)
    (hn: ∀k k',Ok k->Ok k' ->Instr.sameNow d k k' =none) (he: ∀k k' w,Ok k->Ok k' ->(Op.equal kt k k').run P w= .ok (decide (k=k')) w) (hs: ∀k,Ok k->Instr.sameBits 10000 k k=true):KL P kt Ok:=by
  refine ⟨hc,fun k es w hk hes=> ?_,hs⟩
  have key: ∀ (es:List MapEntry) (n:Nat),(∀e∈es,Ok e.key)-> ∃o,(Instr.findAsking kt k es n).run P w= .ok o w/\
      (match o with | none=>mget (es.map fun e=>(e.key,e.val)) k=none | some (i,v)=>n<=i/\ ∃e,es[i - n]? =some e/\e.key=k/\e.val=v/\ ∀j e',j<i - n->es[j]? =some e' ->e'.key≠k):=by
    intro es
    induction es with
    | nil=>intro n _;exact ⟨none,rfl,rfl⟩
    | cons e es ih =>
      intro n h
      have hq:=he k e.key w hk (h e (List.mem_cons_self ..))
      by_cases hke:k=e.key
      · refine ⟨some (n,e.val),?_,Nat.le_refl _,e,by simp,hke.symm,rfl,fun j e' hj=>by omega⟩
        rw [decide_eq_true hke] at hq
        unfold Instr.findAsking;simp [Sem.run_bind,hq]
      · obtain ⟨o,ho,hspec⟩:=ih (n+1) fun x hx=>h x (List.mem_cons_of_mem _ hx)
        refine ⟨o,?_,?_⟩
        · rw [decide_eq_false hke] at hq
          unfold Instr.findAsking;simp [Sem.run_bind,hq,ho]
        · cases o with
          | none =>
            show mget ((e::es).map fun e=>(e.key,e.val)) k=none
            rw [List.map_cons,mget_cons,if_neg (fun x=>hke x.symm)];exact hspec
          | some iv =>
            obtain ⟨h1,x,h2,h3,h4,h5⟩:=hspec
            refine ⟨by omega,x,?_,h3,h4,fun j e' hj hje=> ?_⟩
            · rw [show iv.1 - n=(iv.1 - (n+1))+1 from by omega,List.getElem?_cons_succ];exact h2
            · cases j with
              | zero=>simp at hje;subst hje;exact fun x=>hke x.symm
              | succ j=>exact h5 j e' (by omega) (by simpa using hje)
  cases es with
  | nil =>
    refine ⟨none,?_,rfl⟩
    simp only [Instr.findKey,Sem.run_bind,run_underlying hu,Result.andThen_ok,Instr.findNow,Sem.run_pure]
  | cons e es =>
    obtain ⟨o,ho,hspec⟩:=key (e::es) 0 hes
    refine ⟨o,?_,?_⟩
    · have:Instr.findNow d k (e::es) 0=none:=by unfold Instr.findNow;rw [hn k e.key hk (hes e (List.mem_cons_self ..))]
      simp only [Instr.findKey,Sem.run_bind,run_underlying hu,Result.andThen_ok,this]
      exact ho
    · cases o with
      | none=>exact hspec
      | some iv=>exact hspec.2
structure KindL (P:Program) (K:MK) (t kt vt:TypeId) (z:Value) {V:Type} (vv:V->Value) (Ok:V->Prop):Prop where
  tm:TM P t kt vt K.OkK z
  val: ∀x,K.OkV x↔ ∃v,Ok v/\x=vv v
  zero: ∃v,Ok v/\z=vv v
def F_look {V:Type} (vv:V->Value) (Ok:V->Prop) (z:Value):List Value->List Slot->Ctr:=fun vs hs=>
  ⟨V×Bool,fun x=> .tuple #[vv x.1, .bool x.2],fun _=>hs,fun x=>Ok x.1/\x.2=(mget (skv (sarg hs 0)) (varg vs 1)).isSome/\vv x.1=(mget (skv (sarg hs 0)) (varg vs 1)).getD z⟩
theorem wlook {P:Program} {K:MK} {t kt vt:TypeId} {z:Value} {V:Type} {vv:V->Value} {Ok:V->Prop} (L:KindL P K t kt vt z vv Ok) {m:KV} (h:KOK K m) (k:Value):
    ∃x:V×Bool,(fun x:V×Bool=>Ok x.1/\x.2=(mget m k).isSome/\vv x.1=(mget m k).getD z) x:=by
  cases hg:mget m k with
  | none =>
    obtain ⟨v,hv,hz⟩:=L.zero
    exact ⟨(v,false),hv,rfl,hz.symm⟩
  | some y =>
    obtain ⟨v,hv,hy⟩:=(L.val y).1 (h.val hg)
    exact ⟨(v,true),hv,rfl,hy.symm⟩
theorem xlook {P:Program} {K:MK} {t kt vt:TypeId} {z:Value} {V:Type} {vv:V->Value} {Ok:V->Prop} (L:KindL P K t kt vt z vv Ok) {r:Nat} {m:KV} (h:KOK K m) {k:Value} (hk:K.OkK k):
    OpT P (do pure (.value (←Instr.lookup t (.map (some r)) k true))) [mo r m] (V×Bool) (fun x=> .tuple #[vv x.1, .bool x.2]) (fun _=> [mo r m]) (fun x=>Ok x.1/\x.2=(mget m k).isSome/\vv x.1=(mget m k).getD z):=by
  intro R w ho
  obtain ⟨_,w',_,hy,ho',he⟩:=xlookup L.tm h.keys hk R w ho
  obtain ⟨x,hx⟩:=wlook L h k
  refine ⟨x,w',hx,?_,ho',he⟩
  simp only [hx.2.1,hx.2.2];exact hy
def F_upd:List Value->List Slot->Ctr:=fun vs hs=>⟨KV,fun _=>undef,fun x=> [mo (vblk (varg vs 0)) x],fun x=>x=mset (skv (sarg hs 0)) (varg vs 1) (varg vs 2)⟩
theorem xupd {P:Program} {K:MK} {t kt vt:TypeId} {z:Value} {V:Type} {vv:V->Value} {Ok:V->Prop} (L:KindL P K t kt vt z vv Ok) {r:Nat} {m:KV} (h:KOK K m) {k:Value} (hk:K.OkK k) (v:Value):
    OpT P (do Instr.mapUpdate t (.map (some r)) k v;pure .skip) [mo r m] KV (fun _=>undef) (fun x=> [mo r x]) (fun x=>x=mset m k v):=by
  intro R w ho
  obtain ⟨_,w',_,hy,ho',he⟩:=xupdate L.tm h.keys h.once hk v R w ho
  exact ⟨_,w',rfl,hy,ho',he⟩
def F_del:List Value->List Slot->Ctr:=fun vs hs=>⟨KV,fun _=>undef,fun x=> [mo (vblk (varg vs 0)) x],fun x=>x=mdel (skv (sarg hs 0)) (varg vs 1)⟩
theorem xdel {P:Program} {K:MK} {t kt vt:TypeId} {z:Value} {V:Type} {vv:V->Value} {Ok:V->Prop} (L:KindL P K t kt vt z vv Ok) (ty kt' :TypeId) {r:Nat} {m:KV} (h:KOK K m) {k:Value} (hk:K.OkK k):
    OpT P (do pure (.value (←Builtin.delete_ #[t,kt'] ty #[.map (some r),k]))) [mo r m] KV (fun _=>undef) (fun x=> [mo r x]) (fun x=>x=mdel m k):=by
  intro R w ho
  obtain ⟨_,w',_,hy,ho',he⟩:=xdelete L.tm ty kt' h.keys hk R w ho
  exact ⟨_,w',rfl,hy,ho',he⟩
def F_mlen:List Value->List Slot->Ctr:=fun _ hs=>⟨Int,fun x=> .int .i64 x,fun _=>hs,fun x=>x=(((skv (sarg hs 0)).length:Nat):Int)⟩
theorem xmlen' {P:Program} {t kt vt:TypeId} (hu:P.underlying t=some (.map kt vt)) (ty:TypeId) {r:Nat} {m:KV}:
    OpT P (do pure (.value (←Builtin.len_ #[t] ty #[.map (some r)]))) [mo r m] Int (fun x=> .int .i64 x) (fun _=> [mo r m]) (fun x=>x=((m.length:Nat):Int)):=by
  intro R w ho
  obtain ⟨_,w',_,hy,ho',he⟩:=xmlen hu ty R w ho
  exact ⟨_,w',rfl,hy,ho',he⟩
theorem mo_new {r:Nat} {l:List Slot}:Imp (.blk r (.map #[] 0)::l) (mo r []::l):=fun _ _ h=>mo_shut rfl Born.empty h
end Go.Sx
namespace Go.Sx
open Go.RowKit
structure CallD (P:Program) (f:FuncId) (args:Array Value) (Hs:List Slot) (X:Type) (us:X->List Slot) (Φ:X->Prop):Prop where
  enter:EnterOK P f
  calls: ∀ (R:HP) (u:FrameMode) (w:World),Own (ofList Hs) R w->
    CallsD P f args u w fun e u' w' =>u' =u/\ ∃x v,Φ x/\e= .returned v/\Own (ofList (us x)) R w' /\Ext w w'
def finR (P:Program) (fn:Func) (acc:List Acc) (outs:List Nat) {X:Type} (val:X->Value) (us:X->List Slot) (Φ:X->Prop) (fr:Nat->Value) (H:Hp):Prop:=
  symR P (resF fn fr) acc H fun v=> ∃x,Φ x/\v=val x/\outW outs (us x) H True
theorem CallD.use {P:Program} {f:FuncId} {args:Array Value} {H:Hp} {ins outs:List Nat} {X:Type} {us:X->List Slot} {Φ:X->Prop} {R:HP} {u:FrameMode} {w:World}
    (h:CallD P f args (ins.map H) X us Φ) (hi:ins.Nodup) (ho:outs.Nodup) (hw:Own H R w):
    CallsD P f args u w fun e u' w' =>u' =u/\ ∃x v,Φ x/\e= .returned v/\Own (updL (clears H ins) outs (us x)) R w' /\Ext w w' :=
  (h.calls _ u w (own_split hi hw)).mono fun _ _ _ ⟨hu,x,v,hx,he,ho',hext⟩=>⟨hu,x,v,hx,he,own_join ho ho',hext⟩
end Go.Sx
namespace Go.Sx
theorem new_fold {K:MK} (b r bj:Nat):Imp [.blk b (.cells #[.map (some r), .pointer (some ⟨bj,0,none⟩),K.less] K.te (0,0)), .blk r (.map #[] 0)] [mS K b bj []]:=by
  refine Imp.trans ?_ (mS_shut (r:=r) KOK.nil [])
  intro R w h
  have h1:=Imp.swap [_] [_] R w h
  exact Imp.swap [mo r []] [_] R w (mo_new R w h1)
theorem cells_sv (r:Row):(sv r).cells= #[sv r]:=by cases r<;>rfl
theorem one_sv (r:Row):(sv r).oneCell' =true:=by cases r<;>rfl
theorem heap_setCell_at (w:World) (b n:Nat) (cs:Array Value) (e:TypeId) (f:Nat×Nat) (v:Value) (h:w.heap[b]? =some (.cells cs e f)):(w.setCell ⟨b,n,none⟩ v).heap[b]? =some (.cells (cs.setIfInBounds n v) e f):=by
  simp only [World.setCell]
  rw [heap_modify_same _ h];simp
theorem xputv {P:Program} {b:Nat} {cs:Array Value} {ty te:TypeId} (hs: ∀w,(sizeOf te).run P w= .ok 1 w) (n:Nat) (v:Value) (h1:v.cells= #[v]) (h2:v.oneCell' =true) (hn:n<cs.size):
    OpT P (do Instr.storeAt te (.pointer (some ⟨b,n,none⟩)) v;pure .skip) [.blk b (.cells cs ty (0,0))] Unit (fun _=>undef) (fun _=> [.blk b (.cells (cs.setIfInBounds n v) ty (0,0))]) (fun _=>True):=by
  intro R w h
  have hb:=h.block (i:=0) rfl
  have hc:w.cell? ⟨b,n,none⟩=some cs[n]:=by
    rw [cell_of_block hb rfl];simp [hn]
  have hf:w.frozen? ⟨b,n,none⟩=false:=by
    rw [frozen_of_block hb];simp [frozenAt,frz]
  have hst:(store ⟨b,n,none⟩ v).run P w= .ok () (w.setCell ⟨b,n,none⟩ v):=by rw [run_store P w _ v _ h2,hc];simp [hf]
  have hh:=heap_setCell_at w b n cs ty (0,0) v hb
  refine ⟨(),w.setCell ⟨b,n,none⟩ v,trivial, .inr ⟨?_,rfl⟩,?_,?_⟩
  · simp [Instr.storeAt,Instr.sureAddr,storeVar,Sem.run_bind,hs,h1,storeCells,Addr.add,hst]
  · have:=h.set (i:=0) (b:=b) rfl hh (fun c hc=>heap_setCell_other w _ c v hc)
    refine (congrArg (fun H=>Own H R (w.setCell ⟨b,n,none⟩ v)) ?_).mp this
    funext i
    cases i<;>rfl
  · exact ⟨rfl,rfl,rfl,by simp,by first | exact Nat.le_refl _ | exact Nat.le_succ _ | simp⟩
def default_ent:Ent:=⟨0,0,undef,none,undef,0,0,0,0⟩
def F_newj (K:JK):List Value->List Slot->Ctr:=fun _ _=>⟨Nat,ptr,fun b=> [jS K b []],fun _=>True⟩
theorem xnewj {P:Program} {K:JK} {m:Sem Next} (h:symW P m [.nw 0] (ofList []) fun nx H _=> ∃b,nx= .value (ptr b)/\H=upd (ofList []) 0 (.blk b (.cells #[.slice none 0 0] K.tj (0,0)))):
    OpT P m [] Nat ptr (fun b=> [jS K b []]) (fun _=>True):=by
  intro R w ho
  obtain ⟨nx,w',H',acc',hrun,⟨b,rfl,rfl⟩,ho',he⟩:=symW_sound _ _ _ _ R w h ho
  refine ⟨b,w',trivial, .inl hrun,jS_empty _ _ ?_,he⟩
  refine (congrArg (fun H=>Own H R w') ?_).mp ho'
  funext i;cases i<;>rfl
def arrV (k:IntKind) (ns:List Int):Array Value:=(ns.map (Value.int k)).toArray
theorem arrV_size {k:IntKind} {ns:List Int}:(arrV k ns).size=ns.length:=by simp [arrV]
theorem arrV_getD {k:IntKind} {ns:List Int} {i:Nat} (h:i<ns.length):(arrV k ns).getD i undef= .int k (ns.getD i 0):=by
  simp [arrV,Array.getD_eq_getD_getElem?,h]
theorem arrV_ci {k:IntKind} {ns:List Int} {i:Nat} (h:i<ns.length):ci ((arrV k ns).getD i undef)=ns.getD i 0:=by rw [arrV_getD h];rfl
theorem arrV_get {k:IntKind} {ns:List Int} {i:Nat} (h:i<ns.length):(arrV k ns)[i]? =some (.int k (ci ((arrV k ns).getD i undef))):=by
  rw [arrV_ci h];simp [arrV,h]
theorem arrV_set {k:IntKind} {ns:List Int} {i:Nat} {v:Int}:(arrV k ns).setIfInBounds i (.int k v)=arrV k (ns.set i v):=by simp [arrV,List.map_set]
theorem xaidx {P:Program} {t e:TypeId} {n:Nat} (hu:P.underlying t=some (.array n e)) (hs: ∀w,(sizeOf e).run P w= .ok 1 w) (b:Nat) (k:IntKind) (i:Int) (h0:0<=i) (h1:i<(n:Int)):
    PureRun P (do pure (.value (←Instr.indexAt t (.pointer (some ⟨b,0,none⟩)) (.int k i)))) (.pointer (some ⟨b,i.toNat,none⟩)):=by
  intro w
  have hc:0<=i/\i<(n:Int):=⟨h0,h1⟩
  simp [Instr.indexAt,run_underlying hu,asIntOf,hc,hs w,Addr.add,Instr.sureAddr,Sem.run_bind]
  omega
theorem Imp.tail {a b:List Slot} (s:Slot) (h:Imp a b):Imp (s::a) (s::b):=by
  intro R w ho
  have h1:=own_frame.1 (Imp.swap [s] a R w ho)
  exact Imp.swap b [s] R w (own_frame.2 (h _ w h1))
end Go.Sx
namespace Go.Sx
open Go.RowKit
def srcv (x:Value) (s:Slot):List Value:=((scells s).toList.drop (voff x)).take (vlen x)
def F_appN (e:TypeId):List Value->List Slot->Ctr:=fun vs hs=>⟨Row,fun y=>sv y,fun y=> [ss e y,sarg hs 1],fun y=>vals y=rvals (varg vs 0) (sarg hs 0)++srcv (varg vs 1) (sarg hs 1)⟩
theorem upd_two (s t u:Slot):upd (ofList [t,u]) 0 s=ofList [s,u]:=by
  funext i
  cases i with
  | zero=>rfl
  | succ i=>cases i<;>rfl
theorem zl_of {z:Value} (hz:z.cells= #[z]) (n:Nat): ∃ex:List Value,Builtin.zeroCells z.cells n=ex.toArray/\ex.length=n:=by
  refine ⟨(Builtin.zeroCells z.cells n).toList,by simp,?_⟩
  rw [Array.length_toList,size_zeroCells,hz];simp
theorem zeros_of {z:Value} (hz:z.cells= #[z]) (n:Nat):Builtin.zeroCells z.cells n=(List.replicate n z).toArray:=by
  apply Array.ext
  · simp [Builtin.zeroCells,hz]
  · intro j h1 h2
    simp [Builtin.zeroCells,hz,Nat.mod_one]
theorem own_setCells {e:TypeId} {b:Nat} {R:HP}: ∀ (news:List Value) (pre olds post:List Value) (H:Hp) (w:World) (i:Nat),Own H R w->H i= .blk b (.cells (pre++olds++post).toArray e (0,0))->olds.length=news.length->
    Own (upd H i (.blk b (.cells (pre++news++post).toArray e (0,0)))) R (w.setCells b pre.length news)/\Ext w (w.setCells b pre.length news)
  | [], pre, olds, post, H, w, i, ho, hi, hl => by
    have h0:olds= []:=List.length_eq_zero_iff.1 hl
    subst h0
    refine ⟨?_,Ext.refl w⟩
    rw [←hi]
    have:upd H i (H i)=H:=by funext j;unfold upd;cases h:Nat.beq j i<;>simp;rw [Nat.beq_eq] at h;rw [h]
    rw [this];exact ho
  | v::r,pre,[],post,H,w,i,ho,hi,hl=>by simp at hl
  | v :: r, pre, o :: olds, post, H, w, i, ho, hi, hl => by
    have hb:=ho.block hi
    have hh:=heap_setCell_same w b pre.length _ e v hb
    have hset:((pre++o::olds++post).toArray.setIfInBounds pre.length v)=((pre++ [v])++olds++post).toArray:=by simp
    rw [hset] at hh
    have h1:=ho.set (i:=i) (b:=b) hi hh (fun c hc=>heap_setCell_other w _ c v hc)
    have h2:=own_setCells r (pre++ [v]) olds post (upd H i (.blk b (.cells ((pre++ [v])++olds++post).toArray e (0,0)))) (w.setCell ⟨b,pre.length,none⟩ v) i h1 (by unfold upd;rw [Nat.beq_refl];rfl) (by simpa using hl)
    have e1:(pre++ [v]).length=pre.length+1:=by simp
    have e2: ∀s,upd (upd H i (.blk b (.cells ((pre++ [v])++olds++post).toArray e (0,0)))) i s=upd H i s:=by
      intro s;funext j;unfold upd;cases Nat.beq j i<;>rfl
    rw [e1,e2,List.append_assoc pre [v] r] at h2
    have h3:Ext w (w.setCell ⟨b,pre.length,none⟩ v):=⟨rfl,rfl,rfl,by simp,by first | exact Nat.le_refl _ | exact Nat.le_succ _ | simp⟩
    have h4:w.setCells b pre.length (v::r)=(w.setCell ⟨b,pre.length,none⟩ v).setCells b (pre.length+1) r:=by rw [World.setCells]
    rw [h4]
    exact ⟨h2.1,h3.trans h2.2⟩
theorem xappN {P : Program} {fz : Nat × Nat} {t e : TypeId} {z : Value} (h : SlT P t e z) (ty : TypeId) (r : Row) (hl : (vals r).length <= 1073741824) {c o m cap : Nat} {cs : Array Value} {te : TypeId} {news : List Value} (hm : news.length = m) (hm1 : m <= 1073741824)
    (hc: ∀j u,news[j]? =some u->cs[o+j]? =some u) (h2: ∀u∈news,u.oneCell' =true):
    OpT P (do pure (.value (←Builtin.append_ #[t,t] ty #[sv r, .slice (some ⟨c,o,none⟩) m cap]))) [ss e r, .blk c (.cells cs te fz)] Row sv (fun y=> [ss e y, .blk c (.cells cs te fz)]) (fun y=>vals y=vals r++news):=by
  intro R w h0
  obtain ⟨i,hi,hz,hs,hby⟩:=h.info
  have hcb:=h0.block (i:=1) rfl
  have hnews: ∀j u,news[j]? =some u->w.cell? ((⟨c,o,none⟩:Addr).add j)=some u:=by
    intro j u hu
    have:(⟨c,o,none⟩:Addr).add j=⟨c,o+j,none⟩:=Addr.add_lit ..
    rw [this,cell_of_block hcb rfl]
    exact hc j u hu
  rcases Nat.eq_zero_or_pos m with hm0 | hm0
  · subst hm0
    have hn:news= []:=List.length_eq_zero_iff.1 hm
    subst hn
    refine ⟨r,w,by simp, .inl ?_,h0,Ext.refl w⟩
    have hlc:(loadCells ⟨c,o,none⟩ 0).run P w= .ok #[] w:=by simpa using run_loadCells_list (P:=P) w ⟨c,o,none⟩ [] (by simp)
    cases r with
    | nil=>simp [sv,Builtin.append_,run_underlying h.und,sizeOf,typeInfo,hi,Builtin.lenOf,Builtin.firstCells,hs,hlc,Result.andThen]
    | mk b vs ex =>
      have hr0:=run_firstCells_some (P:=P) w 1 0 ⟨c,o,none⟩ 0 cap [] rfl (by simp)
      simp [sv,Builtin.append_,run_underlying h.und,sizeOf,typeInfo,hi,Builtin.lenOf,hs,hr0,storeCells]
  have fresh: ∀ (o' :Obj),Own (ofList [.blk w.heap.size o', .blk c (.cells cs te fz)]) R (w.drew.alloc o'):=by
    intro o'
    have:=h0.new (w' :=w.drew.alloc o') (i:=0) (o:=o') (heap_alloc_new w.drew o') (fun c hc=>heap_alloc_old w.drew o' c hc)
    rw [upd_two] at this
    exact this
  have ext: ∀ (o:Obj),Ext w (w.drew.alloc o):=fun o=>⟨rfl,rfl,rfl,by simp,by first | exact Nat.le_refl _ | exact Nat.le_succ _ | simp⟩
  cases r with
  | nil =>
    have hr:=run_append_nil (P:=P) w t ty e i z h.und hi hz ⟨c,o,none⟩ m cap news (by simp [hs,hm]) hnews hm0 (by omega) (by
      have:m*i.bytes<=1073741824*4096:=Nat.mul_le_mul hm1 hby
      omega)
    obtain ⟨ex,he,hx⟩:=zl_of h.zc (grownCap w m 0 e - m)
    have hge:=grownCap_ge w m 0 e
    rw [he] at hr
    refine ⟨.mk w.heap.size news ex,w.drew.alloc (.cells (news.toArray++ex.toArray) e),by simp [vals], .inl ?_,?_,ext _⟩
    · simp only [sv]
      show (Sem.run P (Builtin.append_ _ _ _>>=_) w)=_
      rw [Sem.run_bind,hr]
      have:news.length+ex.length=grownCap w m 0 e:=by omega
      rw [this,hm];rfl
    · have:=fresh (.cells (news.toArray++ex.toArray) e)
      simpa [ss] using this
  | mk b vs ex =>
    simp only [vals] at hl
    have hb:=h0.block (i:=0) rfl
    by_cases hroom:vs.length+m<=vs.length+ex.length
    · have hcell: ∀j,j<news.length->(w.cell? ⟨b,0+vs.length*i.size+j,none⟩).isSome=true:=by
        intro j hj
        rw [hs]
        have:0+vs.length*1+j<(vs++ex).length:=by simp;omega
        simp [World.cell?,hb,List.getElem?_eq_getElem this]
        omega
      have hr:=run_append_room_cells (P:=P) w t ty e i h.und hi b 0 vs.length (vs.length+ex.length) ⟨c,o,none⟩ m cap news (by simp [hs,hm]) hnews h2 hroom hcell (fun j hj=>frozen_of_row w b _ _ e hb)
      rw [hs,Nat.mul_one,Nat.zero_add] at hr
      obtain ⟨olds,ex',hex,hol⟩: ∃olds ex',ex=olds++ex' /\olds.length=news.length:=⟨ex.take m,ex.drop m,(List.take_append_drop m ex).symm,by simp;omega⟩
      subst hex
      have hset:=own_setCells (e:=e) (b:=b) (R:=R) news vs olds ex' _ w 0 h0 (by simp [ofList,ss]) hol
      refine ⟨.mk b (vs++news) ex',w.setCells b vs.length news,rfl, .inl ?_,?_,hset.2⟩
      · simp only [sv]
        rw [Sem.run_bind,hr]
        have e1:(vs++news).length=vs.length+m:=by simp [hm]
        have e2:(vs++news).length+ex'.length=vs.length+(olds++ex').length:=by simp;omega
        rw [e2,e1];rfl
      · have:=hset.1
        rw [upd_two] at this
        exact this
    · have holds: ∀j u,vs[j]? =some u->w.cell? ((⟨b,0,none⟩:Addr).add j)=some u:=by
        intro j u hu
        have hj:j<vs.length:=by
          rcases Nat.lt_or_ge j vs.length with h | h
          · exact h
          · simp [List.getElem?_eq_none h] at hu
        have:(⟨b,0,none⟩:Addr).add j=⟨b,0+j,none⟩:=Addr.add_lit ..
        rw [this]
        simp [World.cell?,hb,hu,List.getElem?_append_left hj]
      have hfit:Builtin.nextslicecap (vs.length+m) (vs.length+ex.length)*i.bytes<=281474976710656:=by
        refine growslice_fits (by omega) ?_
        have:(vs.length+m)*i.bytes<=2147483648*4096:=Nat.mul_le_mul (by omega) hby
        omega
      have hr:=run_append_grow (P:=P) w t ty e i z h.und hi hz ⟨b,0,none⟩ vs.length (vs.length+ex.length) vs (by simp [hs]) holds ⟨c,o,none⟩ m cap news (by simp [hs,hm]) hnews (by omega) (by omega) hfit
      obtain ⟨ex',he,hx⟩:=zl_of h.zc (grownCap w (vs.length+m) (vs.length+ex.length) e - (vs.length+m))
      have hge:=grownCap_ge w (vs.length+m) (vs.length+ex.length) e
      rw [he] at hr
      refine ⟨.mk w.heap.size (vs++news) ex',w.drew.alloc (.cells (vs.toArray++news.toArray++ex'.toArray) e),rfl, .inl ?_,?_,ext _⟩
      · simp only [sv]
        rw [Sem.run_bind,hr]
        have e1:(vs++news).length=vs.length+m:=by simp [hm]
        have e2:(vs++news).length+ex'.length=grownCap w (vs.length+m) (vs.length+ex.length) e:=by rw [e1];omega
        rw [e2,e1];rfl
      · have:=fresh (.cells (vs.toArray++news.toArray++ex'.toArray) e)
        have e3:vs.toArray++news.toArray++ex'.toArray=(vs++news++ex').toArray:=by simp
        rw [e3] at this ⊢
        exact this
end Go.Sx
namespace Go.Sx
open Go.RowKit
theorem i64_small {n:Int} (h0:0<=n) (h1:n<=1073741824):IntKind.i64.wrap n=n:=by
  have e:n%18446744073709551616=n:=Int.emod_eq_of_lt h0 (by omega)
  simp [IntKind.wrap,IntKind.bits,IntKind.signed,e]
  omega
def F_appZ (e:TypeId) (z:Value):List Value->List Slot->Ctr:=fun vs hs=>⟨Row,fun y=>sv y,fun y=> [ss e y],fun y=>vals y=rvals (varg vs 0) (sarg hs 0)++List.replicate (ci (varg vs 1)).toNat z⟩
theorem xappZ {P : Program} {t u e : TypeId} {z : Value} (h : SlT P t e z) {ku : IntKind} (hu : P.underlying u = some (.int ku)) (hz1 : z.oneCell' = true) (ty : TypeId) (r : Row) (hl : (vals r).length <= 1048576) (k : IntKind) (n : Int) (h0 : 0 <= n) (h1 : n <= 1048576) (hr0 : r ≠ .nil) :
    OpT P (do pure (.value (←Builtin.append_ #[t,u] ty #[sv r, .int k n]))) [ss e r] Row sv (fun y=> [ss e y]) (fun y=>vals y=vals r++List.replicate n.toNat z):=by
  intro R w ho
  obtain ⟨i,hi,hz,hs,hby⟩:=h.info
  have hw:IntKind.i64.wrap n=n:=i64_small h0 (by omega)
  have hb1: ¬ (281474976710656<n*(i.bytes:Int)):=by
    have:n*(i.bytes:Int)<=1048576*4096:=Int.mul_le_mul h1 (by omega) (by omega) (by decide)
    omega
  have hb2: ¬ (n<0):=by omega
  have upd1: ∀s t,upd (ofList [t]) 0 s=ofList [s]:=by
    intro s t;funext i
    cases i<;>rfl
  cases r with
  | nil=>exact absurd rfl hr0
  | mk b vs ex =>
    simp only [vals] at hl
    have hb:=ho.block (i:=0) rfl
    have hzv:=zeros_of h.zc n.toNat
    by_cases hroom:vs.length+n.toNat<=vs.length+ex.length
    · have hcell: ∀j,j<(List.replicate n.toNat z).length->(w.cell? ⟨b,vs.length+j,none⟩).isSome=true:=by
        intro j hj
        simp at hj
        have:vs.length+j<(vs++ex).length:=by simp;omega
        simp [World.cell?,hb,List.getElem?_eq_getElem this]
      have hst:=run_storeCells_cells (P:=P) b vs.length (List.replicate n.toNat z) 0 w (by simpa using hcell) (fun j hj=>by simpa using frozen_of_row w b _ _ e hb) (fun u hu=>by rw [(List.mem_replicate.1 hu).2];exact hz1)
      simp only [Nat.add_zero] at hst
      obtain ⟨olds,ex',hex,hol⟩: ∃olds ex',ex=olds++ex' /\olds.length=(List.replicate n.toNat z).length:=⟨ex.take n.toNat,ex.drop n.toNat,(List.take_append_drop _ ex).symm,by simp;omega⟩
      subst hex
      have hset:=own_setCells (e:=e) (b:=b) (R:=R) (List.replicate n.toNat z) vs olds ex' _ w 0 ho (by simp [ofList,ss]) hol
      refine ⟨.mk b (vs++List.replicate n.toNat z) ex',w.setCells b vs.length (List.replicate n.toNat z),rfl, .inl ?_,?_,hset.2⟩
      · simp only [sv]
        have e1:(vs++List.replicate n.toNat z).length=vs.length+n.toNat:=by simp
        have e2:(vs++List.replicate n.toNat z).length+ex'.length=vs.length+(olds++ex').length:=by
          simp at hol ⊢;omega
        rw [e2,e1]
        have hroom' :n<=(olds.length:Int)+ex'.length:=by simp at hroom;omega
        rcases Nat.eq_zero_or_pos n.toNat with hn | hn
        · have hn' :n=0:=by omega
          subst hn'
          have he0: ¬ ((olds.length:Int)+ex'.length<0):=by omega
          simp [Builtin.append_,run_underlying h.und,run_underlying hu,sizeOf,typeInfo,hi,hs,asInt,asIntOf,storeCells,World.setCells,show IntKind.i64.wrap 0=0 from rfl,he0]
        · have hn' : ¬n<=0:=by omega
          simp [Builtin.append_,run_underlying h.und,run_underlying hu,sizeOf,typeInfo,zeroValue,hi,hz,hs,asInt,asIntOf,hw,hb1,hb2,hroom',hn',hzv,Addr.add_lit,hst]
      · have:=hset.1
        rw [upd1] at this
        exact this
    · have hn0: ¬n<=0:=by omega
      have hroom' : ¬ (n<=(ex.length:Int)):=by omega
      have h63' : ¬ (9223372036854775807<(vs.length:Int)+max n 0):=by omega
      have holds: ∀j u,vs[j]? =some u->w.drew.cell? ((⟨b,0,none⟩:Addr).add j)=some u:=by
        intro j u hu
        have hj:j<vs.length:=by
          rcases Nat.lt_or_ge j vs.length with h | h
          · exact h
          · simp [List.getElem?_eq_none h] at hu
        have:(⟨b,0,none⟩:Addr).add j=⟨b,0+j,none⟩:=Addr.add_lit ..
        rw [this]
        have:w.cell? ⟨b,0+j,none⟩=some u:=by simp [World.cell?,hb,hu,List.getElem?_append_left hj]
        simpa using this
      have hfit:Builtin.nextslicecap (vs.length+n.toNat) (vs.length+ex.length)*i.bytes<=281474976710656:=by
        refine growslice_fits (by omega) ?_
        have:(vs.length+n.toNat)*i.bytes<=2147483648*4096:=Nat.mul_le_mul (by omega) hby
        omega
      have h48' : ¬ (281474976710656<Builtin.nextslicecap (vs.length+n.toNat) (vs.length+ex.length)*i.bytes):=by omega
      have hfo:=run_firstCells_some (P:=P) w.drew i.size vs.length ⟨b,0,none⟩ vs.length (vs.length+ex.length) vs (by simp [hs]) holds
      have hge:=grownCap_ge w (vs.length+n.toNat) (vs.length+ex.length) e
      obtain ⟨ex',he,hx⟩:=zl_of h.zc (grownCap w (vs.length+n.toNat) (vs.length+ex.length) e - (vs.length+n.toNat))
      have hr:(Builtin.append_ #[t,u] ty #[.slice (some ⟨b,0,none⟩) vs.length (vs.length+ex.length), .int k n]).run P w= .ok (.slice (some ⟨w.heap.size,0,none⟩) (vs.length+n.toNat) (grownCap w (vs.length+n.toNat) (vs.length+ex.length) e))
          (w.drew.alloc (.cells (vs.toArray++(List.replicate n.toNat z).toArray++Builtin.zeroCells z.cells (grownCap w (vs.length+n.toNat) (vs.length+ex.length) e - (vs.length+n.toNat))) e)):=by
        rw [hs] at hfo
        simp [Builtin.append_,run_underlying h.und,run_underlying hu,sizeOf,typeInfo,zeroValue,hi,hz,hs,asInt,asIntOf,hw,hb1,hb2,hroom',hn0,hzv,h63',h48',Question.forced,hfo,newRow,grownCap]
      rw [he] at hr
      refine ⟨.mk w.heap.size (vs++List.replicate n.toNat z) ex',w.drew.alloc (.cells (vs.toArray++(List.replicate n.toNat z).toArray++ex'.toArray) e),rfl, .inl ?_,?_,⟨rfl,rfl,rfl,by simp,by first | exact Nat.le_refl _ | exact Nat.le_succ _ | simp⟩⟩
      · simp only [sv]
        rw [Sem.run_bind,hr]
        have e1:(vs++List.replicate n.toNat z).length=vs.length+n.toNat:=by simp
        have e2:(vs++List.replicate n.toNat z).length+ex'.length=grownCap w (vs.length+n.toNat) (vs.length+ex.length) e:=by rw [e1];omega
        rw [e2,e1];rfl
      · have:=ho.new (w' :=w.drew.alloc (.cells (vs.toArray++(List.replicate n.toNat z).toArray++ex'.toArray) e)) (i:=0) (heap_alloc_new w.drew _) (fun c hc=>heap_alloc_old w.drew _ c hc)
        rw [upd1] at this
        have e3:vs.toArray++(List.replicate n.toNat z).toArray++ex'.toArray=(vs++List.replicate n.toNat z++ex').toArray:=by simp
        rw [e3] at this ⊢
        exact this
def vnil:Value->Bool
  | .slice none _ _=>true
  | _=>false
def f_nil:List Value->Value:=fun vs=> .bool (vnil (varg vs 0))
theorem xnilq {P:Program} {t e:TypeId} {z:Value} (h:SlT P t e z) (r:Row):PureRun P (xBin .eql t (sv r) (.slice none 0 0)) (.bool (vnil (sv r))):=by
  intro w
  have key: ∀ (a:Option Addr) (n c:Nat),(xBin .eql t (.slice a n c) (.slice none 0 0)).run P w= .ok (.value (.bool a.isNone)) w:=by
    intro a n c
    have h1:=Go.Lib.run_eql_slice_nil (P:=P) w t e a n c 0 0 h.und
    have h3:(eqGuard .eql t (.const (.slice a n c)) (.const (.slice none 0 0)) (.slice a n c) (.slice none 0 0)).run P w= .ok () w:=by
      unfold eqGuard;rfl
    rw [xBin,Sem.run_bind,Sem.run_bind,h3]
    simp only [Result.andThen]
    rw [h1];rfl
  cases r with
  | nil=>exact key none 0 0
  | mk b vs ex=>exact key _ _ _
theorem vnil_row {r:Row} (h:vnil (sv r)=true):r= .nil:=by
  cases r with
  | nil=>rfl
  | mk b vs ex=>cases h
theorem xpart {P:Program} {t e:TypeId} {z:Value} (h:SlT P t e z) (b off len cap:Nat) (k k' :IntKind) (lo hi:Int) (l m:Nat) (hl:lo=(l:Int)) (hh:hi=((l+m:Nat):Int)) (h1:l+m<=cap) (h2:0<m):
    PureRun P (do pure (.value (←Instr.sliceAt t (.slice (some ⟨b,off,none⟩) len cap) (some (.int k lo)) (some (.int k' hi)) none))) (.slice (some ⟨b,off+l,none⟩) m (cap - l)):=by
  intro w
  have hu:P.underlying t=some (.slice (P.elem t)):=by rw [h.elem];exact h.und
  have hs:=h.size w
  rw [←h.elem] at hs
  subst hl;subst hh
  rw [Sem.run_bind,run_sliceAt_slice w t _ _ _ _ hu,run_slice_lh w t _ _ _ hu k k' _ _ (by omega) (by omega) (by omega),hs]
  have e1:((l:Nat):Int).toNat=l:=by omega
  have e2:(((l+m:Nat):Int)).toNat=l+m:=by omega
  have e3:cap≠l:=by omega
  have e4:(⟨b,off,none⟩:Addr).add l=⟨b,off+l,none⟩:=Addr.add_lit ..
  have e5:((l:Int)+(m:Int)).toNat - l=m:=by omega
  simp [Result.andThen,sliced,e1,e2,e3,e4,e5]
theorem xpart_h {P:Program} {t e:TypeId} {z:Value} (h:SlT P t e z) (a:Addr) (len cap:Nat) (k:IntKind) (hi:Int) (m:Nat) (hh:hi=(m:Int)) (h1:m<=cap):
    PureRun P (do pure (.value (←Instr.sliceAt t (.slice (some a) len cap) none (some (.int k hi)) none))) (.slice (some a) m cap):=by
  intro w
  have hu:P.underlying t=some (.slice (P.elem t)):=by rw [h.elem];exact h.und
  have hs:=h.size w
  rw [←h.elem] at hs
  subst hh
  rw [Sem.run_bind,run_sliceAt_slice w t _ _ _ _ hu,run_slice_h w t _ _ _ hu k _ (by omega) (by omega),hs]
  have e1:((m:Nat):Int).toNat=m:=by omega
  have e4:a.add 0=a:=by simp [Addr.add]
  by_cases e3:cap=0
  · have:m=0:=by omega
    subst this;simp [Result.andThen,sliced,e3]
  · simp [Result.andThen,sliced,e1,e3,e4]
theorem xpart_l {P:Program} {t e:TypeId} {z:Value} (h:SlT P t e z) (b off len cap:Nat) (k:IntKind) (lo:Int) (l:Nat) (hl:lo=(l:Int)) (h1:l<=len):
    PureRun P (do pure (.value (←Instr.sliceAt t (.slice (some ⟨b,off,none⟩) len cap) (some (.int k lo)) none none))) (.slice (some ⟨b,if cap=l then off else off+l,none⟩) (len - l) (cap - l)):=by
  intro w
  have hu:P.underlying t=some (.slice (P.elem t)):=by rw [h.elem];exact h.und
  have hs:=h.size w
  rw [←h.elem] at hs
  subst hl
  rw [Sem.run_bind,run_sliceAt_slice w t _ _ _ _ hu,run_slice_l w t _ _ _ hu k _ (by omega) (by omega),hs]
  have e1:((l:Nat):Int).toNat=l:=by omega
  have e4:(⟨b,off,none⟩:Addr).add l=⟨b,off+l,none⟩:=Addr.add_lit ..
  by_cases e3:cap=l
  · simp [Result.andThen,sliced,e1,e3]
  · simp [Result.andThen,sliced,e1,e3,e4]
theorem xpidx {P:Program} {t e:TypeId} {z:Value} (h:SlT P t e z) (b off len cap:Nat) (k:IntKind) (i:Int) (n:Nat) (hi:i=(n:Int)) (h1:n<len):
    PureRun P (do pure (.value (←Instr.indexAt t (.slice (some ⟨b,off,none⟩) len cap) (.int k i)))) (.pointer (some ⟨b,off+n,none⟩)):=by
  intro w
  subst hi
  have hc:0<=(n:Int)/\(n:Int)<(len:Int):=⟨by omega,by omega⟩
  have e4:(⟨b,off,none⟩:Addr).add n=⟨b,off+n,none⟩:=Addr.add_lit ..
  simp [Instr.indexAt,run_underlying h.und,asIntOf,hc,h.size w,e4,Nat.not_le.2 h1]
def Tab (w:World) (g:Nat) (k:IntKind) (ns:List Int):Prop:= ∀i,i<ns.length->w.cell? ⟨g,i,none⟩=some (.int k (ns.getD i 0))
theorem xtab {P:Program} {te:TypeId} (ha: ∀w,(isAgg te).run P w= .ok false w) {w0:World} {g:Nat} {k:IntKind} {ns:List Int} (h:Tab w0 g k ns) (i:Nat) (hi:i<ns.length):
    OpT P (do pure (.value (←Instr.loadAt te (.pointer (some ⟨g,i,none⟩))))) [old w0] Unit (fun _=> .int k (ns.getD i 0)) (fun _=> [old w0]) (fun _=>True):=by
  intro R w ho
  have hc:=own_cell ho (h i hi)
  refine ⟨(),w,trivial, .inl ?_,ho,Ext.refl w⟩
  simp [Instr.loadAt,Instr.sureAddr,loadVar,Sem.run_bind,ha,hc]
theorem xtabA {P:Program} {te:TypeId} {n:Nat} (ha: ∀w,(isAgg te).run P w= .ok true w) (hs: ∀w,(sizeOf te).run P w= .ok n w) {w0:World} {g:Nat} {k:IntKind} {ns:List Int} (h:Tab w0 g k ns) (hn:ns.length=n):
    OpT P (do pure (.value (←Instr.loadAt te (.pointer (some ⟨g,0,none⟩))))) [old w0] Unit (fun _=> .agg (arrV k ns)) (fun _=> [old w0]) (fun _=>True):=by
  intro R w ho
  have hr:=run_loadCells_list (P:=P) w ⟨g,0,none⟩ (ns.map (Value.int k)) (by
    intro j c hj
    have hj' :j<ns.length:=by
      rcases Nat.lt_or_ge j ns.length with q | q
      · exact q
      · rw [List.getElem?_eq_none (by simpa using q)] at hj;cases hj
    have:=own_cell ho (h j hj')
    have e:(⟨g,0,none⟩:Addr).add j=⟨g,j,none⟩:=by rw [Addr.add_lit,Nat.zero_add]
    rw [e,this]
    rw [List.getElem?_map,List.getElem?_eq_getElem hj'] at hj
    simp at hj
    rw [←hj]
    simp [hj'])
  refine ⟨(),w,trivial, .inl ?_,ho,Ext.refl w⟩
  rw [List.length_map,hn] at hr
  simp [Instr.loadAt,Instr.sureAddr,loadVar,Sem.run_bind,ha,hs,hr,arrV]
theorem xaval {P:Program} {t e:TypeId} {n:Nat} (hu:P.underlying t=some (.array n e)) (hs: ∀w,(sizeOf e).run P w= .ok 1 w) (ha: ∀w,(isAgg e).run P w= .ok false w) {k:IntKind} {ns:List Int} (hn:ns.length=n) (ki:IntKind) (i:Int) (j:Nat) (hi:i=(j:Int)) (hj:j<n):
    PureRun P (do pure (.value (←Instr.index t (.agg (arrV k ns)) (.int ki i)))) (.int k (ns.getD j 0)):=by
  intro w
  subst hi
  have hc:0<=(j:Int)/\(j:Int)<(n:Int):=⟨by omega,by omega⟩
  have hg:(arrV k ns)[j]? =some (.int k (ns.getD j 0)):=by
    simp [arrV,show j<ns.length by omega]
  simp [Instr.index,run_underlying hu,asIntOf,hc,hs w,part,ha w,hg,Nat.not_le.2 hj]
end Go.Sx
namespace Go.Sx
def xor32 (a b:Int):Int:=IntKind.u32.wrap (((BitVec.ofInt 32 a^^^BitVec.ofInt 32 b:BitVec 32).toNat:Nat):Int)
def and32 (a b:Int):Int:=IntKind.u32.wrap (((BitVec.ofInt 32 a &&& BitVec.ofInt 32 b:BitVec 32).toNat:Nat):Int)
def or32 (a b:Int):Int:=IntKind.u32.wrap (((BitVec.ofInt 32 a ||| BitVec.ofInt 32 b:BitVec 32).toNat:Nat):Int)
def not32 (a:Int):Int:=IntKind.u32.wrap (((BitVec.ofInt 32 4294967295^^^BitVec.ofInt 32 a:BitVec 32).toNat:Nat):Int)
def add32 (a b:Int):Int:=IntKind.u32.wrap (a+b)
def shr32 (n:Nat) (a:Int):Int:=Int.fdiv a (2^n)
def rotl (s:Nat) (x:Int):Int:=or32 (IntKind.u32.wrap (x*2^s)) (Int.fdiv x (2^(32 - s)))
def rotr (n:Nat) (x:Int):Int:=rotl (32 - n) x
def tur (a b c:Nat) (x:Int):Int:=xor32 (xor32 (rotr a x) (rotr b x)) (rotr c x)
def sg0 (x:Int):Int:=xor32 (xor32 (rotr 7 x) (rotr 18 x)) (shr32 3 x)
def sg1 (x:Int):Int:=xor32 (xor32 (rotr 17 x) (rotr 19 x)) (shr32 10 x)
def cat4 (q:Nat->Int) (i:Nat):Nat->Int
  | 0=>0
  | k+1=>or32 (IntKind.u32.wrap (cat4 q i k*2^8)) (IntKind.u32.wrap (q (4*i+k)))
def nx0 (l:List Int) (i:Nat):Int:=add32 (l.getD (i - 16) 0) (l.getD (i - 7) 0)
def nx (l:List Int) (i:Nat):Int:=add32 (add32 (nx0 l i) (sg0 (l.getD (i - 15) 0))) (sg1 (l.getD (i - 2) 0))
def wl (q:Nat->Int):Nat->List Int
  | 0=> []
  | i+1=>wl q i++ [if i<16 then cat4 q i 4 else nx (wl q i) i]
theorem wl_length (q:Nat->Int): ∀i,(wl q i).length=i
  | 0=>rfl
  | i+1=>by simp [wl,wl_length q i]
def wz (q:Nat->Int) (i:Nat):List Int:=wl q i++List.replicate (64 - i) 0
theorem wz_length {q:Nat->Int} {i:Nat} (h:i<=64):(wz q i).length=64:=by simp [wz,wl_length];omega
theorem wz_get {q:Nat->Int} {i j:Nat} (h:j<i):(wz q i).getD j 0=(wl q i).getD j 0:=by
  simp [wz,List.getElem?_append_left (show j<(wl q i).length by rw [wl_length];exact h)]
theorem wz_at {q:Nat->Int} {i:Nat} (h:i<64):(wz q i).getD i 0=0:=by
  simp [wz,List.getElem?_append_right (show (wl q i).length<=i by rw [wl_length];exact Nat.le_refl _),wl_length,List.getElem?_replicate,show 0<64 - i by omega]
theorem wz_set {q:Nat->Int} {i:Nat} (h:i<64) (v:Int):(wz q i).set i v=wl q i++v::List.replicate (63 - i) 0:=by
  have e:64 - i=(63 - i)+1:=by omega
  rw [wz,e,List.replicate_succ,List.set_append_right i v (by rw [wl_length];exact Nat.le_refl _),wl_length]
  simp
theorem wz_step {q:Nat->Int} {i:Nat} (h:i<64) {v:Int} (hv:v=if i<16 then cat4 q i 4 else nx (wl q i) i):(wz q i).set i v=wz q (i+1):=by
  have e:63 - i=64 - (i+1):=by omega
  rw [wz_set h,wz,wl,←hv,e,List.append_assoc]
  rfl
theorem wz_64 (q:Nat->Int):wz q 64=wl q 64:=by simp [wz]
structure S8 where
  (a b c d e f g h:Int)
def S8.ch (s:S8):Int:=xor32 (and32 s.e s.f) (and32 (not32 s.e) s.g)
def S8.mj (s:S8):Int:=xor32 (xor32 (and32 s.a s.b) (and32 s.a s.c)) (and32 s.b s.c)
def S8.t1 (s:S8) (k w:Int):Int:=add32 (add32 (add32 (add32 s.h (tur 6 11 25 s.e)) s.ch) k) w
def S8.t2 (s:S8):Int:=add32 (tur 2 13 22 s.a) s.mj
def S8.rnd (s:S8) (k w:Int):S8:=⟨add32 (s.t1 k w) s.t2,s.a,s.b,s.c,add32 s.d (s.t1 k w),s.e,s.f,s.g⟩
def rnds (K W:List Int) (s:S8):Nat->S8
  | 0=>s
  | i+1=>(rnds K W s i).rnd (K.getD i 0) (W.getD i 0)
def take8 (K:List Int) (q:Nat->Int) (s:S8):S8:=
  let r:=rnds K (wl q 64) s 64
  ⟨add32 s.a r.a,add32 s.b r.b,add32 s.c r.c,add32 s.d r.d,add32 s.e r.e,add32 s.f r.f,add32 s.g r.g,add32 s.h r.h⟩
def ag64 (l:List Int):Value:= .agg #[.int .u32 (l.getD 0 0), .int .u32 (l.getD 1 0), .int .u32 (l.getD 2 0), .int .u32 (l.getD 3 0), .int .u32 (l.getD 4 0), .int .u32 (l.getD 5 0), .int .u32 (l.getD 6 0), .int .u32 (l.getD 7 0), .int .u32 (l.getD 8 0), .int .u32 (l.getD 9 0), .int .u32 (l.getD 10 0), .int .u32 (l.getD 11 0), .int .u32 (l.getD 12 0), .int .u32 (l.getD 13 0), .int .u32 (l.getD 14 0), .int .u32 (l.getD 15 0), .int .u32 (l.getD 16 0), .int .u32 (l.getD 17 0), .int .u32 (l.getD 18 0), .int .u32 (l.getD 19 0), .int .u32 (l.getD 20 0), .int .u32 (l.getD 21 0), .int .u32 (l.getD 22 0), .int .u32 (l.getD 23 0), .int .u32 (l.getD 24 0), .int .u32 (l.getD 25 0), .int .u32 (l.getD 26 0), .int .u32 (l.getD 27 0), .int .u32 (l.getD 28 0), .int .u32 (l.getD 29 0), .int .u32 (l.getD 30 0), .int .u32 (l.getD 31 0), .int .u32 (l.getD 32 0), .int .u32 (l.getD 33 0), .int .u32 (l.getD 34 0), .int .u32 (l.getD 35 0), .int .u32 (l.getD 36 0), .int .u32 (l.getD 37 0), .int .u32 (l.getD 38 0), .int .u32 (l.getD 39 0), .int .u32 (l.getD 40 0), .int .u32 (l.getD 41 0), .int .u32 (l.getD 42 0), .int .u32 (l.getD 43 0), .int .u32 (l.getD 44 0), .int .u32 (l.getD 45 0), .int .u32 (l.getD 46 0), .int .u32 (l.getD 47 0), .int .u32 (l.getD 48 0), .int .u32 (l.getD 49 0), .int .u32 (l.getD 50 0), .int .u32 (l.getD 51 0), .int .u32 (l.getD 52 0), .int .u32 (l.getD 53 0), .int .u32 (l.getD 54 0), .int .u32 (l.getD 55 0), .int .u32 (l.getD 56 0), .int .u32 (l.getD 57 0), .int .u32 (l.getD 58 0), .int .u32 (l.getD 59 0), .int .u32 (l.getD 60 0), .int .u32 (l.getD 61 0), .int .u32 (l.getD 62 0), .int .u32 (l.getD 63 0)]
theorem eta64 {l:List Int} (h:l.length=64): [l.getD 0 0,l.getD 1 0,l.getD 2 0,l.getD 3 0,l.getD 4 0,l.getD 5 0,l.getD 6 0,l.getD 7 0,l.getD 8 0,l.getD 9 0,l.getD 10 0,l.getD 11 0,l.getD 12 0,l.getD 13 0,l.getD 14 0,l.getD 15 0,l.getD 16 0,l.getD 17 0,l.getD 18 0,l.getD 19 0,l.getD 20 0,l.getD 21 0,l.getD 22 0,l.getD 23 0,l.getD 24 0,l.getD 25 0,l.getD 26 0,l.getD 27 0,l.getD 28 0,l.getD 29 0,l.getD 30 0,l.getD 31 0,l.getD 32 0,l.getD 33 0,l.getD 34 0,l.getD 35 0,l.getD 36 0,l.getD 37 0,l.getD 38 0,l.getD 39 0,l.getD 40 0,l.getD 41 0,l.getD 42 0,l.getD 43 0,l.getD 44 0,l.getD 45 0,l.getD 46 0,l.getD 47 0,l.getD 48 0,l.getD 49 0,l.getD 50 0,l.getD 51 0,l.getD 52 0,l.getD 53 0,l.getD 54 0,l.getD 55 0,l.getD 56 0,l.getD 57 0,l.getD 58 0,l.getD 59 0,l.getD 60 0,l.getD 61 0,l.getD 62 0,l.getD 63 0]=l:=by
  have e:(List.range 64).map (fun i=>l.getD i 0)=l:=by
    apply List.ext_getElem
    · simp [h]
    · intro i h1 h2
      simp [h2]
  exact e
theorem ag64_eq {l:List Int} (h:l.length=64):ag64 l= .agg (arrV .u32 l):=by
  conv=>rhs;rw [←eta64 h]
  rfl
def qf (cs:Array Value) (off:Nat):Nat->Int:=fun k=>ci (cs.getD (off+k) undef)
def SrcOK (cs:Array Value) (off:Nat):Prop:= ∀k,k<64->cs[off+k]? =some (.int .u8 (qf cs off k))
theorem set_get0 {l:List Int} {i:Nat} (h:i<l.length):l.set i (l.getD i 0)=l:=by
  apply List.ext_getElem
  · simp
  · intro j h1 h2
    rw [List.getElem_set]
    split
    · subst_vars;simp [h]
    · rfl
theorem words_0 {q:Nat->Int} {x:Nat} (h:x<64):wz q x=(wz q x).set x (cat4 q x 0):=by
  have:=set_get0 (l:=wz q x) (i:=x) (by rw [wz_length (by omega)];exact h)
  rw [wz_at h] at this
  exact this.symm
theorem words_in {cs:Array Value} {off x k:Nat} (hx:x<64):
    (arrV .u32 ((wz (qf cs off) x).set x (cat4 (qf cs off) x k))).setIfInBounds (Int.toNat ((x:Nat):Int)) (.int .u32 (IntKind.u32.wrap ((BitVec.ofInt 32 (IntKind.u32.wrap (ci ((arrV .u32 ((wz (qf cs off) x).set x (cat4 (qf cs off) x k))).getD (Int.toNat ((x:Nat):Int)) undef)*2^8)) ||| BitVec.ofInt 32 (IntKind.u32.wrap (ci (cs.getD (off+Int.toNat (4*((x:Nat):Int))+Int.toNat ((k:Nat):Int)) undef))):BitVec 32).toNat:Int)))=
      arrV .u32 ((wz (qf cs off) x).set x (cat4 (qf cs off) x (k+1))):=by
  have e1:Int.toNat ((x:Nat):Int)=x:=by omega
  have e2:off+Int.toNat (4*((x:Nat):Int))+Int.toNat ((k:Nat):Int)=off+(4*x+k):=by omega
  rw [e1,e2,arrV_ci (by rw [List.length_set,wz_length (by omega)];exact hx),arrV_set,List.set_set]
  have e3:((wz (qf cs off) x).set x (cat4 (qf cs off) x k)).getD x 0=cat4 (qf cs off) x k:=by
    have:x<(wz (qf cs off) x).length:=by rw [wz_length (by omega)];exact hx
    simp [this]
  rw [e3];rfl
theorem words_lo {q:Nat->Int} {x:Nat} (hx:x<16):(wz q x).set x (cat4 q x 4)=wz q (x+1):=wz_step (by omega) (by rw [if_pos hx])
theorem words_lo4 {q:Nat->Int} {x k:Nat} (hx:x<16) (hk:k=4):(wz q x).set x (cat4 q x k)=wz q (x+1):=by rw [hk,words_lo hx]
theorem words_hi {q:Nat->Int} {x:Nat} (h1:x<64) (h0: ¬x<16) {A:List Int} (hA:A=wz q x) {i16 i7 i15 i2 i:Nat} (e16:i16=x - 16) (e7:i7=x - 7) (e15:i15=x - 15) (e2:i2=x - 2) (ei:i=x) {v1 v2 v3:Int}
    (h2:v1=IntKind.u32.wrap (ci ((arrV .u32 A).getD i16 undef)+ci ((arrV .u32 A).getD i7 undef)))
    (h3:v2=IntKind.u32.wrap (ci (((arrV .u32 A).setIfInBounds i (.int .u32 v1)).getD i undef)+sg0 (ci ((arrV .u32 A).getD i15 undef))))
    (h4:v3=IntKind.u32.wrap (ci ((((arrV .u32 A).setIfInBounds i (.int .u32 v1)).setIfInBounds i (.int .u32 v2)).getD i undef)+sg1 (ci ((arrV .u32 A).getD i2 undef)))):
    (((arrV .u32 A).setIfInBounds i (.int .u32 v1)).setIfInBounds i (.int .u32 v2)).setIfInBounds i (.int .u32 v3)=arrV .u32 (wz q (x+1)):=by
  subst hA e16 e7 e15 e2 ei
  have hl:(wz q i).length=64:=wz_length (by omega)
  have g: ∀j,j<i->ci ((arrV .u32 (wz q i)).getD j undef)=(wl q i).getD j 0:=fun j hj=>by rw [arrV_ci (by omega),wz_get hj]
  have s1: ∀v:Int,ci ((arrV .u32 ((wz q i).set i v)).getD i undef)=v:=fun v=>by
    rw [arrV_ci (by rw [List.length_set];omega)]
    simp [show i<(wz q i).length by omega]
  rw [g _ (by omega),g _ (by omega)] at h2
  rw [g _ (by omega),arrV_set,s1] at h3
  rw [g _ (by omega),arrV_set,arrV_set,List.set_set,s1] at h4
  rw [arrV_set,arrV_set,arrV_set,List.set_set,List.set_set]
  rw [wz_step h1 (v:=v3)]
  rw [if_neg h0,h4,h3,h2];rfl
theorem wz_last {q:Nat->Int} {x:Nat} (h:x+1=64):arrV .u32 (wz q (x+1))=arrV .u32 (wl q 64):=by rw [h,wz_64]
theorem arrS_get {k:IntKind} {cs:Array Value} {l:List Int} {i:Nat} (h:cs=arrV k l) (hi:i<l.length):cs[i]? =some (.int k (ci (cs.getD i undef))):=by subst h;exact arrV_get hi
theorem words_arr {cs:Array Value} {l:List Int} (h:cs=arrV .u32 l) (hl:l.length=64):Value.agg cs=ag64 l:=by rw [h,ag64_eq hl]
theorem xloadA {P:Program} {te:TypeId} {n:Nat} (ha: ∀w,(isAgg te).run P w= .ok true w) (hs: ∀w,(sizeOf te).run P w= .ok n w) {b:Nat} {cs:Array Value} {ty:TypeId} (hn:cs.size=n) {v:Value} (hv:Value.agg cs=v):
    OpT P (do pure (.value (←Instr.loadAt te (.pointer (some ⟨b,0,none⟩))))) [.blk b (.cells cs ty (0,0))] Unit (fun _=>v) (fun _=> [.blk b (.cells cs ty (0,0))]) (fun _=>True):=by
  intro R w ho
  have hb:=ho.block (i:=0) rfl
  have hr:=run_loadCells_list (P:=P) w ⟨b,0,none⟩ cs.toList (by
    intro j c hj
    have e:(⟨b,0,none⟩:Addr).add j=⟨b,j,none⟩:=by rw [Addr.add_lit,Nat.zero_add]
    rw [e,cell_of_block hb rfl]
    simpa using hj)
  subst hv
  refine ⟨(),w,trivial, .inl ?_,ho,Ext.refl w⟩
  have hl:cs.toList.length=n:=by simpa using hn
  rw [hl] at hr
  simp [Instr.loadAt,Instr.sureAddr,loadVar,Sem.run_bind,ha,hs,hr]
end Go.Sx
namespace Go.Sx
theorem src_any {cs:Array Value} {off o:Nat} (h:SrcOK cs off) (h1:off<=o) (h2:o<off+64):cs[o]? =some (.int .u8 (ci (cs.getD o undef))):=by
  have:=h (o - off) (by omega)
  unfold qf at this
  rwa [show off+(o - off)=o by omega] at this
def f_part (m:Nat):List Value->Value:=fun vs=> .slice (some ⟨vblk (varg vs 0),voff (varg vs 0)+(ci (varg vs 1)).toNat,none⟩) m (vcap (varg vs 0) - (ci (varg vs 1)).toNat)
def f_pidx:List Value->Value:=fun vs=> .pointer (some ⟨vblk (varg vs 0),voff (varg vs 0)+(ci (varg vs 1)).toNat,none⟩)
end Go.Sx
namespace Go.Sx
def shaK:List Int:= [1116352408,1899447441,3049323471,3921009573,961987163,1508970993,2453635748,2870763221,3624381080,310598401,607225278,1426881987,1925078388,2162078206,2614888103,3248222580,3835390401,4022224774,264347078,604807628,770255983,1249150122,1555081692,1996064986,2554220882,2821834349,2952996808,3210313671,3336571891,3584528711,113926993,338241895,666307205,773529912,1294757372,1396182291,1695183700,1986661051,2177026350,2456956037,2730485921,2820302411,3259730800,3345764771,3516065817,3600352804,4094571909,275423344,430227734,506948616,659060556,883997877,958139571,1322822218,1537002063,1747873779,1955562222,2024104815,2227730452,2361852424,2428436474,2756734187,3204031479,3329325298]
def shaH:List Int:= [1779033703,3144134277,1013904242,2773480762,1359893119,2600822924,528734635,1541459225]
theorem shaK_length:shaK.length=64:=rfl
theorem xa64 {P:Program} {t e:TypeId} (hu:P.underlying t=some (.array 64 e)) (hs: ∀w,(sizeOf e).run P w= .ok 1 w) (ha: ∀w,(isAgg e).run P w= .ok false w) {l:List Int} (hl:l.length=64) (ki:IntKind) (i:Int) (h0:0<=i) (h1:i<64):
    PureRun P (do pure (.value (←Instr.index t (ag64 l) (.int ki i)))) (.int .u32 (l.getD i.toNat 0)):=by
  rw [ag64_eq hl]
  exact xaval hu hs ha hl ki i i.toNat (by omega) (by omega)
end Go.Sx
namespace Go.Sx
open Go.RowKit
def bv (l:List Int):List Value:=l.map (Value.int .u8)
structure BOK (r:Row):Prop where
  eq:vals r=bv (dg r)
theorem vals_len (r:Row):(vals r).length=(dg r).length:=by simp [dg]
theorem bv_ci (l:List Int):(bv l).map ci=l:=by
  induction l with
  | nil=>rfl
  | cons a l ih =>
    simp only [bv,List.map_cons] at ih ⊢
    rw [ih];rfl
theorem bok_of {r:Row} {l:List Int} (h:vals r=bv l):BOK r/\dg r=l:=by
  have e:dg r=l:=by rw [dg,h,bv_ci]
  exact ⟨⟨by rw [e,h]⟩,e⟩
theorem rdv_nil:rdv (sv Row.nil) .free=dg Row.nil:=rfl
theorem bok_nil:BOK Row.nil:=⟨rfl⟩
theorem bok_mk0 (b:Nat) (ex:List Value):BOK (Row.mk b [] ex):=⟨rfl⟩
theorem bok_lit (b:Nat) (l:List Int) (ex:List Value):BOK (Row.mk b (bv l) ex):=⟨by show bv l=bv ((bv l).map ci);rw [bv_ci]⟩
theorem bok_app {r y:Row} {l:List Int} (hr:BOK r) (h:vals y=vals r++bv l):BOK y/\(dg y).length=(dg r).length+l.length/\dg y=dg r++l:=by
  have e:vals y=bv (dg r++l):=by rw [h,hr.eq,bv,bv,bv,List.map_append]
  obtain ⟨h1,h2⟩:=bok_of e
  exact ⟨h1,by rw [h2,List.length_append],h2⟩
theorem srcv_row (r:Row) (e:TypeId):srcv (sv r) (ss e r)=vals r:=by
  cases r with
  | nil=>rfl
  | mk b vs ex=>simp [srcv,sv,ss,vals,vlen,voff,scells]
theorem oneAll {l:List Value} (h:l.all (·.oneCell')=true): ∀u∈l,u.oneCell' =true:=List.all_eq_true.1 h
theorem bv_one (l:List Int): ∀u∈bv l,u.oneCell' =true:=by
  intro u hu
  obtain ⟨n,_,rfl⟩:=List.mem_map.1 hu
  rfl
theorem xappNR {P:Program} {fz:Nat×Nat} {t e:TypeId} {z:Value} (h:SlT P t e z) (ty:TypeId) (r:Row) (hl:(vals r).length<=1073741824) {c o m cap:Nat} {cs:Array Value} {te:TypeId} (hm:o+m<=cs.size) (hm1:m<=1073741824)
    (h2:(srcv (.slice (some ⟨c,o,none⟩) m cap) (.blk c (.cells cs te fz))).all (·.oneCell')=true):
    OpT P (do pure (.value (←Builtin.append_ #[t,t] ty #[sv r, .slice (some ⟨c,o,none⟩) m cap]))) [ss e r, .blk c (.cells cs te fz)] Row sv (fun y=> [ss e y, .blk c (.cells cs te fz)])
      (fun y=>vals y=rvals (sv r) (ss e r)++srcv (.slice (some ⟨c,o,none⟩) m cap) (.blk c (.cells cs te fz))):=by
  rw [rvals_eq]
  refine xappN h ty r hl ?_ hm1 ?_ (oneAll h2)
  · simp [srcv,vlen,voff,scells];omega
  · intro j u hu
    simp only [srcv,vlen,voff,scells] at hu
    rw [List.getElem?_take] at hu
    split at hu
    · rw [List.getElem?_drop] at hu;simpa using hu
    · cases hu
theorem xappRow {P:Program} {t e:TypeId} {z:Value} (h:SlT P t e z) (ty:TypeId) (r:Row) (hl:(vals r).length<=1073741824) (q:Row) (hq:(vals q).length<=1073741824) (h2: ∀u∈vals q,u.oneCell' =true):
    OpT P (do pure (.value (←Builtin.append_ #[t,t] ty #[sv r,sv q]))) [ss e r,ss e q] Row sv (fun y=> [ss e y,ss e q])
      (fun y=>vals y=rvals (sv r) (ss e r)++srcv (sv q) (ss e q)):=by
  rw [rvals_eq,srcv_row]
  cases q with
  | nil =>
    intro R w ho
    obtain ⟨i,hi,hz,hs,hby⟩:=h.info
    refine ⟨r,w,by simp [vals], .inl ?_,ho,Ext.refl w⟩
    cases r with
    | nil=>simp [sv,Builtin.append_,run_underlying h.und,sizeOf,typeInfo,hi,Builtin.lenOf,Builtin.firstCells]
    | mk b vs ex=>simp [sv,Builtin.append_,run_underlying h.und,sizeOf,typeInfo,hi,Builtin.lenOf,Builtin.firstCells,storeCells]
  | mk b vs ex =>
    simp only [vals] at hq h2 ⊢
    refine xappN h ty r hl (news:=vs) rfl hq ?_ h2
    intro j u hu
    have hj:j<vs.length:=by
      rcases Nat.lt_or_ge j vs.length with h | h
      · exact h
      · simp [List.getElem?_eq_none h] at hu
    simp [List.getElem?_append_left hj,hu]
theorem xappZR {P:Program} {t u e:TypeId} {z:Value} (h:SlT P t e z) {ku:IntKind} (hu:P.underlying u=some (.int ku)) (hz1:z.oneCell' =true) (ty:TypeId) (r:Row) (hl:(vals r).length<=1048576) (k:IntKind) (n:Int) (h0:0<=n) (h1:n<=1048576) (hr0:r≠ .nil):
    OpT P (do pure (.value (←Builtin.append_ #[t,u] ty #[sv r, .int k n]))) [ss e r] Row sv (fun y=> [ss e y]) (fun y=>vals y=rvals (sv r) (ss e r)++List.replicate n.toNat z):=by
  rw [rvals_eq]
  exact xappZ h hu hz1 ty r hl k n h0 h1 hr0
theorem wit_appN (l:List Value): ∃y:Row,(fun zx=>vals zx=l) y:=⟨.mk 0 l [],rfl⟩
def hV (f:Nat->Int):Value:= .agg #[.int .u8 (f 0), .int .u8 (f 1), .int .u8 (f 2), .int .u8 (f 3), .int .u8 (f 4), .int .u8 (f 5), .int .u8 (f 6), .int .u8 (f 7), .int .u8 (f 8), .int .u8 (f 9), .int .u8 (f 10), .int .u8 (f 11), .int .u8 (f 12), .int .u8 (f 13), .int .u8 (f 14), .int .u8 (f 15), .int .u8 (f 16), .int .u8 (f 17), .int .u8 (f 18), .int .u8 (f 19), .int .u8 (f 20), .int .u8 (f 21), .int .u8 (f 22), .int .u8 (f 23), .int .u8 (f 24), .int .u8 (f 25), .int .u8 (f 26), .int .u8 (f 27), .int .u8 (f 28), .int .u8 (f 29), .int .u8 (f 30), .int .u8 (f 31)]
def ib4 (m0 m1 m2 m3:Int) (i:Nat):Int:=IntKind.u8.wrap (Int.fdiv (match (31 - i)/8 with | 0=>m0 | 1=>m1 | 2=>m2 | _=>m3) (2^(8*((31 - i)%8))))
def nb1 (x:Int):List Int:= [IntKind.u8.wrap (Int.fdiv x (2^0))]
def nb4 (x:Int):List Int:= [IntKind.u8.wrap (Int.fdiv x (2^24)),IntKind.u8.wrap (Int.fdiv x (2^16)),IntKind.u8.wrap (Int.fdiv x (2^8)),IntKind.u8.wrap (Int.fdiv x (2^0))]
def l32 (f:Nat->Int):List Int:= [f 0,f 1,f 2,f 3,f 4,f 5,f 6,f 7,f 8,f 9,f 10,f 11,f 12,f 13,f 14,f 15,f 16,f 17,f 18,f 19,f 20,f 21,f 22,f 23,f 24,f 25,f 26,f 27,f 28,f 29,f 30,f 31]
theorem wit_bok {r L:List Int} {n:Nat} (h:L.length=n): ∃x:Row,(fun zx=>BOK zx/\(dg zx).length=r.length+n/\dg zx=r++L) x:=
  ⟨.mk 0 (bv (r++L)) [],bok_lit _ _ _,by show ((bv (r++L)).map ci).length=_;rw [bv_ci,List.length_append,h],by show (bv (r++L)).map ci=_;rw [bv_ci]⟩
theorem wit_bok0 {r:List Int}: ∃x:Row,(fun zx=>BOK zx/\(dg zx).length=r.length/\dg zx=r) x:=
  ⟨.mk 0 (bv r) [],bok_lit _ _ _,by show ((bv r).map ci).length=_;rw [bv_ci],by show (bv r).map ci=_;rw [bv_ci]⟩
theorem wit_bok1 {r:List Int} {n:Nat} (h:r.length=n): ∃x:Row,(fun zx=>BOK zx/\(dg zx).length=n/\dg zx=r) x:=
  ⟨.mk 0 (bv r) [],bok_lit _ _ _,by show ((bv r).map ci).length=_;rw [bv_ci,h],by show (bv r).map ci=_;rw [bv_ci]⟩
theorem l32_length (f:Nat->Int):(l32 f).length=32:=rfl
end Go.Sx
namespace Go.Sx
def F_bs1 (e:TypeId):List Value->List Slot->Ctr:=fun vs _=>⟨Nat,fun b=> .slice (some ⟨b,0,none⟩) 1 1,fun b=> [.blk b (.cells #[varg vs 0] e (0,0))],fun _=>True⟩
theorem xbs1 {P:Program} {t e:TypeId} {z:Value} (ht:P.underlying t=some (.slice e)) (h3:(P.info? e).bind (·.zero)=some z) (h4:(P.info? e).map (·.size)=some 1) (hzc:z.cells= #[z]) (v:Value) (hv:v.cells= #[v]):
    OpT P (do pure (.value (←Instr.buildSlice t 1 #[(0,v)]))) [] Nat (fun b=> .slice (some ⟨b,0,none⟩) 1 1) (fun b=> [.blk b (.cells #[v] e (0,0))]) (fun _=>True):=by
  intro R w ho
  obtain ⟨i,hi,hz,hs⟩: ∃i,P.info? e=some i/\i.zero=some z/\i.size=1:=by
    cases hi:P.info? e with
    | none=>rw [hi] at h3;cases h3
    | some i =>
      rw [hi] at h3 h4
      simp at h3 h4
      exact ⟨i,rfl,h3,h4⟩
  refine ⟨w.heap.size,w.alloc (.cells #[v] e),trivial, .inl ?_,?_,⟨rfl,rfl,rfl,by simp,by first | exact Nat.le_refl _ | exact Nat.le_succ _ | simp⟩⟩
  · simp [Instr.buildSlice,run_underlying ht,sizeOf,typeInfo,zeroValue,hi,hz,hs,hzc,Instr.fill,hv,newRow]
    refine congrArg (fun a=>w.alloc (Obj.cells a e)) (Array.ext (by simp) fun j h1 h2=> ?_)
    have hj:j=0:=by simp at h2;exact h2
    subst hj
    simp
  · have:=ho.new (w' :=w.alloc (.cells #[v] e)) (i:=0) (heap_alloc_new w _) (fun c hc=>heap_alloc_old w _ c hc)
    refine (congrArg (fun H=>Own H R (w.alloc (.cells #[v] e))) ?_).mp this
    funext j
    cases j with
    | zero=>simp [upd,ofList]
    | succ j=>rfl
end Go.Sx
namespace Go.Sx
open Go.RowKit
def iL (xi xt xo m0 m1 m2 m3:Int):List Int:=nb4 (IntKind.u64.wrap xi)++nb1 (IntKind.u64.wrap xt)++nb1 (IntKind.u64.wrap xo)++l32 (ib4 m0 m1 m2 m3)
def rblk (r:Row):Nat:=vblk (sv r)
def rcap (r:Row):Nat:=vcap (sv r)
def rcs (r:Row):Array Value:=scells (ss 5 r)
theorem row_some {r:Row} (h:0<(dg r).length): ∃b vs ex,r= .mk b vs ex:=by
  cases r with
  | nil=>simp [dg,vals] at h
  | mk b vs ex=>exact ⟨b,vs,ex,rfl⟩
theorem sv_some {r:Row} {n:Nat} (h:0<(dg r).length) (hn:(dg r).length=n):sv r= .slice (some ⟨rblk r,0,none⟩) n (rcap r):=by
  obtain ⟨b,vs,ex,rfl⟩:=row_some h
  rw [←hn,←vals_len];rfl
theorem ss_some {r:Row} (h:0<(dg r).length):ss 5 r= .blk (rblk r) (.cells (rcs r) 5 (0,0)):=by
  obtain ⟨b,vs,ex,rfl⟩:=row_some h
  rfl
theorem rcap_le {r:Row}:(dg r).length<=rcap r:=by
  cases r with
  | nil=>simp [dg,vals]
  | mk b vs ex=>simp [dg,vals,rcap,sv,vcap]
theorem xtakeB {P:Program} {t:TypeId} {z:Value} (h:SlT P t 5 z) (r:Row) {n m:Nat} (hn:(dg r).length=n) (hm:m<=n) (h0:0<n) (k:IntKind):
    OpT P (do pure (.value (←Instr.sliceAt t (sv r) none (some (.int k (m:Nat))) none))) [ss 5 r] Unit (fun _=> .slice (some ⟨rblk r,0,none⟩) m (rcap r)) (fun _=> [.blk (rblk r) (.cells (rcs r) 5 (0,0))]) (fun _=>True):=by
  have hc:=rcap_le (r:=r)
  have h1:=xpart_h h ⟨rblk r,0,none⟩ n (rcap r) k (m:Nat) m rfl (by omega)
  rw [←sv_some (by omega) hn] at h1
  rw [←ss_some (by omega)]
  exact fun _ w hO=>⟨(),w,trivial, .inl (h1 w),hO,Ext.refl w⟩
theorem xdropB {P:Program} {t e:TypeId} {z:Value} (h:SlT P t e z) (r:Row) {n m:Nat} (hn:(dg r).length=n) (hm:m<=n) (h0:0<n) (k:IntKind):
    PureRun P (do pure (.value (←Instr.sliceAt t (sv r) (some (.int k (m:Nat))) none none))) (.slice (some ⟨rblk r,if rcap r=m then 0 else m,none⟩) (n - m) (rcap r - m)):=by
  have h1:=xpart_l h (rblk r) 0 n (rcap r) k (m:Nat) m rfl hm
  rw [←sv_some (by omega) hn,Nat.zero_add] at h1
  exact h1
def F_takeB (n:Nat):List Value->List Slot->Ctr:=fun vs hs=>⟨Unit,fun _=> .slice (some ⟨vblk (varg vs 0),0,none⟩) n (vcap (varg vs 0)),fun _=> [.blk (vblk (varg vs 0)) (.cells (scells (sarg hs 0)) 5 (0,0))],fun _=>True⟩
def f_dropB (n m:Nat):List Value->Value:=fun vs=> .slice (some ⟨vblk (varg vs 0),if vcap (varg vs 0)=n then 0 else n,none⟩) m (vcap (varg vs 0) - n)
def lf (l:List Int):Nat->Int:=fun k=>l.getD k 0
theorem row_src {r:Row} (hb:BOK r) (hn:(dg r).length=64):SrcOK (rcs r) 0/\ ∀k,k<64->qf (rcs r) 0 k=lf (dg r) k:=by
  obtain ⟨b,vs,ex,rfl⟩:=row_some (r:=r) (by omega)
  have hv:vs=bv (dg (.mk b vs ex)):=hb.eq
  have g: ∀k,k<64->(rcs (.mk b vs ex))[0+k]? =some (.int .u8 (lf (dg (.mk b vs ex)) k)):=by
    intro k hk
    have hl:k<vs.length:=by
      have:=vals_len (.mk b vs ex);simp only [vals] at this;omega
    have e1:(rcs (.mk b vs ex))[0+k]? =vs[k]? :=by simp [rcs,ss,scells,List.getElem?_append_left hl]
    have hk' :k<(dg (.mk b vs ex)).length:=by omega
    have e2:vs[k]? =(bv (dg (.mk b vs ex)))[k]? :=congrArg (fun l:List Value=>l[k]?) hv
    rw [e1,e2]
    simp [bv,lf,hk',List.getElem?_eq_getElem hk']
  have g2: ∀k,k<64->qf (rcs (.mk b vs ex)) 0 k=lf (dg (.mk b vs ex)) k:=by
    intro k hk
    have:=g k hk
    unfold qf
    rw [Array.getD_eq_getD_getElem?,this];rfl
  exact ⟨fun k hk=>by rw [g k hk,g2 k hk],g2⟩
theorem cat4_congr {q q' :Nat->Int} {i:Nat}: ∀n,(∀k,k<n->q (4*i+k)=q' (4*i+k))->cat4 q i n=cat4 q' i n
  | 0,_=>rfl
  | n+1,h=>by rw [cat4,cat4,cat4_congr n (fun k hk=>h k (by omega)),h n (by omega)]
theorem wl_congr {q q' :Nat->Int} (h: ∀k,k<64->q k=q' k): ∀i,wl q i=wl q' i
  | 0=>rfl
  | i + 1 => by
    rw [wl,wl,wl_congr h i]
    by_cases hi:i<16
    · rw [if_pos hi,if_pos hi,cat4_congr 4 (fun k hk=>h _ (by omega))]
    · rw [if_neg hi,if_neg hi]
theorem take8_congr {K:List Int} {q q' :Nat->Int} {s:S8} (h: ∀k,k<64->q k=q' k):take8 K q s=take8 K q' s:=by
  unfold take8;rw [wl_congr h]
def S8.nth (s:S8):Nat->Int
  | 0=>s.a | 1=>s.b | 2=>s.c | 3=>s.d | 4=>s.e | 5=>s.f | 6=>s.g | _=>s.h
def sumf (s:S8) (i:Nat):Int:=IntKind.u8.wrap (Int.fdiv (s.nth (i/4)) (2^(24 - 8*(i%4))))
def tail43:List Int:= [128,0,0,0,0,0,0,0,0,0,0,0,0,0,0,0,0,0,0,1,88]
def S8.ofl (l:List Int):S8:=⟨l.getD 0 0,l.getD 1 0,l.getD 2 0,l.getD 3 0,l.getD 4 0,l.getD 5 0,l.getD 6 0,l.getD 7 0⟩
def sum43 (l:List Int):Nat->Int:=sumf (take8 shaK (lf (l++tail43)) (S8.ofl shaH))
def idF (xi xt xo m0 m1 m2 m3:Int):Nat->Int:=sum43 ([3,0,0,0,38]++iL xi xt xo m0 m1 m2 m3)
end Go.Sx
namespace Go.Sx
open Go.RowKit
theorem all_range_ints: ∀ (xs ys:List Int),xs.length=ys.length->((List.range xs.length).all fun i=>xs.getD i 0==ys.getD i 0)=decide (xs=ys)
  | [],[],_=>rfl
  | x :: xs, y :: ys, h => by
    have ih:=all_range_ints xs ys (by simpa using h)
    rw [List.length_cons,List.range_succ_eq_map,List.all_cons,List.all_map]
    simp only [List.getD_cons_zero,Function.comp_def,List.getD_cons_succ,ih]
    rw [Bool.eq_iff_iff]
    simp
  | [],_::_,h=>by simp at h
  | _::_,[],h=>by simp at h
theorem part_arrV {P:Program} {e:TypeId} {k:IntKind} {xs:List Int} {i:Nat} (ha: ∀w,(isAgg e).run P w= .ok false w) (hi:i<xs.length) (w:World):(part e (arrV k xs) (i*1)).run P w= .ok (.int k (xs.getD i 0)) w:=by
  have hg:(arrV k xs)[i]? =some (.int k (xs.getD i 0)):=by simp [arrV,hi]
  simp [part,ha w,hg]
theorem eq_arrn {P:Program} {t e:TypeId} {n:Nat} {k:IntKind} (w:World) (d:Nat) (ht:P.underlying t=some (.array n e)) (he:P.underlying e=some (.int k)) (ha: ∀w,(isAgg e).run P w= .ok false w) (hsz: ∀w,(sizeOf e).run P w= .ok 1 w)
    (xs ys:List Int) (hx:xs.length=n) (hy:ys.length=n):(Op.equalIn (d+2) t (.agg (arrV k xs)) (.agg (arrV k ys))).run P w= .ok (decide (xs=ys)) w:=by
  rw [←all_range_ints xs ys (hx.trans hy.symm),hx,List.range_eq_range',Op.equalIn]
  simp only [Sem.run_bind,run_underlying ht,Result.andThen_ok,hsz,Std.Legacy.Range.forIn_eq_forIn_range',Std.Legacy.Range.size,Nat.sub_zero,Nat.add_sub_cancel,Nat.div_one]
  have hl: ∀i∈List.range' 0 n 1,i<n:=fun i hi=>by simpa using (List.mem_range'_1.1 hi).2
  generalize List.range' 0 n 1=l at hl ⊢
  induction l with
  | nil=>simp
  | cons i l ih =>
    have hi:i<n:=hl i (by simp)
    have px:=part_arrV (k:=k) (xs:=xs) ha (show i<xs.length by omega) w
    have py:=part_arrV (k:=k) (xs:=ys) ha (show i<ys.length by omega) w
    have pe:(Op.equalIn (d+1) e (.int k (xs.getD i 0)) (.int k (ys.getD i 0))).run P w= .ok (xs.getD i 0==ys.getD i 0) w:=by
      have:=run_equalIn_int (P:=P) w d e k k (xs.getD i 0) (ys.getD i 0) he
      simpa using this
    simp only [List.forIn_cons,Sem.run_bind,px,py,pe,Result.andThen_ok,List.all_cons]
    cases hb:(xs.getD i 0==ys.getD i 0)
    · simp
    · simp only [Bool.not_true,Bool.false_eq_true,if_false,Sem.run_pure,Result.andThen_ok,Bool.true_and]
      exact ih fun j hj=>hl j (by simp [hj])
theorem check_arrn {P:Program} {t e:TypeId} {n:Nat} {k:IntKind} (w:World) (b:Bool) (d:Nat) (ht:P.underlying t=some (.array n e)) (he:P.underlying e=some (.int k)) (ha: ∀w,(isAgg e).run P w= .ok false w) (hsz: ∀w,(sizeOf e).run P w= .ok 1 w)
    (xs:List Int) (hx:xs.length=n):(Instr.checkKey b (d+2) t (.agg (arrV k xs))).run P w= .ok () w:=by
  rw [Instr.checkKey]
  simp only [Sem.run_bind,run_underlying ht,Result.andThen_ok,hsz,Std.Legacy.Range.forIn_eq_forIn_range',Std.Legacy.Range.size,Nat.sub_zero,Nat.add_sub_cancel,Nat.div_one]
  have hl: ∀i∈List.range' 0 n 1,i<n:=fun i hi=>by simpa using (List.mem_range'_1.1 hi).2
  generalize List.range' 0 n 1=l at hl ⊢
  induction l with
  | nil=>simp
  | cons i l ih =>
    have hi:i<n:=hl i (by simp)
    have px:=part_arrV (k:=k) (xs:=xs) ha (show i<xs.length by omega) w
    have pc:(Instr.checkKey b (d+1) e (.int k (xs.getD i 0))).run P w= .ok () w:=by
      rw [Instr.checkKey]
      simp only [Sem.run_bind,run_underlying he,Result.andThen_ok,Sem.run_pure]
    simp only [List.forIn_cons,Sem.run_bind,hsz,Result.andThen_ok,px,pc,Sem.run_pure]
    exact ih fun j hj=>hl j (by simp [hj])
theorem hV_arr (f:Nat->Int):hV f= .agg (arrV .u8 (l32 f)):=rfl
theorem l32_inj {f g:Nat->Int} (h:hV f=hV g):l32 f=l32 g:=by
  rw [hV_arr,hV_arr] at h
  injection h with h
  have e: ∀l:List Int,(arrV .u8 l).toList.map ci=l:=by
    intro l
    simp only [arrV]
    exact bv_ci l
  rw [←e (l32 f),←e (l32 g),h]
theorem kl_arr32 {P:Program} {kt e:TypeId} (hu:P.underlying kt=some (.array 32 e)) (he:P.underlying e=some (.int .u8)) (ha: ∀w,(isAgg e).run P w= .ok false w) (hsz: ∀w,(sizeOf e).run P w= .ok 1 w):
    KL P kt (fun v=> ∃f:Nat->Int,v=hV f):=by
  refine KL.of_asking hu ?_ ?_ ?_ ?_
  · rintro b _ w ⟨f,rfl⟩;exact check_arrn w b 9998 hu he ha hsz (l32 f) rfl
  · rintro _ _ ⟨f,rfl⟩ ⟨g,rfl⟩;rfl
  · rintro _ _ w ⟨f,rfl⟩ ⟨g,rfl⟩
    have h:=eq_arrn w 9998 hu he ha hsz (l32 f) (l32 g) rfl rfl
    show (Op.equalIn 10000 kt (hV f) (hV g)).run P w=_
    rw [hV_arr f,hV_arr g,h]
    refine congrArg (fun b=>Result.ok b w) ?_
    rw [←hV_arr f,←hV_arr g]
    by_cases hfg:hV f=hV g
    · simp [hfg,l32_inj hfg]
    · have:l32 f≠l32 g:=fun h=>hfg (by rw [hV_arr,hV_arr,h])
      simp [hfg,this]
  · rintro _ ⟨f,rfl⟩
    show Instr.sameBits (9999+1) _ _=true
    simp [Instr.sameBits,hV]
def tV (v:Int×Int):Value:= .agg #[.int .u8 v.1, .int .u8 v.2]
def unT (x:Value):Int×Int:=(ci (cell x 0),ci (cell x 1))
end Go.Sx
namespace Go.Sx
open Go.RowKit
noncomputable def tkF (m:KV) (k:Value) (o:Int):Int×Int:=match mget m k with | some v=>unT v | none=>(o,0)
theorem tkF_some {m:KV} {k:Value} {o:Int} {x:(Int×Int)×Bool} (h:x.1=unT ((mget m k).getD (tV (0,0)))/\x.2=(mget m k).isSome) (h2:x.2=true):tkF m k o=x.1:=by
  obtain ⟨h1,h3⟩:=h
  rw [h2] at h3
  unfold tkF
  cases hg:mget m k with
  | none=>rw [hg] at h3;cases h3
  | some v=>rw [h1,hg];rfl
theorem tkF_none {m:KV} {k:Value} {o:Int} {x:(Int×Int)×Bool} (h:x.1=unT ((mget m k).getD (tV (0,0)))/\x.2=(mget m k).isSome) (h2:x.2=false):tkF m k o=(o,0):=by
  obtain ⟨h1,h3⟩:=h
  rw [h2] at h3
  unfold tkF
  cases hg:mget m k with
  | none=>rfl
  | some v=>rw [hg] at h3;cases h3
def inBad (xt xo m0 m1 m2 m3:Int):Bool:=decide (xt≥4) || (decide (xo≥16) || (m0==(0:Int) && (m1==(0:Int) && (m2==(0:Int) && (m3==(0:Int))))))
def mvC (bad right:Bool) (t:Int×Int) (fr:Int):Int:=bif bad then 6 else bif !right then 1 else bif t.2 !=0 then 12 else bif t.1 !=fr then 13 else 0
def pyC (bad right:Bool) (t:Int×Int):Int:=bif bad then 6 else bif !right then 1 else bif t.2 !=0 then 12 else 0
noncomputable def setIf (c:Int) (m:KV) (k v:Value):KV:=bif c==0 then mset m k v else m
def addIf (c:Int) (L:List Ent) (e:Ent):List Ent:=bif c==0 then L++ [e] else L
theorem bifneT {c:Bool} {n:Int} (h:c=true) (hn:(n !=0)=true):((bif c then n else 0) !=(0:Int))=true:=by rw [h];exact hn
theorem bifneF {c:Bool} {n:Int} (h:c=false):((bif c then n else 0) !=(0:Int))=false:=by rw [h];rfl
theorem xeq4w {P:Program} {t e:TypeId} (hg:P.eqGuardType P.depth t=false) (he:P.underlying e=some (.int .u64)) (ha: ∀w,(isAgg e).run P w= .ok false w) (hs: ∀w,(sizeOf e).run P w= .ok 1 w) (hu:P.underlying t=some (.array 4 e)) (a0 a1 a2 a3 b0 b1 b2 b3:Int):
    PureRun P (xBin .eql t (.agg #[.int .u64 a0, .int .u64 a1, .int .u64 a2, .int .u64 a3]) (.agg #[.int .u64 b0, .int .u64 b1, .int .u64 b2, .int .u64 b3])) (.bool (a0==b0 && (a1==b1 && (a2==b2 && (a3==b3))))):=by
  intro w
  have h:=eq_arr4 hu he ha hs a0 a1 a2 a3 b0 b1 b2 b3 w
  have g:(eqGuard .eql t (.const (.agg #[.int .u64 a0, .int .u64 a1, .int .u64 a2, .int .u64 a3])) (.const (.agg #[.int .u64 b0, .int .u64 b1, .int .u64 b2, .int .u64 b3])) (.agg #[.int .u64 a0, .int .u64 a1, .int .u64 a2, .int .u64 a3]) (.agg #[.int .u64 b0, .int .u64 b1, .int .u64 b2, .int .u64 b3])).run P w= .ok () w:=run_eqGuard_agg (w:=w) .eql t _ _ _ _ hg
  have q:(binOp .eql t (.agg #[.int .u64 a0, .int .u64 a1, .int .u64 a2, .int .u64 a3]) (.agg #[.int .u64 b0, .int .u64 b1, .int .u64 b2, .int .u64 b3])).run P w= .ok (.bool (a0==b0 && (a1==b1 && (a2==b2 && (a3==b3))))) w:=by
    rw [run_eql_struct,h];rfl
  simp [xBin,Sem.run_bind,g,q]
end Go.Sx
namespace Go.Sx
theorem tkF_set0 {m:KV} {k:Value} {v:Int×Int} {o c:Int} (hc:c=0):tkF (setIf c m k (tV v)) k o=v:=by
  subst hc
  have e:setIf 0 m k (tV v)=mset m k (tV v):=rfl
  unfold tkF
  rw [e,mget_set,if_pos rfl];rfl
theorem tkF_setN {m:KV} {k v:Value} {o c:Int} (hc:c≠0):tkF (setIf c m k v) k o=tkF m k o:=by
  have e:setIf c m k v=m:=by
    unfold setIf
    rw [show (c==0)=false from beq_eq_false_iff_ne.2 hc];rfl
  rw [e]
theorem addIf_len {c:Int} {L:List Ent} {e:Ent}:(addIf c L e).length<=L.length+1:=by
  unfold addIf
  cases c==0<;>simp
structure OnceJ (bad:Bool) (t:Int×Int) (paid:Bool):Prop where
  p:paid=(t.2 !=0)
  o:bad=false->t.1<16
  b:paid=true->bad=false
theorem OnceJ.start {xt xo m0 m1 m2 m3:Int}:OnceJ (inBad xt xo m0 m1 m2 m3) (xo,0) false:=by
  refine ⟨rfl,fun h=> ?_,fun h=>by cases h⟩
  unfold inBad at h
  simp only [Bool.or_eq_false_iff,decide_eq_false_iff_not] at h
  have:=h.2.1
  show xo<16
  omega
end Go.Sx
namespace Go.Sx
theorem live1 {K:Value}:mvC (inBad 0 1 5 0 0 0) (decide ((1:Int)<16) && decide ((2:Int)<16)) (tkF [] K 1) 1=0:=rfl
theorem live2 {K:Value}:mvC (inBad 0 1 5 0 0 0) (decide ((1:Int)<16) && decide ((2:Int)<16)) (tkF (setIf (mvC (inBad 0 1 5 0 0 0) (decide ((1:Int)<16) && decide ((2:Int)<16)) (tkF [] K 1) 1) [] K (tV (2,(tkF [] K 1).2))) K 1) 1=13:=by
  rw [tkF_set0 live1];rfl
theorem live3 {K:Value} {c:Int} {v:Value} (hc:c=13):(tkF (setIf c (setIf (mvC (inBad 0 1 5 0 0 0) (decide ((1:Int)<16) && decide ((2:Int)<16)) (tkF [] K 1) 1) [] K (tV (2,(tkF [] K 1).2))) K v) K 1).1=2:=by
  rw [tkF_setN (by rw [hc];decide),tkF_set0 live1]
end Go.Sx
namespace Go.Sx
open Go.RowKit
end Go.Sx
namespace Go.Sx
open Go.RowKit
theorem own_put {H:Hp} {R:HP} {w:World} {i b:Nat} {o o' :Obj} (h:Own H R w) (hi:H i= .blk b o):Own (upd H i (.blk b o')) R (w.putObj b o'):=by
  have hb:=h.block hi
  exact h.set hi (World.putObj_heap_same (Array.getElem?_eq_some_iff.1 hb).1) (fun c hc=>World.putObj_heap_other hc)
theorem ext_put (w:World) (b:Nat) (o:Obj):Ext w (w.putObj b o):=⟨rfl,rfl,rfl,by simp [World.putObj],by first | exact Nat.le_refl _ | exact Nat.le_succ _ | simp⟩
theorem own_alloc {H:Hp} {R:HP} {w:World} (h:Own H R w) (i:Nat) (o:Obj):Own (upd H i (.blk w.heap.size o)) R (w.alloc o):=
  h.new (World.alloc_heap_new w o) (fun c hc=>Below.heap_alloc w o c hc)
theorem ext_alloc (w:World) (o:Obj):Ext w (w.alloc o):=⟨rfl,rfl,rfl,by simp,by first | exact Nat.le_refl _ | exact Nat.le_succ _ | simp⟩
def finM (P : Program) (fn : Func) (acc : List Acc) (outs : List Nat) (iD : Nat) {X : Type} (val : X -> Value) (us : X -> List Slot) (Φ : X -> Prop) (e : Exit) (s : St) (_ : Script) : Prop :=
  match e with
  | .normal | .ret =>
    match s.df with
    | []=>finR P fn acc outs val us Φ s.fr s.H
    | [d] =>
      match d.target with
      | .collected D=>s.H iD= .blk D (.deferred (some []))/\finR P fn acc outs val us Φ s.fr (upd s.H iD (.blk D (.deferred none)))
      | _=>False
    | _=>False
  | _=>False
theorem call_of_mark {P : Program} {f : FuncId} {fn : Func} {c : Code} {n : Nat} {args : Array Value} {Hs : List Slot} {X : Type} {val : X -> Value} {us : X -> List Slot} {Φ : X -> Prop}
    (hP : P.follows .mixedOrders = true) (hf : P.funcs[f]? = some fn) (hb : fn.body = some c) (hn : fn.ntmps = n) (hname : (fn.name == "runtime.NumGoroutine") = false)
    (fuel:Nat) (k:Script) (acc:List Acc) (outs:List Nat) (iD:Nat) (hsz:Nat.ble args.size n=true) (ho:nodB outs=true)
    (h:codeW P n none fuel none c k (init args Hs) (finM P fn acc outs iD val us Φ)):CallT P f args Hs X val us Φ:=by
  refine ⟨enterOK hf hb hname,fun R w hw=> ?_⟩
  subst hn
  have go:CallsIn Fence.wide 0 P f args w fun e w' => ∃x,Φ x/\e= .returned (val x)/\Own (ofList (us x)) R w' /\Ext w w' := ?_
  · exact callsIn_wide.1 go
  refine callsIn_of_wp_marks hf hb trivial ?_
  have hc:=(code_sound hP fuel).1 c k (init args Hs) _ R _ w h (init_rel (Nat.le_of_ble_eq_true hsz)) hw
  refine wpIn_mono hc ?_
  have done: ∀ (a' :Act) (w' :World) (fr:Nat->Value) (H:Hp) (df:List Deferred),Rel fn.ntmps ⟨fr,H,df⟩ a' ->Own H R w' ->Ext w w' ->finR P fn acc outs val us Φ fr H->
      ∃v,(results fn a'.tmps).run P w' = .ok v w' /\ ∃x,Φ x/\Ending.returned v= .returned (val x)/\Own (ofList (us x)) R w' /\Ext w w' :=by
    intro a' w' fr H df hr ho' he hs
    obtain ⟨v,hrun,x,hx,rfl,hout⟩:=symR_sound _ acc H _ R w' hs ho'
    obtain ⟨_,hk⟩:=outW_use hout
    exact ⟨val x,by rw [resF_eq hr];exact hrun,x,hx,rfl,(own_sub (nodB_iff.1 ho) ho').weaken fun k=>(hk k).symm,he⟩
  have fin: ∀ (a' :Act) (w' :World) (s' :St) (k' :Script),Rel fn.ntmps s' a' ->Own s'.H R w' ->Ext w w' ->finM P fn acc outs iD val us Φ .ret s' k' ->
      LeavesInM Fence.wide 0 P fn a'.tmps (fun e w' => ∃x,Φ x/\e= .returned (val x)/\Own (ofList (us x)) R w' /\Ext w w') a'.defers .returning w' :=by
    intro a' w' s' k' hr ho' he hs
    rw [hr.df]
    unfold finM at hs
    cases hdf:s'.df with
    | nil =>
      rw [hdf] at hs
      exact done a' w' s'.fr s'.H s'.df hr ho' he hs
    | cons d l =>
      rw [hdf] at hs
      cases l with
      | cons _ _=>exact hs.elim
      | nil =>
        obtain ⟨tg,dargs⟩:=d
        cases tg with
        | collected D =>
          obtain ⟨hD,hs⟩:=hs
          refine ⟨by simp, .inl ⟨D,_,rfl,run_takeDeferred (ho'.block hD),?_⟩⟩
          exact done a' _ s'.fr (upd s'.H iD (.blk D (.deferred none))) s'.df ⟨hr.size,hr.at_,hr.df⟩ (own_put ho' hD) (he.trans (ext_put _ _ _)) hs
        | _=>exact hs.elim
  rintro e a' w' ⟨s',⟨k',hk⟩,hr,ho',he⟩
  cases e with
  | normal=>exact fin a' w' s' k' hr ho' he hk
  | ret=>exact fin a' w' s' k' hr ho' he hk
  | exit id=>exact hk.elim
  | goto l=>exact hk.elim
  | panic ch=>exact hk.elim
  | outgrown=>exact hk.elim
def rfs:Code->List (Code×Code)
  | .seq a b=>rfs a++rfs b
  | .cond _ a b=>rfs a++rfs b
  | .block _ c=>rfs c
  | .loop c=>rfs c
  | .scope c=>rfs c
  | .rangeFunc _ _ a b=> [(a,b)]
  | _=> []
abbrev recOf (fn:FuncId) (tmps:Array Value) (ps:Array Tmp) (asg b:Code) (D:Nat):Loop:= { state:= .ready,pending:=none,fn,tmps,params:=ps,assign:=asg,body:=b,defers:=D }
abbrev loopB (l:Nat) (r:Loop):Slot:= .blk l (.loop r)
def putFr (fr:Nat->Value):List (Tmp×Value)->Nat->Value
  | []=>fr
  | (t,v)::l=>putFr (upd fr t v) l
theorem foldl_put {n:Nat}: ∀ (l:List (Tmp×Value)) (tmps:Array Value) (fr:Nat->Value),tmps.size=n->(∀i,tmps.getD i undef=fr i)->(∀x∈l,x.1<n)->
    (l.foldl (fun t (p,v)=>t.setIfInBounds p v) tmps).size=n/\ ∀i,(l.foldl (fun t (p,v)=>t.setIfInBounds p v) tmps).getD i undef=putFr fr l i
  | [],tmps,fr,hz,hf,_=>⟨hz,hf⟩
  | (t, v) :: l, tmps, fr, hz, hf, hl => by
    refine foldl_put l (tmps.setIfInBounds t v) (upd fr t v) (by simp [hz]) (fun i=> ?_) (fun x hx=>hl x (List.mem_cons_of_mem _ hx))
    have ht:t<n:=hl (t,v) (List.mem_cons_self ..)
    by_cases e:i=t
    · subst e;rw [upd_same];simp [Array.getD_eq_getD_getElem?,hz,ht]
    · rw [upd_other _ _ e,←hf i];simp [Array.getD_eq_getD_getElem?,Ne.symm e]
def roundW (P : Program) (n : Nat) (l : Nat) (fuel : Nat) (asg b : Code) (k : Script) (r : Loop) (s : St) (outs : List Nat) {X : Type} (us : X -> List Slot) (Φ : X -> Prop) : Prop :=
  codeW P n (some l) fuel none asg k s fun e s1 k1 =>
    match e with
    | .normal=>s1.H 0=loopB l r/\codeW P n (some l) fuel none b k1 ⟨s1.fr,upd s1.H 0 (loopB l { r with state:= .busy }),s1.df⟩ fun e s2 _=>
        match e with
        | .normal=>s2.H 0=loopB l { r with state:= .busy }/\ ∃x,Φ x/\outW outs (us x) s2.H True
        | _=>False
    | _=>False
theorem round_of {P : Program} {n l D fuel : Nat} {fn : FuncId} {tmps : Array Value} {ps : Array Tmp} {asg b : Code} {args : Array Value} {Hs : List Slot} {X : Type} {us : X -> List Slot} {Φ : X -> Prop} {fr : Nat -> Value}
    (hP:P.follows .mixedOrders=true) (hz:tmps.size=n) (hf: ∀i,tmps.getD i undef=fr i) (hps:ps.size=args.size) (hpn:ps.toList.all (fun t=>Nat.blt t n)=true) (k:Script) (outs:List Nat) (ho:nodB (0::outs)=true)
    (h:roundW P n l fuel asg b k (recOf fn tmps ps asg b D) ⟨putFr fr (ps.toList.zip args.toList),ofList (loopB l (recOf fn tmps ps asg b D)::Hs),[]⟩ outs us Φ):
    RoundT P l args (loopB l (recOf fn tmps ps asg b D)::Hs) X (fun _=> .bool true) (fun x=>loopB l (recOf fn tmps ps asg b D)::us x) Φ:=by
  intro R w hw
  have hl:w.heap[l]? =some (.loop (recOf fn tmps ps asg b D)):=hw.block (i:=0) rfl
  refine ⟨fn,_,asg,b,run_yield hl hps.symm,roundIn_of_wpIn (F:=Fence.wide) (n:=0) trivial ?_⟩
  have hfold:((recOf fn tmps ps asg b D).params.zip args).foldl (fun t (p,v)=>t.setIfInBounds p v) tmps=(ps.toList.zip args.toList).foldl (fun t (p,v)=>t.setIfInBounds p v) tmps:=by
    rw [←Array.foldl_toList,Array.toList_zip]
  obtain ⟨h1,h2⟩:=foldl_put (ps.toList.zip args.toList) tmps fr hz hf (fun x hx=>by
    have:=List.all_eq_true.1 hpn x.1 (List.of_mem_zip hx).1
    simpa [Nat.blt_eq] using this)
  have hc:=(code_sound hP fuel (r:=some l)).1 asg k _ _ R { tmps:=_,defers:= [] } w h ⟨h1,h2,rfl⟩ hw
  rw [hfold]
  refine wpIn_mono hc ?_
  rintro e a1 w1 ⟨s1,⟨k1,hk⟩,hr1,ho1,he1⟩
  cases e with
  | normal =>
    obtain ⟨hl1,hk⟩:=hk
    have hb1:=ho1.block hl1
    refine ⟨_,run_beginRound hb1 rfl,?_⟩
    have hc2:=(code_sound hP fuel (r:=some l)).1 b k1 _ _ R a1 _ hk ⟨hr1.size,hr1.at_,hr1.df⟩ (own_put ho1 hl1)
    refine wpIn_mono hc2 ?_
    rintro e a2 w2 ⟨s2,⟨k2,hk2⟩,hr2,ho2,he2⟩
    cases e with
    | normal =>
      obtain ⟨hl2,x,hx,hout⟩:=hk2
      have hb2:=ho2.block hl2
      refine ⟨_,_,run_endRound none hb2,x,hx,rfl,?_,((he1.trans (ext_put _ _ _)).trans he2).trans (ext_put _ _ _)⟩
      have ho3:=own_put (o' := .loop (recOf fn tmps ps asg b D)) ho2 hl2
      have hq : outW (0 :: outs) (loopB l (recOf fn tmps ps asg b D) :: us x) (upd s2.H 0 (loopB l (recOf fn tmps ps asg b D))) True := by
        refine ⟨rfl,?_⟩
        have h0:0∉outs:=by
          have:=(nodB_iff.1 ho)
          exact (List.nodup_cons.1 this).1
        clear ho
        have step: ∀ (outs:List Nat) (ss:List Slot),0∉outs->outW outs ss s2.H True->outW outs ss (upd s2.H 0 (loopB l (recOf fn tmps ps asg b D))) True:=by
          intro outs ss
          induction ss generalizing outs with
          | nil=>intro _ _;unfold outW;trivial
          | cons s ss ih =>
            intro h0 h
            cases outs with
            | nil=>exact h.elim
            | cons i outs =>
              obtain ⟨ha,hb⟩:=h
              exact ⟨(upd_other _ _ (fun e=>h0 (by subst e;exact List.mem_cons_self ..))).trans ha,ih outs (fun hm=>h0 (List.mem_cons_of_mem _ hm)) hb⟩
        exact step outs _ h0 hout
      obtain ⟨_,hk⟩:=outW_use hq
      exact (own_sub (nodB_iff.1 ho) ho3).weaken fun k=>(hk k).symm
    | _=>exact hk2.elim
  | _=>exact hk.elim
theorem range_of {P : Program} {n : Nat} {g : Operand} {ps : Array Tmp} {asg b : Code} {fr : Nat -> Value} {Hs : List Slot} {X : Type} {val : X -> Value} {us : X -> List Slot} {Φ : X -> Prop} {gf : FuncId} {cap : Array Value}
    (hg:evalF fr g= .func (.func gf) #[] cap)
    (h: ∀ (l D:Nat) (fn:FuncId) (tmps:Array Value),tmps.size=n->(∀i,tmps.getD i undef=fr i)->
      CallT P gf (#[.func (.yield l) #[] #[]]++cap) (loopB l (recOf fn tmps ps asg b D)::Hs) X val (fun x=>loopB l (recOf fn tmps ps asg b D)::us x) Φ):
    RangeT P n g ps asg b fr Hs X us Φ:=by
  intro R w act hz hf hw
  refine wpIn_rangeFunc ?_
  intro fn _
  have hc:=(h (w.heap.size+1) w.heap.size fn act.tmps hz hf).frame [.blk w.heap.size (.deferred (some []))]
  have hev:act.eval g= .func (.func gf) #[] cap:=by
    rw [←hg]
    cases g with
    | tmp t=>exact hf t
    | _=>rfl
  obtain ⟨W1,hW1⟩: ∃W1,W1=(w.alloc (.deferred (some []))).alloc (.loop (recOf fn act.tmps ps asg b w.heap.size)):=⟨_,rfl⟩
  refine ⟨w.heap.size+1,[markOf w.heap.size],W1,{ target:= .fn (.func gf) cap,args:= #[.func (.yield (w.heap.size+1)) #[] #[]] },W1,gf,#[.func (.yield (w.heap.size+1)) #[] #[]]++cap,W1,by rw [hW1];exact run_enterLoop_outer _ _ _ _ _,?_,fun _ _=>trivial,?_,fun h=>by simp [FrR] at h,?_⟩
  · simp only [resolve,hev]
    simp [go_sem]
  · simp only [invoke]
    exact hc.enter _ _
  · subst hW1
    have o1:Own (ofList Hs) R w:=hw
    have o2 : Own (ofList (.blk w.heap.size (.deferred (some [])) :: Hs)) R (w.alloc (.deferred (some []))) := by
      have := own_alloc (H := fun i => match i with | 0 => .free | i + 1 => ofList Hs i) (R := R) (w := w) (by
        obtain ⟨p,q,hs,hq,hp,hqw,hd,hdq⟩:=o1
        refine ⟨fun i=>match i with | 0=>fun _=>none | i+1=>p i,q,fun i=> ?_,hq,fun i=> ?_,hqw,fun i j hij=> ?_,fun i=> ?_⟩
        · cases i with
          | zero=>exact fun _=>rfl
          | succ i=>exact hs i
        · cases i with
          | zero=>intro b o h;cases h
          | succ i=>exact hp i
        · cases i with
          | zero=>exact fun _=> .inl rfl
          | succ i =>
            cases j with
            | zero=>exact fun _=> .inr rfl
            | succ j=>exact hd i j (fun e=>hij (by rw [e]))
        · cases i with
          | zero=>exact fun _=> .inl rfl
          | succ i=>exact hdq i) 0 (.deferred (some []))
      refine this.weaken fun k=> ?_
      cases k with
      | zero=>exact .inl rfl
      | succ k=>exact .inl rfl
    have o3 : Own (ofList (.blk (w.heap.size + 1) (.loop (recOf fn act.tmps ps asg b w.heap.size)) :: .blk w.heap.size (.deferred (some [])) :: Hs)) R ((w.alloc (.deferred (some []))).alloc (.loop (recOf fn act.tmps ps asg b w.heap.size))) := by
      have o2' :Own (ofList (.free:: .blk w.heap.size (.deferred (some []))::Hs)) R (w.alloc (.deferred (some []))):=by
        obtain ⟨p,q,hs,hq,hp,hqw,hd,hdq⟩:=o2
        refine ⟨fun i=>match i with | 0=>fun _=>none | i+1=>p i,q,fun i=> ?_,hq,fun i=> ?_,hqw,fun i j hij=> ?_,fun i=> ?_⟩
        · cases i with
          | zero=>exact fun _=>rfl
          | succ i=>exact hs i
        · cases i with
          | zero=>intro b o h;cases h
          | succ i=>exact hp i
        · cases i with
          | zero=>exact fun _=> .inl rfl
          | succ i =>
            cases j with
            | zero=>exact fun _=> .inr rfl
            | succ j=>exact hd i j (fun e=>hij (by rw [e]))
        · cases i with
          | zero=>exact fun _=> .inl rfl
          | succ i=>exact hdq i
      have:=own_alloc o2' 0 (.loop (recOf fn act.tmps ps asg b w.heap.size))
      rw [World.size_alloc] at this
      refine this.weaken fun k=> ?_
      cases k with
      | zero=>exact .inl rfl
      | succ k=>exact .inl rfl
    have o4:=Imp.swap (.blk (w.heap.size+1) (.loop (recOf fn act.tmps ps asg b w.heap.size)):: []) (.blk w.heap.size (.deferred (some []))::Hs) R _ o3
    have o5:=Imp.swap [.blk w.heap.size (.deferred (some []))] (Hs++ [.blk (w.heap.size+1) (.loop (recOf fn act.tmps ps asg b w.heap.size))]) R _ o4
    have o6:Own (ofList ((loopB (w.heap.size+1) (recOf fn act.tmps ps asg b w.heap.size)::Hs)++ [.blk w.heap.size (.deferred (some []))])) R ((w.alloc (.deferred (some []))).alloc (.loop (recOf fn act.tmps ps asg b w.heap.size))):=by
      refine (Imp.same fun p hp=> ?_) R _ o5
      obtain ⟨p1,p2,ha,hb,d,rfl⟩:=(sep_append _ _).1 hp
      exact (sep_append _ _).2 ⟨p1,p2,sep_swap ha,hb,d,rfl⟩
    have hcalls:CallsIn (FrR none) 0 P gf (#[.func (.yield (w.heap.size+1)) #[] #[]]++cap) ((w.alloc (.deferred (some []))).alloc (.loop (recOf fn act.tmps ps asg b w.heap.size))) _:=callsIn_of_calls (hc.calls R _ o6)
    refine hcalls.mono ?_
    rintro e w3 ⟨x,hx,rfl,ho3,he3⟩
    have hb3:=ho3.block (i:=0) rfl
    refine ⟨none,_,run_endLoop hb3 (by simp),rfl,rfl,w.heap.size,x,rfl,hx,?_,(((ext_alloc _ _).trans (ext_alloc _ _)).trans he3).trans (ext_put _ _ _)⟩
    have o7:=own_put (o' := .loop { recOf fn act.tmps ps asg b w.heap.size with state:= .exhausted }) ho3 (i:=0) rfl
    have o8:Own (ofList (us x++ [.blk w.heap.size (.deferred (some []))])) R (w3.putObj (w.heap.size+1) (.loop { recOf fn act.tmps ps asg b w.heap.size with state:= .exhausted })):=by
      have o9:Own (ofList (.blk (w.heap.size+1) (.loop { recOf fn act.tmps ps asg b w.heap.size with state:= .exhausted })::(us x++ [.blk w.heap.size (.deferred (some []))]))) R (w3.putObj (w.heap.size+1) (.loop { recOf fn act.tmps ps asg b w.heap.size with state:= .exhausted })):=o7.weaken fun k=>by
        cases k with
        | zero=>exact .inl rfl
        | succ k=>exact .inl rfl
      exact Imp.drop _ [_] R _ (Imp.swap [_] _ R _ o9)
    exact Imp.swap (us x) [.blk w.heap.size (.deferred (some []))] R _ o8
end Go.Sx
namespace Go.Sx
open Go.RowKit
theorem CallT.imp {P:Program} {f:FuncId} {args:Array Value} {Hs Ks:List Slot} {X Y:Type} {val:X->Value} {us:X->List Slot} {Φ:X->Prop} {val' :Y->Value} {us' :Y->List Slot} {Ψ:Y->Prop} (h:CallT P f args Hs X val us Φ) (hp:Imp Ks Hs)
    (hq: ∀x R w,Φ x->Own (ofList (us x)) R w-> ∃y,Ψ y/\val x=val' y/\Own (ofList (us' y)) R w):CallT P f args Ks Y val' us' Ψ:=
  ⟨h.enter,fun R w hw=>(h.calls R w (hp R w hw)).mono fun _ w' ⟨x,hx,he,ho,hext⟩=>let ⟨y,hy,hv,ho'⟩:=hq x R w' hx ho;⟨y,hy,hv▸he,ho',hext⟩⟩
end Go.Sx
namespace Go.Sx
open Go.RowKit
end Go.Sx
namespace Go.Sx
open Go.RowKit
def fl (l:List Value):List Value:=l.flatMap fun v=>v.cells.toList
theorem fl_append (a b:List Value):fl (a++b)=fl a++fl b:=by simp [fl]
def Ag (k:Nat) (v:Value):Prop:= ∃cs,v= .agg cs/\cs.size=k
theorem fl_cons (v:Value) (l:List Value):fl (v::l)=v.cells.toList++fl l:=by simp [fl]
theorem Ag.len {k:Nat} {v:Value} (h:Ag k v):v.cells.toList.length=k:=by obtain ⟨cs,rfl,h⟩:=h;simpa [Value.cells] using h
theorem Ag.eq {k:Nat} {v:Value} (h:Ag k v):v= .agg v.cells:=by obtain ⟨cs,rfl,h⟩:=h;rfl
theorem fl_length {k:Nat}: ∀ {l:List Value},(∀v∈l,Ag k v)->(fl l).length=l.length*k
  | [],_=>by simp [fl]
  | v :: l, h => by
    rw [fl_cons,List.length_append,(h v (List.mem_cons_self ..)).len,fl_length fun v hv=>h v (List.mem_cons_of_mem _ hv),List.length_cons,Nat.succ_mul,Nat.add_comm]
theorem fl_get {k : Nat} : ∀ {l : List Value} (_ : ∀ v ∈ l, Ag k v) {n : Nat} {x : Value} (_ : l[n]? = some x) {j : Nat} {c : Value} (_ : x.cells.toList[j]? = some c), (fl l)[n * k + j]? = some c
  | [],_,n,x,hn,_,_,_=>by simp at hn
  | v :: l, h, n, x, hn, j, c, hj => by
    have hv:=(h v (List.mem_cons_self ..)).len
    rw [fl_cons]
    cases n with
    | zero =>
      simp at hn;subst hn
      have:j<v.cells.toList.length:=by
        rcases Nat.lt_or_ge j v.cells.toList.length with q | q
        · exact q
        · rw [List.getElem?_eq_none q] at hj;cases hj
      rw [Nat.zero_mul,Nat.zero_add,List.getElem?_append_left this,hj]
    | succ n =>
      rw [List.getElem?_append_right (by rw [hv,Nat.succ_mul];omega),hv,show (n+1)*k+j - k=n*k+j by rw [Nat.succ_mul];omega]
      exact fl_get (fun v hv=>h v (List.mem_cons_of_mem _ hv)) (by simpa using hn) hj
theorem fl_chunk {k:Nat}: ∀ (n:Nat) (l:List Value),l.length=n*k-> ∃ex:List Value,ex.length=n/\fl ex=l/\ ∀v∈ex,Ag k v
  | 0, l, h => ⟨[], rfl, by cases l with
    | nil=>rfl
    | cons a l=>simp at h,fun v hv=>by cases hv⟩
  | n + 1, l, h => by
    rw [Nat.succ_mul] at h
    obtain ⟨ex,h1,h2,h3⟩:=fl_chunk (k:=k) n (l.drop k) (by rw [List.length_drop];omega)
    refine ⟨.agg (l.take k).toArray::ex,by simp [h1],?_,fun v hv=> ?_⟩
    · rw [fl_cons,h2];simp [Value.cells]
    · rcases List.mem_cons.1 hv with rfl | hv
      · exact ⟨_,rfl,by simp;omega⟩
      · exact h3 v hv
def Row.Ag (k:Nat):Row->Prop | .nil=>True | .mk _ vs ex=> ∀v∈vs++ex,Sx.Ag k v
def RK (k:Nat):= { r:Row//r.Ag k }
def RK.nil (k:Nat):RK k:=⟨.nil,trivial⟩
def sk (e:TypeId):Row->Slot
  | .nil=> .free
  | .mk b vs ex=> .blk b (.cells (fl (vs++ex)).toArray e (0,0))
structure SkT (P:Program) (t e:TypeId) (k:Nat) (z:Value):Prop where
  und:P.underlying t=some (.slice e)
  info: ∃i,P.info? e=some i/\i.zero=some z/\i.size=k/\i.bytes<=4096
  zc:z.cells.size=k
  agg: ∀w,(isAgg e).run P w= .ok true w
theorem SkT.of {P:Program} {t e:TypeId} {k:Nat} {z:Value} (h1:P.underlying t=some (.slice e)) (h3:(P.info? e).bind (·.zero)=some z) (h4:(P.info? e).map (fun i=>(i.size,Nat.ble i.bytes 4096))=some (k,true)) (h5:z.cells.size=k) (h6: ∀w,(isAgg e).run P w= .ok true w):SkT P t e k z:=by
  refine ⟨h1,?_,h5,h6⟩
  cases hi:P.info? e with
  | none=>rw [hi] at h3;cases h3
  | some i =>
    rw [hi] at h3 h4
    simp at h3 h4
    exact ⟨i,rfl,h3,h4.1,h4.2⟩
theorem SkT.size {P:Program} {t e:TypeId} {k:Nat} {z:Value} (h:SkT P t e k z) (w:World):(sizeOf e).run P w= .ok k w:=by
  obtain ⟨i,hi,hz,hs,hb⟩:=h.info
  simp [sizeOf,typeInfo,hi,hs]
theorem xlenK {P:Program} {t e:TypeId} {k:Nat} {z:Value} (h:SkT P t e k z) (ty:TypeId) (r:Row):PureRun P (do pure (.value (←Builtin.len_ #[t] ty #[sv r]))) (.int .i64 ((vlen (sv r):Nat):Int)):=by
  intro w
  cases r<;>simp [Builtin.len_,run_underlying h.und,sv,vlen,goInt]
def f_idxK (k:Nat):List Value->Value:=fun vs=> .pointer (some ⟨vblk (varg vs 0),(ci (varg vs 1)).toNat*k,none⟩)
theorem xidxK {P:Program} {t e:TypeId} {n:Nat} {z:Value} (h:SkT P t e n z) (r:Row) (k:IntKind) (i:Int) (h0:0<=i) (h1:i<((vals r).length:Nat)):
    PureRun P (do pure (.value (←Instr.indexAt t (sv r) (.int k i)))) (.pointer (some ⟨vblk (sv r),i.toNat*n,none⟩)):=by
  intro w
  cases r with
  | nil=>simp [vals] at h1;omega
  | mk b vs ex =>
    have hc:0<=i/\i<(vs.length:Int):=⟨h0,h1⟩
    simp [Instr.indexAt,run_underlying h.und,sv,asIntOf,hc,h.size w,vblk,Addr.add]
    omega
theorem xgetK {P:Program} {t e:TypeId} {k:Nat} {z:Value} (h:SkT P t e k z) (r:RK k) (n:Nat) (x:Value) (hx:(vals r.1)[n]? =some x):
    OpT P (do pure (.value (←Instr.loadAt e (.pointer (some ⟨vblk (sv r.1),n*k,none⟩))))) [sk e r.1] Unit (fun _=>x) (fun _=> [sk e r.1]) (fun _=>True):=by
  obtain ⟨r,hr⟩:=r
  intro R w ho
  cases r with
  | nil=>simp [vals] at hx
  | mk b vs ex =>
    have hb:=ho.block (i:=0) rfl
    simp only [vals] at hx
    have hn:n<vs.length:=by
      rcases Nat.lt_or_ge n vs.length with q | q
      · exact q
      · rw [List.getElem?_eq_none q] at hx;cases hx
    have hx' :(vs++ex)[n]? =some x:=by rw [List.getElem?_append_left hn,hx]
    have hA:=hr x (List.mem_of_getElem? hx')
    have hcell: ∀j c,x.cells.toList[j]? =some c->w.cell? ((⟨b,n*k,none⟩:Addr).add j)=some c:=fun j c hj=>by
      have e1:(⟨b,n*k,none⟩:Addr).add j=⟨b,n*k+j,none⟩:=Addr.add_lit ..
      rw [e1]
      have:=fl_get hr hx' hj
      simp [World.cell?,hb,this]
    have hrun:=run_loadCells_list (P:=P) w ⟨b,n*k,none⟩ x.cells.toList hcell
    rw [hA.len] at hrun
    refine ⟨(),w,trivial, .inl ?_,ho,Ext.refl w⟩
    obtain ⟨cs,rfl,hcs⟩:=hA
    simp [Instr.loadAt,Instr.sureAddr,vblk,sv,loadVar,Sem.run_bind,h.agg,h.size w,hrun,Value.cells]
def putAll (cs:Array Value) (o:Nat):List Value->Array Value
  | []=>cs
  | v::vs=>putAll (cs.setIfInBounds o v) (o+1) vs
theorem heap_setCells_same (b:Nat) (t:TypeId): ∀ (vs:List Value) (o:Nat) (w:World) (cs:Array Value),w.heap[b]? =some (.cells cs t (0,0))->(w.setCells b o vs).heap[b]? =some (.cells (putAll cs o vs) t (0,0))
  | [],_,_,_,h=>h
  | v::vs,o,w,cs,h=>heap_setCells_same b t vs (o+1) _ _ (heap_setCell_same w b o cs t v h)
theorem putAll_eq: ∀ (vs a m c:List Value),m.length=vs.length->putAll (a++m++c).toArray a.length vs=(a++vs++c).toArray
  | [], a, m, c, h => by
    have:m= []:=List.eq_nil_of_length_eq_zero h
    subst this;rfl
  | v :: vs, a, m, c, h => by
    cases m with
    | nil=>simp at h
    | cons x m =>
      simp only [putAll]
      have e:((a++x::m++c).toArray.setIfInBounds a.length v)=((a++ [v])++m++c).toArray:=by simp
      rw [e]
      have:=putAll_eq vs (a++ [v]) m c (by simpa using h)
      simp only [List.length_append,List.length_singleton] at this
      rw [this];simp
theorem heap_setCells_other' (b:Nat): ∀ (vs:List Value) (o:Nat) (w:World) (c:Nat),c≠b->(w.setCells b o vs).heap[c]? =w.heap[c]?
  | [],_,_,_,_=>rfl
  | v::vs,o,w,c,h=>(heap_setCells_other' b vs (o+1) _ c h).trans (heap_setCell_other w _ c v h)
theorem ext_setCells (b:Nat): ∀ (vs:List Value) (o:Nat) (w:World),Ext w (w.setCells b o vs)
  | [],_,w=>Ext.refl w
  | v::vs,o,w=>Ext.trans (b:=w.setCell ⟨b,o,none⟩ v) ⟨rfl,rfl,rfl,by simp,by first | exact Nat.le_refl _ | exact Nat.le_succ _ | simp⟩ (ext_setCells b vs (o+1) _)
theorem xappK {P : Program} {t e : TypeId} {k : Nat} {z : Value} (h : SkT P t e k z) (ty : TypeId) (r : RK k) (hl : (vals r.1).length <= 1073741824) (c m : Nat) (x : Value) (hx : Ag k x) (h2 : ∀ u ∈ x.cells.toList, u.oneCell' = true) :
    OpT P (do pure (.value (←Builtin.append_ #[t,t] ty #[sv r.1, .slice (some ⟨c,0,none⟩) 1 m]))) [sk e r.1, .blk c (.cells x.cells e (0,0))] (RK k) (fun y=>sv y.1) (fun y=> [sk e y.1, .blk c (.cells x.cells e (0,0))]) (fun y=>vals y.1=vals r.1++ [x]):=by
  obtain ⟨r,hr⟩:=r
  intro R w h0
  obtain ⟨i,hi,hz,hs,hby⟩:=h.info
  have hc:=h0.block (i:=1) rfl
  have hxl:=hx.len
  have hnews: ∀j u,x.cells.toList[j]? =some u->w.cell? ((⟨c,0,none⟩:Addr).add j)=some u:=by
    intro j u hu
    have e1:(⟨c,0,none⟩:Addr).add j=⟨c,0+j,none⟩:=Addr.add_lit ..
    rw [e1,Nat.zero_add]
    simpa [World.cell?,hc] using hu
  have upd1: ∀ (s:Slot),upd (ofList [sk e r, .blk c (.cells x.cells e (0,0))]) 0 s=ofList [s, .blk c (.cells x.cells e (0,0))]:=by
    intro s;funext i
    cases i with
    | zero=>rfl
    | succ i=>cases i<;>rfl
  have fresh: ∀ (o:Obj),Own (ofList [.blk w.heap.size o, .blk c (.cells x.cells e (0,0))]) R (w.drew.alloc o):=by
    intro o
    have:=h0.new (w' :=w.drew.alloc o) (i:=0) (o:=o) (heap_alloc_new w.drew o) (fun c hc=>heap_alloc_old w.drew o c hc)
    rw [upd1] at this
    exact this
  have ext: ∀ (o:Obj),Ext w (w.drew.alloc o):=fun o=>⟨rfl,rfl,rfl,by simp,by first | exact Nat.le_refl _ | exact Nat.le_succ _ | simp⟩
  have zl: ∀n,∃ex:List Value,ex.length=n/\fl ex=(Builtin.zeroCells z.cells n).toList/\ ∀v∈ex,Ag k v:=by
    intro n
    exact fl_chunk n _ (by rw [Array.length_toList,size_zeroCells,h.zc])
  cases r with
  | nil =>
    have hrn:=run_append_nil (P:=P) w t ty e i z h.und hi hz ⟨c,0,none⟩ 1 m x.cells.toList (by rw [hs,hxl,Nat.one_mul]) hnews (by decide) (by decide) (by omega)
    obtain ⟨ex,he,hf,hA⟩:=zl (grownCap w 1 0 e - 1)
    have hge:=grownCap_ge w 1 0 e
    have ef:fl ([x]++ex)=x.cells.toList++(Builtin.zeroCells z.cells (grownCap w 1 0 e - 1)).toList:=by rw [fl_append,hf,fl_cons];simp [fl]
    refine ⟨⟨.mk w.heap.size [x] ex,fun v hv=>by
      rcases List.mem_append.1 hv with hv | hv
      · simp at hv;subst hv;exact hx
      · exact hA v hv⟩,_,rfl, .inl ?_,?_,ext (.cells (fl ([x]++ex)).toArray e)⟩
    · simp only [sv]
      show (Sem.run P (Builtin.append_ _ _ _>>=_) w)=_
      rw [Sem.run_bind,hrn]
      have:1+ex.length=grownCap w 1 0 e:=by omega
      have e2:(x.cells.toList.toArray++Builtin.zeroCells z.cells (grownCap w 1 0 e - 1))=(fl ([x]++ex)).toArray:=by rw [ef];apply Array.ext';simp
      rw [e2]
      simp [this,Result.andThen]
    · exact fresh (.cells (fl ([x]++ex)).toArray e)
  | mk b vs ex =>
    simp only [vals] at hl
    have hb:=h0.block (i:=0) rfl
    have hA: ∀v∈vs++ex,Ag k v:=hr
    have hv1: ∀v∈vs,Ag k v:=fun v hv=>hA v (List.mem_append_left _ hv)
    have hv2: ∀v∈ex,Ag k v:=fun v hv=>hA v (List.mem_append_right _ hv)
    have hbb:w.heap[b]? =some (.cells (fl (vs++ex)).toArray e (0,0)):=hb
    by_cases hroom:vs.length+1<=vs.length+ex.length
    · cases ex with
      | nil=>exact absurd hroom (by simp)
      | cons e0 ex =>
        have he0:=(hv2 e0 (List.mem_cons_self ..)).len
        have hcell: ∀j,j<x.cells.toList.length->(w.cell? ⟨b,0+vs.length*i.size+j,none⟩).isSome=true:=by
          intro j hj
          rw [hs,Nat.zero_add]
          have hlen:vs.length*k+j<(fl (vs++e0::ex)).length:=by
            rw [fl_length hA,List.length_append,List.length_cons,Nat.add_mul,Nat.succ_mul];omega
          simp [World.cell?,hbb,List.getElem?_eq_getElem hlen]
        have hrn:=run_append_room_cells (P:=P) w t ty e i h.und hi b 0 vs.length (vs.length+(e0::ex).length) ⟨c,0,none⟩ 1 m x.cells.toList (by rw [hs,hxl,Nat.one_mul]) hnews h2 hroom hcell (fun j hj=>frozen_of_row w b _ _ e hbb)
        rw [hs,Nat.zero_add] at hrn
        have hh:=heap_setCells_same b e x.cells.toList (vs.length*k) w _ hbb
        have hset:putAll (fl (vs++e0::ex)).toArray (vs.length*k) x.cells.toList=(fl (vs++ [x]++ex)).toArray:=by
          have:=putAll_eq x.cells.toList (fl vs) e0.cells.toList (fl ex) (by rw [he0,hxl])
          rw [fl_length hv1] at this
          rw [show fl (vs++e0::ex)=fl vs++e0.cells.toList++fl ex by rw [fl_append,fl_cons,List.append_assoc],this,fl_append,fl_append]
          simp [fl]
        rw [hset] at hh
        refine ⟨⟨.mk b (vs++ [x]) ex,fun v hv=>by
          rcases List.mem_append.1 hv with hv | hv
          · rcases List.mem_append.1 hv with hv | hv
            · exact hv1 v hv
            · simp at hv;subst hv;exact hx
          · exact hv2 v (List.mem_cons_of_mem _ hv)⟩,w.setCells b (vs.length*k) x.cells.toList,rfl, .inl ?_,?_,ext_setCells b _ _ w⟩
        · simp only [sv]
          rw [Sem.run_bind,hrn]
          simp [Nat.add_comm,Nat.add_left_comm,Result.andThen]
        · have:=h0.set (i:=0) (b:=b) rfl hh (fun c hc=>heap_setCells_other' b _ _ w c hc)
          rw [upd1] at this
          exact this
    · have hex:ex= []:=by cases ex with
        | nil=>rfl
        | cons a l=>simp at hroom
      subst hex
      have holds: ∀j u,(fl vs)[j]? =some u->w.cell? ((⟨b,0,none⟩:Addr).add j)=some u:=by
        intro j u hu
        have:(⟨b,0,none⟩:Addr).add j=⟨b,0+j,none⟩:=Addr.add_lit ..
        rw [this]
        simp only [List.append_nil] at hbb
        simp [World.cell?,hbb,hu]
      have hfit:Builtin.nextslicecap (vs.length+1) (vs.length+([]:List Value).length)*i.bytes<=281474976710656:=by
        refine growslice_fits (by simp) ?_
        have:(vs.length+1)*i.bytes<=1073741825*4096:=Nat.mul_le_mul (by omega) hby
        omega
      have hrn:=run_append_grow (P:=P) w t ty e i z h.und hi hz ⟨b,0,none⟩ vs.length (vs.length+([]:List Value).length) (fl vs) (by rw [hs,fl_length hv1]) holds ⟨c,0,none⟩ 1 m x.cells.toList (by rw [hs,hxl,Nat.one_mul]) hnews (by simp) (by omega) hfit
      obtain ⟨ex,he,hf,hA2⟩:=zl (grownCap w (vs.length+1) (vs.length+([]:List Value).length) e - (vs.length+1))
      have hge:=grownCap_ge w (vs.length+1) (vs.length+([]:List Value).length) e
      have ef:(fl vs).toArray++x.cells.toList.toArray++Builtin.zeroCells z.cells (grownCap w (vs.length+1) (vs.length+([]:List Value).length) e - (vs.length+1))=(fl (vs++ [x]++ex)).toArray:=by
        rw [fl_append,fl_append,hf];apply Array.ext';simp [fl]
      rw [ef] at hrn
      refine ⟨⟨.mk w.heap.size (vs++ [x]) ex,fun v hv=>by
          rcases List.mem_append.1 hv with hv | hv
          · rcases List.mem_append.1 hv with hv | hv
            · exact hv1 v hv
            · simp at hv;subst hv;exact hx
          · exact hA2 v hv⟩,w.drew.alloc (.cells (fl (vs++ [x]++ex)).toArray e),rfl, .inl ?_,fresh _,ext _⟩
      simp only [sv]
      rw [Sem.run_bind,hrn]
      have e1:(vs++ [x]).length=vs.length+1:=by simp
      have e2:(vs++ [x]).length+ex.length=grownCap w (vs.length+1) (vs.length+([]:List Value).length) e:=by rw [e1];omega
      rw [e2,e1];rfl
end Go.Sx
namespace Go.Sx
open Go.RowKit Go.Proofs Go.Shelf
end Go.Sx
namespace Go.Sx
open Go.RowKit
def vdrop (v:Value) (m:Nat):Value:=match v with | .slice a l c=>sliced a m l c 1 | v=>v
theorem vlen_drop (r:Row) (m:Nat):vlen (vdrop (sv r) m)=(vals r).length - m:=by cases r<;>simp [vdrop,sv,sliced,vlen,vals]
theorem xdrop {P:Program} {t e:TypeId} {z:Value} (h:SlT P t e z) (r:Row) (k:IntKind) (n:Int) (h0:0<=n) (h1:n<=((vals r).length:Nat)):
    PureRun P (do pure (.value (←Instr.sliceAt t (sv r) (some (.int k n)) none none))) (vdrop (sv r) n.toNat):=by
  intro w
  have hu:P.underlying t=some (.slice (P.elem t)):=by rw [h.elem];exact h.und
  have hs:=h.size w
  rw [←h.elem] at hs
  have key: ∀ (a:Option Addr) (l c:Nat),sv r= .slice a l c->n<=(l:Int)->(Instr.sliceAt t (sv r) (some (.int k n)) none none).run P w= .ok (vdrop (sv r) n.toNat) w:=by
    intro a l c hv hc
    rw [hv,run_sliceAt_slice w t _ _ _ _ hu,run_slice_l w t a l c hu k n h0 hc,hs]
    rfl
  have hk:(Instr.sliceAt t (sv r) (some (.int k n)) none none).run P w= .ok (vdrop (sv r) n.toNat) w:=by
    cases r with
    | nil=>exact key none 0 0 rfl h1
    | mk b vs ex=>exact key _ _ _ rfl h1
  rw [Sem.run_bind,hk];rfl
theorem xdlen {P:Program} {t e:TypeId} {z:Value} (h:SlT P t e z) (ty:TypeId) (r:Row) (m:Nat):PureRun P (do pure (.value (←Builtin.len_ #[t] ty #[vdrop (sv r) m]))) (.int .i64 ((vlen (vdrop (sv r) m):Nat):Int)):=by
  intro w
  cases r<;>simp [Builtin.len_,run_underlying h.und,sv,vdrop,sliced,vlen,goInt]
theorem xdidx {P:Program} {t e:TypeId} {z:Value} (h:SlT P t e z) (r:Row) (m:Nat) (k:IntKind) (i:Int) (h0:0<=i) (h1:i<((vlen (vdrop (sv r) m):Nat):Int)):
    PureRun P (do pure (.value (←Instr.indexAt t (vdrop (sv r) m) (.int k i)))) (.pointer (some ⟨vblk (sv r),m+i.toNat,none⟩)):=by
  intro w
  rw [vlen_drop] at h1
  cases r with
  | nil=>simp [vals] at h1;omega
  | mk b vs ex =>
    simp only [vals] at h1
    have hm:vs.length+ex.length≠m:=by omega
    have hc:0<=i/\i<((vs.length - m:Nat):Int):=⟨h0,h1⟩
    simp [Instr.indexAt,run_underlying h.und,sv,vdrop,sliced,hm,asIntOf,hc,h.size w,vblk,Addr.add]
    by_cases hm0:m=0<;>by_cases hi:i<=0<;>simp [hm0,hi]<;>omega
theorem cells_vdrop (r:Row) (m:Nat):(vdrop (sv r) m).cells= #[vdrop (sv r) m]:=by cases r<;>rfl
theorem cells_vtake (r:Row) (m:Nat):(vtake (sv r) m).cells= #[vtake (sv r) m]:=by cases r<;>rfl
theorem one_vtake (r:Row) (m:Nat):(vtake (sv r) m).oneCell' =true:=by cases r<;>rfl
theorem getD_some {l:List Value} {n:Nat} (h:n<l.length):l[n]? =some (l.getD n undef):=by
  rw [List.getD_eq_getElem?_getD,List.getElem?_eq_getElem h];rfl
def bunL (l:List Slot):Slot:=bun [] .none (fun _:Unit=>l)
theorem bunL_shut (l k:List Slot):Imp (l++k) (bunL l::k):=bun_shut (F:=fun _:Unit=>l) () k
theorem bunL_open (l k:List Slot):Imp (bunL l::k) (l++k):=fun _ _ h=>(bun_open h).choose_spec
theorem sep_perm {a b:List Slot} (h:a.Perm b): ∀p,SepL a p->SepL b p:=by
  induction h with
  | nil=>exact fun _ h=>h
  | cons x _ ih=>exact fun _ ⟨p,q,hs,hl,d,e⟩=>⟨p,q,hs,ih q hl,d,e⟩
  | swap x y l =>
    intro h hs
    have h1:SepL ([y]++([x]++l)) h:=hs
    have h2:=sep_mid (a:= [x]) (b:= [y]) (c:=l) |>.2 h1
    exact h2
  | trans _ _ ih1 ih2=>exact fun p h=>ih2 p (ih1 p h)
theorem Imp.perm {a b:List Slot} (h:a.Perm b):Imp a b:= .same (sep_perm h)
abbrev MS3:=MK×Nat×KV
def mSs (bj:Nat) (Ms:List MS3):List Slot:=Ms.map fun x=>mS x.1 x.2.1 bj x.2.2
noncomputable def Ent.undo (e:Ent) (m:KV):KV:=match e.was with | some v=>mset m e.key v | none=>mdel m e.key
noncomputable def undo1 (e:Ent) (Ms:List MS3):List MS3:=Ms.map fun x=>if x.2.1=e.b then (x.1,x.2.1,e.undo x.2.2) else x
noncomputable def undoAll (E:List Ent) (Ms:List MS3):List MS3:=E.foldr undo1 Ms
structure EOK (P:Program) (bj:Nat) (K:MK) (e:Ent):Prop where
  call: ∀ (a:N4) (m:KV),CallT P e.g #[ptr a.1,ptr a.2.1,ptr a.2.2.1,ptr a.2.2.2] (mS K e.b bj m::e.sl a) Unit (fun _=>undef) (fun _=>mS K e.b bj (e.undo m)::e.sl a) (fun _=>True)
theorem undo1_ks (e:Ent) (Ms:List MS3):(undo1 e Ms).map (fun x=>(x.1,x.2.1))=Ms.map (fun x=>(x.1,x.2.1)):=by
  unfold undo1
  rw [List.map_map]
  refine List.map_congr_left fun x _=> ?_
  simp only [Function.comp]
  split<;>rfl
theorem undoAll_ks (E:List Ent) (Ms:List MS3):(undoAll E Ms).map (fun x=>(x.1,x.2.1))=Ms.map (fun x=>(x.1,x.2.1)):=by
  unfold undoAll
  induction E with
  | nil=>rfl
  | cons e E ih=>rw [List.foldr_cons,undo1_ks];exact ih
theorem ks_blocks {Ms Ms' :List MS3} (h:Ms.map (fun x=>(x.1,x.2.1))=Ms'.map (fun x=>(x.1,x.2.1))):Ms.map (·.2.1)=Ms'.map (·.2.1):=by
  have:=congrArg (List.map (·.2)) h
  rw [List.map_map,List.map_map] at this
  exact this
theorem undo1_split {e:Ent} {p q:List MS3} {y:MS3} (hy:y.2.1=e.b) (hn:((p++y::q).map (·.2.1)).Nodup):undo1 e (p++y::q)=p++(y.1,e.b,e.undo y.2.2)::q:=by
  rw [List.map_append,List.map_cons,List.nodup_append] at hn
  obtain ⟨_,h2,h3⟩:=hn
  have h4:=(List.nodup_cons.1 h2).1
  unfold undo1
  rw [List.map_append,List.map_cons,if_pos hy,hy]
  congr 1
  · rw [List.map_congr_left (g:=id),List.map_id]
    intro x hx
    rw [if_neg];rfl
    intro he
    exact h3 x.2.1 (List.mem_map_of_mem hx) y.2.1 (List.mem_cons_self ..) (he.trans hy.symm)
  · congr 1
    rw [List.map_congr_left (g:=id),List.map_id]
    intro x hx
    rw [if_neg];rfl
    intro he
    exact h4 (by rw [hy,←he];exact List.mem_map_of_mem hx)
theorem zip_split: ∀ {E:List Ent} {A:List N4},A.length=E.length-> ∀ (x:Nat) (h:x<E.length) (h' :x<A.length),∃u v,ents E A=u++(E[x].sl A[x]++v)
  | e::E,a::A,hl,0,_,_=>⟨[],ents E A,by simp [ents]⟩
  | e :: E, a :: A, hl, x + 1, h, h' => by
    obtain ⟨u,v,huv⟩:=zip_split (E:=E) (A:=A) (by simpa using hl) x (by simpa using h) (by simpa using h')
    exact ⟨e.sl a++u,v,by
      have:ents (e::E) (a::A)=e.sl a++ents E A:=by simp [ents]
      rw [this,huv];simp⟩
noncomputable def stepT (bj:Nat) (Ms:List MS3) (E:List Ent) (A:List N4) (x:Nat):List Slot:=mSs bj (undoAll (E.drop x) Ms)++ents E A
theorem step_call {P:Program} {bj:Nat} {Ms:List MS3} {E:List Ent} {A:List N4} (hl:A.length=E.length) (hn:(Ms.map (·.2.1)).Nodup) (hE: ∀e∈E,∃y∈Ms,y.2.1=e.b/\EOK P bj y.1 e)
    {x:Nat} (h0:0<x) (hx:x<=E.length): ∃e a,E[x - 1]? =some e/\A[x - 1]? =some a/\
      CallT P e.g #[ptr a.1,ptr a.2.1,ptr a.2.2.1,ptr a.2.2.2] [bunL (stepT bj Ms E A x)] Unit (fun _=>undef) (fun _=> [bunL (stepT bj Ms E A (x - 1))]) (fun _=>True):=by
  have h1:x - 1<E.length:=by omega
  have h2:x - 1<A.length:=by omega
  refine ⟨E[x - 1],A[x - 1],List.getElem?_eq_getElem h1,List.getElem?_eq_getElem h2,?_⟩
  obtain ⟨y0,hy0,hb,hok⟩:=hE E[x - 1] (List.getElem_mem h1)
  have hks:=undoAll_ks (E.drop x) Ms
  have hmem:(y0.1,y0.2.1)∈(undoAll (E.drop x) Ms).map (fun x=>(x.1,x.2.1)):=by rw [hks];exact List.mem_map_of_mem hy0
  obtain ⟨y,hy,hyk⟩:=List.mem_map.1 hmem
  obtain ⟨hy1,hy2⟩:y.1=y0.1/\y.2.1=y0.2.1:=by simpa using hyk
  obtain ⟨p,q,hpq⟩:=List.append_of_mem hy
  have hnd:((p++y::q).map (·.2.1)).Nodup:=by rw [←hpq,ks_blocks hks];exact hn
  obtain ⟨u,v,huv⟩:=zip_split hl (x - 1) h1 h2
  have hyb:y.2.1=E[x - 1].b:=hy2.trans hb
  have hstep:undoAll (E.drop (x - 1)) Ms=p++(y.1,E[x - 1].b,E[x - 1].undo y.2.2)::q:=by
    have:E.drop (x - 1)=E[x - 1]::E.drop x:=by
      rw [List.drop_eq_getElem_cons h1];congr 2;omega
    rw [this]
    show undo1 _ (undoAll (E.drop x) Ms)=_
    rw [hpq];exact undo1_split hyb hnd
  have c:=((hok.call A[x - 1] y.2.2).frame (mSs bj p++mSs bj q++u++v))
  rw [←hy1] at c
  refine c.conv ?_ fun _ _=> ?_
  · refine (bunL_open _ []).trans (Imp.perm ?_)
    unfold stepT
    rw [hpq,huv]
    have:mSs bj (p++y::q)=mSs bj p++(mS y.1 E[x - 1].b bj y.2.2::mSs bj q):=by simp [mSs,hyb]
    rw [this,List.append_nil]
    classical
    rw [List.perm_iff_count]
    intro s
    simp only [List.count_append,List.count_cons]
    omega
  · refine Imp.trans (Imp.perm ?_) (bunL_shut _ [])
    unfold stepT
    rw [hstep,huv]
    have:mSs bj (p++(y.1,E[x - 1].b,E[x - 1].undo y.2.2)::q)=mSs bj p++(mS y.1 E[x - 1].b bj (E[x - 1].undo y.2.2)::mSs bj q):=by simp [mSs]
    rw [this,List.append_nil]
    classical
    rw [List.perm_iff_count]
    intro s
    simp only [List.count_append,List.count_cons]
    omega
theorem mS_block {K:MK} {b bj:Nat} {m:KV} {h:Hl} (hs:(mS K b bj m).sat h):h b≠none:=by
  obtain ⟨r,hr⟩:=hs
  obtain ⟨p,q,⟨hp,_⟩,_,_,rfl⟩:=hr
  rw [un_left hp];simp
theorem mSs_nodup {bj:Nat}: ∀ {Ms:List MS3} {h:Hl},SepL (mSs bj Ms) h->(Ms.map (·.2.1)).Nodup/\ ∀x∈Ms,h x.2.1≠none
  | [],_,_=>⟨List.nodup_nil,fun _ h=>by cases h⟩
  | y :: Ms, h, ⟨p, q, hs, hl, d, e⟩ => by
    obtain ⟨h1,h2⟩:=mSs_nodup hl
    have hp:=mS_block hs
    subst e
    refine ⟨?_,fun x hx=> ?_⟩
    · rw [List.map_cons,List.nodup_cons]
      refine ⟨fun hm=> ?_,h1⟩
      obtain ⟨x,hx,hb⟩:=List.mem_map.1 hm
      rcases d y.2.1 with k | k
      · exact hp k
      · exact h2 x hx (by rw [hb];exact k)
    · intro hnone
      obtain ⟨k1,k2⟩:=un_none_iff.1 hnone
      rcases List.mem_cons.1 hx with rfl | hx
      · exact hp k1
      · exact h2 x hx k2
end Go.Sx
namespace Go.Sx
open Go.RowKit
def pk {Y:Type} (G:Y->List Slot) (ok:Y->Prop):Slot:=bun [] .none (fun y=>G y++ [pur (ok y)])
theorem pk_shut {Y:Type} {G:Y->List Slot} {ok:Y->Prop} {y:Y} (h:ok y) (l:List Slot):Imp (G y++l) (pk G ok::l):=by
  refine Imp.trans (.same fun p hp=> ?_) (bun_shut (F:=fun y=>G y++ [pur (ok y)]) y l)
  obtain ⟨p1,p2,ha,hb,d,rfl⟩:=(sep_append _ _).1 hp
  exact (sep_append _ _).2 ⟨p1,p2,sep_pur.2 ⟨ha,h⟩,hb,d,rfl⟩
theorem pk_open {Y:Type} {G:Y->List Slot} {ok:Y->Prop} {l:List Slot} {R:HP} {w:World} (h:Own (ofList (pk G ok::l)) R w): ∃y,ok y/\Own (ofList (G y++l)) R w:=by
  obtain ⟨y,hr⟩:=bun_open h
  obtain ⟨p,q,hp,hq,hw,hqw,d⟩:=own_sep.1 hr
  obtain ⟨p1,p2,ha,hb,d2,rfl⟩:=(sep_append _ _).1 hp
  obtain ⟨ha',hk⟩:=sep_pur.1 ha
  exact ⟨y,hk,own_sep.2 ⟨_,q,(sep_append _ _).2 ⟨p1,p2,ha',hb,d2,rfl⟩,hq,hw,hqw,d⟩⟩
theorem imp_tails: ∀ (Hs:List Slot) {a b:List Slot},Imp a b->Imp (Hs++a) (Hs++b)
  | [],_,_,h=>h
  | _::Hs,_,_,h=>Imp.tail _ (imp_tails Hs h)
theorem getD_mem {l:List Value} {i:Nat} {d:Value} (h:i<l.length):l.getD i d∈l:=by
  rw [List.getD_eq_getElem?_getD,List.getElem?_eq_getElem h];exact List.getElem_mem h
end Go.Sx
namespace Go.Sx
open Go.RowKit
def rdK (k:Nat) (cs:Array Value) (o:Nat):Value:= .agg ((cs.toList.drop o).take k).toArray
theorem fl_drop {k:Nat}: ∀ {l:List Value} (_: ∀v∈l,Ag k v) (n:Nat),(fl l).drop (n*k)=fl (l.drop n)
  | [],_,n=>by simp [fl]
  | v::l,h,0=>by simp
  | v :: l, h, n + 1 => by
    rw [fl_cons,List.drop_succ_cons,←fl_drop (fun v hv=>h v (List.mem_cons_of_mem _ hv)) n,List.drop_append,(h v (List.mem_cons_self ..)).len]
    have h1:v.cells.toList.drop ((n+1)*k)= []:=List.drop_eq_nil_of_le (by rw [(h v (List.mem_cons_self ..)).len,Nat.succ_mul];omega)
    rw [h1,List.nil_append,Nat.succ_mul,Nat.add_sub_cancel]
theorem rdK_fl {k:Nat} {l:List Value} (h: ∀v∈l,Ag k v) {n:Nat} {x:Value} (hx:l[n]? =some x):rdK k (fl l).toArray (n*k)=x:=by
  have hd:l.drop n=x::l.drop (n+1):=by
    have hlt:n<l.length:=by
      rcases Nat.lt_or_ge n l.length with q | q
      · exact q
      · rw [List.getElem?_eq_none q] at hx;cases hx
    rw [List.getElem?_eq_getElem hlt] at hx
    injection hx with hx
    rw [←hx];exact List.drop_eq_getElem_cons hlt
  have hA:=h x (List.mem_of_getElem? hx)
  unfold rdK
  rw [List.toList_toArray,fl_drop h,hd,fl_cons,List.take_append_of_le_length (by rw [hA.len];exact Nat.le_refl _)]
  obtain ⟨cs,rfl,hcs⟩:=hA
  have:(cs.toList).length<=k:=by simp [hcs]
  simp only [Value.cells]
  rw [List.take_of_length_le this]
def kvals (k:Nat) (v:Value) (s:Slot):List Value:=(List.range (vlen v)).map fun i=>rdK k (scells s) (i*k)
theorem kvals_eq {k:Nat} (r:RK k) (e:TypeId):kvals k (sv r.1) (sk e r.1)=vals r.1:=by
  obtain ⟨r,hr⟩:=r
  cases r with
  | nil=>rfl
  | mk b vs ex =>
    unfold kvals
    apply List.ext_getElem?
    intro i
    simp only [sv,vlen,sk,scells,vals]
    rcases Nat.lt_or_ge i vs.length with q | q
    · have hx:(vs++ex)[i]? =some vs[i]:=by rw [List.getElem?_append_left q,List.getElem?_eq_getElem q]
      rw [List.getElem?_map,List.getElem?_range q,Option.map_some,rdK_fl hr hx,List.getElem?_eq_getElem q]
    · rw [List.getElem?_eq_none (by simpa using q),List.getElem?_eq_none q]
def F_appK (k:Nat) (e:TypeId):List Value->List Slot->Ctr:=fun vs hs=>⟨RK k,fun y=>sv y.1,fun y=> [sk e y.1,sarg hs 1],fun y=>vals y.1=kvals k (varg vs 0) (sarg hs 0)++ [.agg (scells (sarg hs 1))]⟩
theorem xappendK {P:Program} {t e:TypeId} {k:Nat} {z:Value} (h:SkT P t e k z) (ty:TypeId) (r:RK k) (hl:(vals r.1).length<=1073741824) (c m:Nat) (cs:Array Value) (hx:cs.size=k) (h2: ∀u∈cs.toList,u.oneCell' =true):
    OpT P (do pure (.value (←Builtin.append_ #[t,t] ty #[sv r.1, .slice (some ⟨c,0,none⟩) 1 m]))) [sk e r.1, .blk c (.cells cs e (0,0))] (RK k) (fun y=>sv y.1) (fun y=> [sk e y.1, .blk c (.cells cs e (0,0))]) (fun y=>vals y.1=kvals k (sv r.1) (sk e r.1)++ [.agg cs]):=by
  rw [kvals_eq]
  exact xappK h ty r hl c m (.agg cs) ⟨cs,rfl,hx⟩ h2
theorem wit_appK {k:Nat} {l:List Value} {cs:Array Value} (hl: ∀v∈l,Ag k v) (hx:cs.size=k): ∃y:RK k,(fun y:RK k=>vals y.1=l++ [.agg cs]) y:=
  ⟨⟨.mk 0 (l ++ [.agg cs]) [], fun v hv => by
    simp only [List.append_nil] at hv
    rcases List.mem_append.1 hv with h | h
    · exact hl v h
    · simp at h;subst h;exact ⟨cs,rfl,hx⟩⟩,rfl⟩
theorem RK.all {k:Nat} (r:RK k): ∀v∈vals r.1,Ag k v:=by
  obtain ⟨r,hr⟩:=r
  cases r with
  | nil=>intro v hv;cases hv
  | mk b vs ex=>exact fun v hv=>hr v (List.mem_append_left _ hv)
theorem kvals_all {k:Nat} (r:RK k) (e:TypeId): ∀v∈kvals k (sv r.1) (sk e r.1),Ag k v:=by rw [kvals_eq];exact r.all
def F_getK (k:Nat) {X:Type} (val:X->Value):List Value->List Slot->Ctr:=fun vs hs=>⟨X,val,fun _=>hs,fun zx=>rdK k (scells (sarg hs 0)) (voff (varg vs 0))=val zx⟩
theorem rdK_row {k:Nat} (r:RK k) (e:TypeId) {n:Nat} {x:Value} (hx:(vals r.1)[n]? =some x):rdK k (scells (sk e r.1)) (n*k)=x:=by
  obtain ⟨r,hr⟩:=r
  cases r with
  | nil=>simp [vals] at hx
  | mk b vs ex =>
    simp only [vals] at hx
    have hn:n<vs.length:=by
      rcases Nat.lt_or_ge n vs.length with q | q
      · exact q
      · rw [List.getElem?_eq_none q] at hx;cases hx
    exact rdK_fl hr (by rw [List.getElem?_append_left hn,hx])
theorem xgetKV {P:Program} {t e:TypeId} {k:Nat} {z:Value} (h:SkT P t e k z) {X:Type} (val:X->Value) (r:RK k) (n:Nat) (hx: ∃x0,(vals r.1)[n]? =some (val x0)):
    OpT P (do pure (.value (←Instr.loadAt e (.pointer (some ⟨vblk (sv r.1),n*k,none⟩))))) [sk e r.1] X val (fun _=> [sk e r.1]) (fun x=>rdK k (scells (sk e r.1)) (n*k)=val x):=by
  obtain ⟨x0,hx⟩:=hx
  intro R w ho
  obtain ⟨_,w',_,hr,ho',he⟩:=xgetK h r n (val x0) hx R w ho
  exact ⟨x0,w',rdK_row r e hx,hr,ho',he⟩
theorem wgetKV {e:TypeId} {k:Nat} {X:Type} {val:X->Value} {r:RK k} {n:Nat} (hx: ∃x0,(vals r.1)[n]? =some (val x0)): ∃x,(fun x=>rdK k (scells (sk e r.1)) (n*k)=val x) x:=
  let ⟨x0,h⟩:=hx;⟨x0,rdK_row r e h⟩
theorem egetKV {e:TypeId} {k:Nat} {X:Type} {val:X->Value} {r:RK k} {n:Nat} (hx: ∃x0,(vals r.1)[n]? =some (val x0)) {x:X} (h:rdK k (scells (sk e r.1)) (n*k)=val x):(vals r.1)[n]? =some (val x):=by
  obtain ⟨x0,h0⟩:=hx
  rw [←h,rdK_row r e h0];exact h0
theorem int_at {kk:IntKind} {l:List Value} (h: ∀v∈l,∃n:Int,v= .int kk n) {n:Nat} (hn:n<l.length): ∃x:Int,l[n]? =some (.int kk x):=by
  obtain ⟨x,hx⟩:=h _ (List.getElem_mem hn)
  exact ⟨x,by rw [List.getElem?_eq_getElem hn,hx]⟩
abbrev p2V (x:Int×Int):Value:= .agg #[.int .i64 x.1, .int .i64 x.2]
noncomputable def pairsOf (z:Value) (m:KV) (l:List Value):List Value:=l.map fun k=> .agg #[k,(mget m k).getD z]
theorem kok_val {K:MK} {m:KV} (hk:KOK K m) {z:Value} (hz:K.OkV z) (k:Value):K.OkV ((mget m k).getD z):=by
  cases hg:mget m k with
  | none=>exact hz
  | some v=>exact (hk.ok _ (mget_mem hg)).2
end Go.Sx
namespace Go.Sx
open Go.RowKit Go.Sort Go.Proofs Go.Shelf
theorem own_ne2 {a b:Nat} {o o' :Obj} {s:List Slot} {R:HP} {w:World} {i j:Nat} {H:Hp} (h:Own H R w) (hij:i≠j) (ha:H i= .blk a o) (hb:H j= .blk b o'):a≠b:=by
  obtain ⟨p,q,hs,_,_,_,hd,_⟩:=h
  intro e
  subst e
  have h1:=hs i
  have h2:=hs j
  rw [ha] at h1
  rw [hb] at h2
  rcases hd i j hij a with h | h
  · rw [h1.1] at h;cases h
  · rw [h2.1] at h;cases h
def SortedBy (cf:Int->Int->Int) (l:List Value):Prop:=l.Pairwise fun a b=>ltOf cf (ci b) (ci a)=false
end Go.Sx
namespace Go.Sx
open Go.RowKit Go.Sort Go.Proofs Go.Shelf
def cmpI (x y:Int):Int:=if x<y then -1 else if y<x then 1 else 0
theorem ltI (x y:Int):ltOf cmpI x y=decide (x<y):=by
  unfold ltOf cmpI
  by_cases h1:x<y
  · simp [h1]
  · by_cases h2:y<x<;>simp [h1,h2]
theorem sort_wit {e:TypeId} (y:Row): ∃z:Row,(fun z=>sv z=sv y/\(vals z).Perm (rvals (sv y) (ss e y))/\SortedBy cmpI (vals z)) z:=by
  rw [rvals_eq]
  have hp:=List.mergeSort_perm (vals y) (fun a b=> !(ltOf cmpI (ci b) (ci a)))
  have hs:SortedBy cmpI ((vals y).mergeSort fun a b=> !(ltOf cmpI (ci b) (ci a))):=by
    have:=List.pairwise_mergeSort (le:=fun a b:Value=> !(ltOf cmpI (ci b) (ci a))) (fun a b c h1 h2=>by simp only [ltI,Bool.not_eq_true',decide_eq_false_iff_not] at *;omega) (fun a b=>by simp only [ltI,Bool.or_eq_true,Bool.not_eq_true',decide_eq_false_iff_not];omega) (vals y)
    exact this.imp fun h=>by simpa using h
  cases y with
  | nil=>exact ⟨.nil,rfl,List.Perm.refl _,List.Pairwise.nil⟩
  | mk b vs ex=>exact ⟨.mk b (vs.mergeSort fun a b=> !(ltOf cmpI (ci b) (ci a))) ex,by simp [sv],hp,hs⟩
def Rise (l:List Value):Prop:=l.Pairwise fun a b=>ci a<ci b
theorem rise_of {kk:IntKind} {l:List Value} (h:SortedBy cmpI l) (hn:l.Nodup) (hi: ∀v∈l,∃n:Int,v= .int kk n):Rise l:=by
  induction l with
  | nil=>exact List.Pairwise.nil
  | cons a l ih =>
    unfold SortedBy at h
    rw [List.pairwise_cons] at h
    rw [List.nodup_cons] at hn
    refine List.pairwise_cons.2 ⟨fun b hb=> ?_,ih h.2 hn.2 fun v hv=>hi v (List.mem_cons_of_mem _ hv)⟩
    have h1:=h.1 b hb
    rw [ltI] at h1
    simp at h1
    obtain ⟨n,rfl⟩:=hi a (List.mem_cons_self ..)
    obtain ⟨k,rfl⟩:=hi b (List.mem_cons_of_mem _ hb)
    simp only [ci] at h1 ⊢
    have:n≠k:=fun e=>hn.1 (by rw [e];exact hb)
    omega
def KeysOf (kk:IntKind) (m:KV) (l:List Value):Prop:=l.Perm (m.map (·.1))/\Rise l/\ ∀v∈l,∃n:Int,v= .int kk n
theorem rise_unique {kk : IntKind} : ∀ {l l' : List Value}, Rise l -> Rise l' -> (∀ v ∈ l, ∃ n : Int, v = .int kk n) -> (∀ v ∈ l', ∃ n : Int, v = .int kk n) -> (∀ v, v ∈ l ↔ v ∈ l') -> l = l'
  | [],[],_,_,_,_,_=>rfl
  | [],b::l',_,_,_,_,h=>absurd ((h b).2 (List.mem_cons_self ..)) (by simp)
  | a::l,[],_,_,_,_,h=>absurd ((h a).1 (List.mem_cons_self ..)) (by simp)
  | a :: l, b :: l', h1, h2, i1, i2, h => by
    unfold Rise at h1 h2
    rw [List.pairwise_cons] at h1 h2
    obtain ⟨n,rfl⟩:=i1 a (List.mem_cons_self ..)
    obtain ⟨k,rfl⟩:=i2 b (List.mem_cons_self ..)
    have e:n=k:=by
      rcases List.mem_cons.1 ((h (.int kk n)).1 (List.mem_cons_self ..)) with e | hm
      · injection e
      · rcases List.mem_cons.1 ((h (.int kk k)).2 (List.mem_cons_self ..)) with e | hm'
        · injection e with _ e;exact e.symm
        · have:=h2.1 _ hm
          have:=h1.1 _ hm'
          simp only [ci] at *
          omega
    subst e
    have hm: ∀v,v∈l↔v∈l' :=fun v=>by
      constructor
      · intro hv
        rcases List.mem_cons.1 ((h v).1 (List.mem_cons_of_mem _ hv)) with e | hm
        · subst e;have:=h1.1 _ hv;exact absurd this (by simp)
        · exact hm
      · intro hv
        rcases List.mem_cons.1 ((h v).2 (List.mem_cons_of_mem _ hv)) with e | hm
        · subst e;have:=h2.1 _ hv;exact absurd this (by simp)
        · exact hm
    rw [rise_unique h1.2 h2.2 (fun v hv=>i1 v (List.mem_cons_of_mem _ hv)) (fun v hv=>i2 v (List.mem_cons_of_mem _ hv)) hm]
theorem keysOf_of {kk:IntKind} {m:KV} (hm:MOK m) (hi: ∀v∈m.map (·.1),∃n:Int,v= .int kk n) {l:List Value} (hp:l.Perm (m.map (·.1))) (hs:SortedBy cmpI l):KeysOf kk m l:=
  ⟨hp,rise_of hs (hp.nodup_iff.2 hm) (fun v hv=>hi v (hp.mem_iff.1 hv)),fun v hv=>hi v (hp.mem_iff.1 hv)⟩
def IntKeys (kk:IntKind) (m:KV):Prop:=(∀v∈m.map (·.1),∃n:Int,v= .int kk n)/\MOK m
theorem keysOf_wit {kk:IntKind} {m:KV} (hi: ∀v∈m.map (·.1),∃n:Int,v= .int kk n) (hm:MOK m): ∃z:Row,(fun z=>KeysOf kk m (vals z)) z:=by
  obtain ⟨z,_,hp,hs⟩:=sort_wit (e:=0) (.mk 0 (m.map (·.1)) [])
  rw [rvals_eq] at hp
  exact ⟨z,keysOf_of hm hi hp hs⟩
end Go.Sx
namespace Go.Sx
open Go.RowKit
theorem ents_cut {L:List Ent} {A:List N4} (h:A.length=L.length) (m:Nat):ents L A=ents (L.take m) (A.take m)++ents (L.drop m) (A.drop m):=by
  unfold ents
  rw [←List.flatMap_append,←List.zip_append (by simp [h]),List.take_append_drop,List.take_append_drop]
theorem fns_take {L:List Ent} {A:List N4} (m:Nat):(fns L A).take m=fns (L.take m) (A.take m):=by
  unfold fns;rw [←List.map_take];congr 1;simp [List.zip,List.take_zipWith]
theorem fns_get {L:List Ent} {A:List N4} {i:Nat} {e:Ent} {a:N4} (he:L[i]? =some e) (ha:A[i]? =some a):(fns L A)[i]? =some (e.fn a):=by
  unfold fns;rw [List.getElem?_map,(List.getElem?_zip_eq_some (z:=(e,a))).2 ⟨he,ha⟩];rfl
theorem back_of {P : Program} {f : FuncId} {K : JK} {bj : Nat} {L : List Ent} {mark : Int} {Ms : List MS3} (he : EnterOK P f) {A B : Code} {ps : Array Tmp} {n : Nat}
    (hraw: ∀ (row:Row) (T:Nat->List Slot),mark<=((vals row).length:Nat)->(vals row).length<=1073741824->
      (∀ (l D:Nat) (fn:FuncId) (tmps:Array Value),tmps.size=n-> ∀x,0<x->x<=vlen (vdrop (sv row) (Int.toNat mark))->
        RoundT P l #[.int .i64 (((x:Nat):Int) - 1),(vals row).getD (Int.toNat mark+Int.toNat (((x:Nat):Int) - 1)) undef] [loopB l (recOf fn tmps ps A B D),bunL (T x)] Unit (fun _=> .bool true) (fun _=> [loopB l (recOf fn tmps ps A B D),bunL (T (x - 1))]) (fun _=>True))->
      CallT P f #[ptr bj, .int .i64 mark] [.blk bj (.cells #[sv row] K.tj (0,0)),ss K.ft row,bunL (T (vlen (vdrop (sv row) (Int.toNat mark))))] Unit (fun _=> .bool true) (fun _=> [.blk bj (.cells #[vtake (sv row) (Int.toNat mark)] K.tj (0,0)),ss K.ft row,bunL (T 0)]) (fun _=>True))
    (hround: ∀ (l D:Nat) (fn:FuncId) (tmps:Array Value) (i:Int) (e:Ent) (a:N4) (S1 S0:List Slot),tmps.size=n->
      CallT P e.g #[ptr a.1,ptr a.2.1,ptr a.2.2.1,ptr a.2.2.2] [bunL S1] Unit (fun _=>undef) (fun _=> [bunL S0]) (fun _=>True)->
      RoundT P l #[.int .i64 i,Ent.fn e a] [loopB l (recOf fn tmps ps A B D),bunL S1] Unit (fun _=> .bool true) (fun _=> [loopB l (recOf fn tmps ps A B D),bunL S0]) (fun _=>True))
    (h0:0<=mark) (h1:mark<=((L.length:Nat):Int)) (hl:L.length<=1000000) (hE: ∀e∈L.drop (Int.toNat mark),∃y∈Ms,y.2.1=e.b/\EOK P bj y.1 e):
    CallT P f #[ptr bj, .int .i64 mark] (jS K bj L::mSs bj Ms) Unit (fun _=> .bool true) (fun _=>jS K bj (L.take (Int.toNat mark))::mSs bj (undoAll (L.drop (Int.toNat mark)) Ms)) (fun _=>(Ms.map (·.2.1)).Nodup):=
  ⟨he,fun R w ho=>by
    obtain ⟨row,As,hv,hlen,ho'⟩:=jS_open ho
    have hvl:(vals row).length=L.length:=by rw [hv,fns_len hlen]
    have hnd:(Ms.map (·.2.1)).Nodup:=by
      obtain ⟨p,q,hp,_⟩:=own_sep.1 ho
      obtain ⟨p1,p2,_,hm,_⟩:=hp
      exact (mSs_nodup hm).1
    have hm0:Int.toNat mark<=L.length:=by omega
    have hcut:=ents_cut hlen (Int.toNat mark)
    have hvd:vlen (vdrop (sv row) (Int.toNat mark))=(L.drop (Int.toNat mark)).length:=by rw [vlen_drop,hvl,List.length_drop]
    have hAl:(As.drop (Int.toNat mark)).length=(L.drop (Int.toNat mark)).length:=by simp [hlen]
    have c:=hraw row (stepT bj Ms (L.drop (Int.toNat mark)) (As.drop (Int.toNat mark))) (by rw [hvl];exact h1) (by omega) (fun l D fn tmps hz x hx0 hx=>by
      rw [hvd] at hx
      obtain ⟨e,a,h1,h2,hc⟩:=step_call hAl hnd hE hx0 hx
      have h3:(vals row).getD (Int.toNat mark+Int.toNat (((x:Nat):Int) - 1)) undef=e.fn a:=by
        rw [List.getElem?_drop] at h1 h2
        have:Int.toNat mark+Int.toNat (((x:Nat):Int) - 1)=Int.toNat mark+(x - 1):=by omega
        rw [this,List.getD_eq_getElem?_getD,hv,fns_get h1 h2];rfl
      rw [h3]
      exact hround l D fn tmps _ e a _ _ hz hc)
    have c2:=c.frame (ents (L.take (Int.toNat mark)) (As.take (Int.toNat mark)))
    have o2:Own (ofList ([.blk bj (.cells #[sv row] K.tj (0,0)),ss K.ft row,bunL (stepT bj Ms (L.drop (Int.toNat mark)) (As.drop (Int.toNat mark)) (vlen (vdrop (sv row) (Int.toNat mark))))]++ents (L.take (Int.toNat mark)) (As.take (Int.toNat mark)))) R w:=by
      have hT:stepT bj Ms (L.drop (Int.toNat mark)) (As.drop (Int.toNat mark)) (vlen (vdrop (sv row) (Int.toNat mark)))=mSs bj Ms++ents (L.drop (Int.toNat mark)) (As.drop (Int.toNat mark)):=by
        unfold stepT;rw [hvd,List.drop_length];rfl
      rw [hT]
      have o3:Own (ofList ((mSs bj Ms++ents (L.drop (Int.toNat mark)) (As.drop (Int.toNat mark)))++(.blk bj (.cells #[sv row] K.tj (0,0))::ss K.ft row::ents (L.take (Int.toNat mark)) (As.take (Int.toNat mark))))) R w:=by
        refine Imp.perm ?_ R w ho'
        rw [hcut]
        classical
        rw [List.perm_iff_count]
        intro s
        simp only [List.count_append,List.count_cons]
        omega
      refine Imp.perm ?_ R w (bunL_shut _ _ R w o3)
      classical
      rw [List.perm_iff_count]
      intro s
      simp only [List.count_append,List.count_cons,List.count_nil]
      omega
    refine (c2.calls R w o2).mono fun e w' hh=> ?_
    obtain ⟨_,_,e1,o4,ext⟩:=hh
    refine ⟨(),hnd,e1,?_,ext⟩
    have o5:Own (ofList ((mSs bj (undoAll (L.drop (Int.toNat mark)) Ms)++ents (L.drop (Int.toNat mark)) (As.drop (Int.toNat mark)))++(.blk bj (.cells #[vtake (sv row) (Int.toNat mark)] K.tj (0,0))::ss K.ft row::ents (L.take (Int.toNat mark)) (As.take (Int.toNat mark))))) R w' :=by
      refine bunL_open _ _ R w' (Imp.perm ?_ R w' o4)
      classical
      rw [List.perm_iff_count]
      intro s
      simp only [List.count_append,List.count_cons,List.count_nil]
      show _=_+_
      unfold stepT
      simp only [List.drop_zero]
      omega
    have hss:ss K.ft row=ss K.ft (row.take (Int.toNat mark)):=(ss_take row K.ft _).symm
    rw [vtake_sv row _ (by rw [hvl];exact hm0),hss] at o5
    have hvt:vals (row.take (Int.toNat mark))=(vals row).take (Int.toNat mark):=vals_take row _
    have o6:Own (ofList ((.blk bj (.cells #[sv (row.take (Int.toNat mark))] K.tj (0,0))::ss K.ft (row.take (Int.toNat mark))::(ents (L.take (Int.toNat mark)) (As.take (Int.toNat mark))++mSs bj (undoAll (L.drop (Int.toNat mark)) Ms)))++ents (L.drop (Int.toNat mark)) (As.drop (Int.toNat mark)))) R w' :=by
      refine Imp.perm ?_ R w' o5
      classical
      rw [List.perm_iff_count]
      intro s
      simp only [List.count_append,List.count_cons]
      omega
    exact jS_shut (by rw [hvt,hv,fns_take]) (by simp [hlen]) _ R w' (Imp.drop _ _ R w' o6)⟩
end Go.Sx
namespace Go.Sx
abbrev M256:Int:=115792089237316195423570985008687907853269984665640564039457584007913129639936
def kk (t p:Int):Value:= .agg #[.int .u8 t, .int .u8 p]
theorem kk_inj {t p t' p' :Int}:kk t p=kk t' p' ↔t=t' /\p=p' :=by
  unfold kk;constructor
  · intro h;simp at h;exact h
  · rintro ⟨rfl,rfl⟩;rfl
noncomputable def bal (m:KV) (t p:Int):Int:=num ((mget m (kk t p)).getD (vI 0))
noncomputable def sup (m:KV) (t:Int):Int:=num ((mget m (.int .u8 t)).getD (vI 0))
noncomputable def mput (m:KV) (k:Value) (n:Int):KV:=if n=0 then mdel m k else mset m k (vI n)
abbrev BS:=KV×KV×List Ent
noncomputable def putL (e:Ent) (m:KV) (k:Value) (n:Int) (L:List Ent):List Ent:=if n=0 then (if (mget m k).isSome then L++ [e] else L) else L++ [e]
noncomputable def bPut (eb:KV->Value->Ent) (s:BS) (k:Value) (n:Int):BS:=(mput s.1 k n,s.2.1,putL (eb s.1 k) s.1 k n s.2.2)
noncomputable def bSup (es:KV->Value->Ent) (s:BS) (t n:Int):BS:=(s.1,mset s.2.1 (.int .u8 t) (vI n),s.2.2++ [es s.2.1 (.int .u8 t)])
def bw1 (t p n:Int):Int:=if 4<=t∨18<=p then 1 else if n=0 then 3 else 0
def bw2 (t p q n:Int):Int:=if 4<=t∨18<=p∨18<=q then 1 else if n=0 then 3 else 0
noncomputable def bMint (eb es:KV->Value->Ent) (s:BS) (t p n:Int):Int×BS:=
  if bw1 t p n≠0 then (bw1 t p n,s) else if M256<=sup s.2.1 t+n then (2,s) else
  (0,bPut eb (bSup es s t (sup s.2.1 t+n)) (kk t p) (hAdd (bal s.1 t p) n).1)
noncomputable def bMove (eb:KV->Value->Ent) (s:BS) (t p q n:Int):Int×BS:=
  if bw2 t p q n≠0 then (bw2 t p q n,s) else if bal s.1 t p<n then (8,s) else
  (0,bPut eb (bPut eb s (kk t p) (bal s.1 t p - n)) (kk t q) (hAdd (bal (bPut eb s (kk t p) (bal s.1 t p - n)).1 t q) n).1)
theorem putL_len (e:Ent) (m:KV) (k:Value) (n:Int) (L:List Ent):L.length<=(putL e m k n L).length/\(putL e m k n L).length<=L.length+1:=by
  unfold putL;split
  · split<;>simp
  · simp
theorem bPut_len (eb:KV->Value->Ent) (s:BS) (k:Value) (n:Int):s.2.2.length<=(bPut eb s k n).2.2.length/\(bPut eb s k n).2.2.length<=s.2.2.length+1:=putL_len _ _ _ _ _
theorem bSup_len (es:KV->Value->Ent) (s:BS) (t n:Int):(bSup es s t n).2.2.length=s.2.2.length+1:=by simp [bSup]
def NumK (K:MK):Prop:= ∀x,K.OkV x↔ ∃v,R4 v/\x=vI v
theorem KOK.R4v {K:MK} (hK:NumK K) {m:KV} (h:KOK K m) (k:Value):R4 (num ((mget m k).getD (vI 0))):=by
  cases hg:mget m k with
  | none=>rw [Option.getD_none,num_vI R4_zero];exact R4_zero
  | some x =>
    obtain ⟨v,hv,rfl⟩:=(hK x).1 (h.val hg)
    rw [Option.getD_some,num_vI hv];exact hv
theorem KOK.put {K:MK} (hK:NumK K) {m:KV} (h:KOK K m) {k:Value} (hk:K.OkK k) {n:Int} (hn:R4 n):KOK K (mput m k n):=by
  unfold mput;split
  · exact h.del k
  · exact h.set hk ((hK _).2 ⟨n,hn,rfl⟩)
end Go.Sx
namespace Go.Sx
noncomputable def nz (m:KV) (k:Int):Int:=ci ((mget m (.int .u8 k)).getD (.int .u64 0))
structure NxI (i:Nat) (ns:List Int) (m:KV):Prop where
  len:ns.length=16
  eq: ∀k:Nat,k<16->nz m k=ns.getD k 0
  lo: ∀k:Nat,k<16->0<=ns.getD k 0
  hi: ∀k:Nat,k<16->ns.getD k 0<=i
theorem NxI.no {i:Nat} {ns:List Int} {m:KV} (h:NxI i ns m):NxI (i+1) ns m:=⟨h.len,h.eq,h.lo,fun k hk=>by have:=h.hi k hk;omega⟩
end Go.Sx
namespace Go.Sx
theorem bal_nil (t p:Int):bal [] t p=0:=num_vI R4_zero
theorem sup_nil (t:Int):sup [] t=0:=num_vI R4_zero
section
variable {eb es:KV->Value->Ent} {s:BS} {t p q n e:Int}
end
end Go.Sx
namespace Go.Sx
def sumTo (f:Nat->Int):Nat->Int
  | 0=>0
  | n+1=>sumTo f n+f n
theorem sumTo_congr {f g:Nat->Int}: ∀ {n:Nat},(∀p,p<n->f p=g p)->sumTo f n=sumTo g n
  | 0,_=>rfl
  | n+1,h=>by rw [sumTo,sumTo,sumTo_congr (fun p hp=>h p (by omega)),h n (by omega)]
noncomputable def tot (m:KV) (t:Int):Int:=sumTo (fun p=>bal m t p) 18
structure CI (Kb Ks:MK) (s:BS) (more less:Int->Int) (i:Nat):Prop where
  kb:KOK Kb s.1
  ks:KOK Ks s.2.1
  eq: ∀t,0<=t->t<4->tot s.1 t=sup s.2.1 t
  nk:NumK Ks
  bk: ∀t,0<=t->t<4->sup s.2.1 t+less t=more t
  l0: ∀t,0<=t->t<4->0<=less t
  mi: ∀t,0<=t->t<4->more t<=i*M256
theorem ci_start {Kb Ks:MK} (nk:NumK Ks):CI Kb Ks ([],[],[]) (fun _=>0) (fun _=>0) 0:=by
  refine ⟨KOK.nil,KOK.nil,fun t _ _=> ?_,nk,fun t _ _=>by rw [sup_nil];rfl,fun t _ _=>Int.le_refl _,fun t _ _=>by simp⟩
  unfold tot
  rw [sup_nil,sumTo_congr (g:=fun _=>0) (fun p _=>bal_nil t p)];rfl
theorem CI.later {Kb Ks:MK} {s:BS} {more less:Int->Int} {i:Nat} (h:CI Kb Ks s more less i):CI Kb Ks s more less (i+1):=
  ⟨h.kb,h.ks,h.eq,h.nk,h.bk,h.l0,fun t h0 h4=>by
    have h1:=h.mi t h0 h4
    rw [Int.natCast_succ,Int.add_mul]
    unfold M256 at *
    omega⟩
theorem CI.congr {Kb Ks:MK} {s:BS} {more less more' less' :Int->Int} {i:Nat} (h:CI Kb Ks s more less i) (hm: ∀t,0<=t->t<4->more' t=more t) (hl: ∀t,0<=t->t<4->less' t=less t):CI Kb Ks s more' less' i:=
  ⟨h.kb,h.ks,h.eq,h.nk,fun t h0 h4=>by rw [hm t h0 h4,hl t h0 h4];exact h.bk t h0 h4,fun t h0 h4=>by rw [hl t h0 h4];exact h.l0 t h0 h4,fun t h0 h4=>by rw [hm t h0 h4];exact h.mi t h0 h4⟩
section
variable {Kb Ks:MK} (nb:NumK Kb) (ns:NumK Ks) (ob: ∀t p,Kb.OkK (kk t p)) (os: ∀t:Int,Ks.OkK (.int .u8 t))
end
structure BL where
  i:Nat
  s:BS
  M:Nat->Row
  L:Nat->Row
  b:Nat
  bm:Nat
  bs:Nat
  bj:Nat
  am:Nat
  al:Nat
def rowsv (M:Nat->Row) (t:Int):Int:=nv (dg (M t.toNat))
structure BLOK (Kb Ks:MK) (x:BL):Prop where
  ci:CI Kb Ks x.s (rowsv x.M) (rowsv x.L) x.i
  rm: ∀k,k<4->RowOK (x.M k)/\Canon (dg (x.M k))
  rl: ∀k,k<4->RowOK (x.L k)/\Canon (dg (x.L k))
  ln:x.s.2.2.length<=3*x.i
theorem BLOK.start {Kb Ks:MK} (nk:NumK Ks) (b bm bs bj am al:Nat):BLOK Kb Ks ⟨0,([],[],[]),fun _=>Row.nil,fun _=>Row.nil,b,bm,bs,bj,am,al⟩:=
  ⟨(ci_start nk).congr (fun _ _ _=>rfl) (fun _ _ _=>rfl),fun _ _=>⟨RowOK.nil,show ([]:List Int).getLast? ≠some 0 by simp⟩,fun _ _=>⟨RowOK.nil,show ([]:List Int).getLast? ≠some 0 by simp⟩,Nat.zero_le _⟩
section
variable {Kb Ks:MK}
theorem BLOK.bk {x:BL} (h:BLOK Kb Ks x) {k:Nat} (hk:k<4):sup x.s.2.1 k+nv (dg (x.L k))=nv (dg (x.M k)):=h.ci.bk k (by omega) (by omega)
end
end Go.Sx
namespace Go.Sx
open Go.RowKit
def EqM (a b:KV):Prop:= ∀k,mget a k=mget b k
theorem EqM.refl (a:KV):EqM a a:=fun _=>rfl
theorem EqM.trans {a b c:KV} (h:EqM a b) (k:EqM b c):EqM a c:=fun x=>(h x).trans (k x)
theorem EqM.symm {a b:KV} (h:EqM a b):EqM b a:=fun x=>(h x).symm
theorem mget_of_mem {m:KV} (hm:MOK m) {e:Value×Value} (he:e∈m):mget m e.1=some e.2:=by
  induction m with
  | nil=>cases he
  | cons x m ih =>
    have hn:x.1∉m.map (·.1)/\(m.map (·.1)).Nodup:=List.nodup_cons.1 hm
    rw [mget_cons]
    rcases List.mem_cons.1 he with rfl | h
    · rw [if_pos rfl]
    · rw [if_neg (fun e' =>hn.1 (by rw [e'];exact List.mem_map_of_mem h)),ih hn.2 h]
theorem KOK.of_eq {K:MK} {m m' :KV} (h:KOK K m) (hm:MOK m') (e:EqM m' m):KOK K m' :=
  ⟨hm,fun x hx=>h.ok x (by
    have h1:=mget_of_mem hm hx
    rw [e x.1] at h1
    have:=mget_mem h1
    exact this)⟩
theorem nodup_len {α:Type} [DecidableEq α]: ∀ {l l' :List α},l.Nodup->(∀x∈l,x∈l')->l.length<=l'.length
  | [],_,_,_=>Nat.zero_le _
  | a :: l, l', hn, hs => by
    have ha:a∈l' :=hs a (List.mem_cons_self ..)
    have hn' :=List.nodup_cons.1 hn
    have:=nodup_len (l:=l) (l' :=l'.erase a) hn'.2 (fun x hx=>(List.mem_erase_of_ne (fun e=>hn'.1 (by rw [←e];exact hx))).2 (hs x (List.mem_cons_of_mem _ hx)))
    rw [List.length_erase_of_mem ha] at this
    have h0:0<l'.length:=List.length_pos_of_mem ha
    simp only [List.length_cons]
    omega
theorem EqM.len {a b:KV} (h:EqM a b) (ha:MOK a) (hb:MOK b):a.length=b.length:=by
  have key: ∀ {a b:KV},EqM a b->MOK a->a.length<=b.length:=by
    intro a b h ha
    have:=nodup_len (l:=a.map (·.1)) (l' :=b.map (·.1)) (show (a.map (·.1)).Nodup from ha) (fun x hx=>by
      obtain ⟨e,he,rfl⟩:=List.mem_map.1 hx
      have h1:=mget_of_mem ha he
      rw [h e.1] at h1
      exact List.mem_map_of_mem (f:=(·.1)) (mget_mem h1))
    simpa using this
  exact Nat.le_antisymm (key h ha) (key h.symm hb)
theorem EqM.set {a b:KV} (h:EqM a b) (k v:Value):EqM (mset a k v) (mset b k v):=fun x=>by rw [mget_set,mget_set,h x]
theorem EqM.del {a b:KV} (h:EqM a b) (ha:MOK a) (hb:MOK b) (k:Value):EqM (mdel a k) (mdel b k):=fun x=>by rw [mget_del ha,mget_del hb,h x]
noncomputable def undoB (b:Nat) (E:List Ent) (m:KV):KV:=E.foldr (fun e m=>if b=e.b then e.undo m else m) m
theorem undoB_snoc (b:Nat) (E:List Ent) (e:Ent) (m:KV):undoB b (E++ [e]) m=undoB b E (if b=e.b then e.undo m else m):=by unfold undoB;rw [List.foldr_append];rfl
theorem undoAll_map (E:List Ent) (Ms:List MS3):undoAll E Ms=Ms.map fun x=>(x.1,x.2.1,undoB x.2.1 E x.2.2):=by
  induction E with
  | nil=>unfold undoAll;simp [undoB]
  | cons e E ih =>
    show undo1 e (undoAll E Ms)=_
    rw [ih]
    unfold undo1
    rw [List.map_map]
    refine List.map_congr_left fun x _=> ?_
    show (if x.2.1=e.b then (x.1,x.2.1,e.undo (undoB x.2.1 E x.2.2)) else (x.1,x.2.1,undoB x.2.1 E x.2.2))=(x.1,x.2.1,if x.2.1=e.b then e.undo (undoB x.2.1 E x.2.2) else undoB x.2.1 E x.2.2)
    split<;>rfl
def Und (b:Nat) (m m' :KV) (E:List Ent):Prop:= ∀m2,MOK m2->EqM m2 m' ->MOK (undoB b E m2)/\EqM (undoB b E m2) m
theorem Und.nil (b:Nat) (m:KV):Und b m m []:=fun m2 h e=>⟨h,e⟩
theorem undo_mok {e:Ent} {m:KV} (h:MOK m):MOK (e.undo m):=by
  unfold Ent.undo
  cases e.was with
  | none=>exact h.del _
  | some v=>exact h.set _ _
theorem mget_undo {e:Ent} {m:KV} (h:MOK m) (k:Value):mget (e.undo m) k=if k=e.key then e.was else mget m k:=by
  unfold Ent.undo
  cases e.was with
  | none=>exact mget_del h _ _
  | some v=>exact mget_set _ _ _ _
theorem Und.snoc {b:Nat} {m m' m3:KV} {E:List Ent} (h:Und b m m' E) {e:Ent} (hb:e.b=b) (hw:e.was=mget m' e.key) (ho: ∀k,k≠e.key->mget m3 k=mget m' k):Und b m m3 (E++ [e]):=fun m2 h2 e2=>by
  rw [undoB_snoc,if_pos hb.symm]
  refine h _ (undo_mok h2) fun k=> ?_
  rw [mget_undo h2]
  by_cases hk:k=e.key
  · rw [if_pos hk,hw,hk]
  · rw [if_neg hk,e2 k,ho k hk]
theorem Und.set {b:Nat} {m m' :KV} {E:List Ent} (h:Und b m m' E) {e:Ent} (hb:e.b=b) (hw:e.was=mget m' e.key) (v:Value):Und b m (mset m' e.key v) (E++ [e]):=
  h.snoc hb hw fun k hk=>by rw [mget_set,if_neg hk]
structure PMs where
  mn:KV
  mx:KV
  mb:KV
  ms:KV
structure PMOK (Kn Kx Kb Ks:MK) (s:PMs):Prop where
  n:KOK Kn s.mn
  x:KOK Kx s.mx
  b:KOK Kb s.mb
  s:KOK Ks s.ms
def TryM (Kx Kb Ks:MK) (fl:Bool) (mx mb ms:KV) (k v:Int) (e:Int) (mx' mb' ms' :KV):Prop:=
  KOK Kx mx' /\KOK Kb mb' /\KOK Ks ms' /\((fl=true/\e=11/\EqM mx' mx/\bal mb' 0 2=bal mb 0 2/\sup ms' 0=sup ms 0)∨(fl=false/\e=0/\mx' =mset mx (.int .i64 k) (.int .i64 v)/\bal mb' 0 2=bal mb 0 2+1/\sup ms' 0=sup ms 0+1))
structure PMI (Kx Kb Ks:MK) (i:Nat) (mx mb ms mv:KV) (sum:Int):Prop where
  x:KOK Kx mx
  b:KOK Kb mb
  s:KOK Ks ms
  v:KOK Kx mv
  eq:EqM mx mv
  bal:bal mb 0 2=sum
  sup:sup ms 0=sum
  lo:0<=sum
  hi:sum<=i
theorem PMI.start {Kx Kb Ks:MK}:PMI Kx Kb Ks 0 [] [] [] [] 0:=⟨KOK.nil,KOK.nil,KOK.nil,KOK.nil,EqM.refl _,bal_nil 0 2,sup_nil 0,Int.le_refl _,Int.le_refl _⟩
theorem PMI.done {Kx Kb Ks:MK} {i:Nat} {mx mb ms mv mx' mb' ms' :KV} {sum k v e:Int} (h:PMI Kx Kb Ks i mx mb ms mv sum) (ok:Kx.OkK (.int .i64 k)) (ov:Kx.OkV (.int .i64 v)) (t:TryM Kx Kb Ks false mx mb ms k v e mx' mb' ms'):e=0/\PMI Kx Kb Ks (i+1) mx' mb' ms' (mset mv (.int .i64 k) (.int .i64 v)) (sum+1):=by
  obtain ⟨h1,h2,h3,⟨h4,_⟩ | ⟨_,h4,h5,h6,h7⟩⟩:=t
  · cases h4
  · exact ⟨h4,h1,h2,h3,h.v.set ok ov,by rw [h5];exact h.eq.set _ _,by rw [h6,h.bal],by rw [h7,h.sup],by have:=h.lo;omega,by have:=h.hi;omega⟩
theorem SlX.cells {X:Type} {w:World} {n:Nat} {val:X->Value} {Ok:X->Prop} {v:Value} {xs:List X} (h:SlX w n val Ok v xs):v.cells= #[v]:=by
  rcases h.sl.form with rfl | ⟨a,len,cap,rfl⟩<;>rfl
def F_mkmap:List Value->List Slot->Ctr:=fun _ _=>⟨Nat,fun b=> .map (some b),fun b=> [mo b []],fun _=>True⟩
theorem xmkmap {P:Program} {m:Sem Next} (h:symW P m [.nw 0] (ofList []) fun nx H _=> ∃b,nx= .value (.map (some b))/\H=upd (ofList []) 0 (.blk b (.map #[] 0))):
    OpT P m [] Nat (fun b=> .map (some b)) (fun b=> [mo b []]) (fun _=>True):=by
  intro R w ho
  obtain ⟨nx,w',H',acc',hrun,⟨b,rfl,rfl⟩,ho',he⟩:=symW_sound _ _ _ _ R w h ho
  refine ⟨b,w',trivial, .inl hrun,mo_new (l:= []) _ _ ?_,he⟩
  refine (congrArg (fun H=>Own H R w') ?_).mp ho'
  funext i;cases i<;>rfl
end Go.Sx
namespace Go.Sx
open Go.RowKit
structure EntOK (b:Nat) (ent:KV->Value->Ent):Prop where
  b: ∀m k,(ent m k).b=b
  key: ∀m k,(ent m k).key=k
  was: ∀m k,(ent m k).was=mget m k
def Jr (K:MK) (ent:KV->Value->Ent) (hs:List KV) (L:List Ent) (m:KV):Prop:=
  hs.length=L.length/\ ∀i e,L[i]? =some e-> ∃m0 key h h',e=ent m0 key/\K.OkK key/\KOK K m0/\hs[i]? =some h/\(hs++ [m])[i+1]? =some h' /\EqM m0 h/\ ∀k,k≠key->mget h' k=mget h k
theorem Jr.nil {K:MK} {ent:KV->Value->Ent} (m:KV):Jr K ent [] [] m:=⟨rfl,fun i e h=>by simp at h⟩
theorem Jr.push {K:MK} {ent:KV->Value->Ent} {hs:List KV} {L:List Ent} {m m' :KV} (h:Jr K ent hs L m) (hk:KOK K m) {key:Value} (ok:K.OkK key) (ho: ∀k,k≠key->mget m' k=mget m k):Jr K ent (hs++ [m]) (L++ [ent m key]) m' :=by
  refine ⟨by simp [h.1],fun i e he=> ?_⟩
  rcases Nat.lt_or_ge i L.length with q | q
  · rw [List.getElem?_append_left q] at he
    obtain ⟨m0,k0,h0,h1,e1,e2,e3,e4,e5,e6,e7⟩:=h.2 i e he
    refine ⟨m0,k0,h0,h1,e1,e2,e3,?_,?_,e6,e7⟩
    · rw [List.getElem?_append_left (by rw [h.1];exact q)];exact e4
    · rw [List.getElem?_append_left (by simp [h.1];omega)];exact e5
  · have hi:i=L.length:=by
      have:=(List.getElem?_eq_some_iff.1 he).1
      simp at this;omega
    subst hi
    simp at he;subst he
    refine ⟨m,key,m,m',rfl,ok,hk,by simp [←h.1],?_,EqM.refl _,ho⟩
    rw [List.getElem?_append_right (by simp [h.1])]
    simp [h.1]
theorem Und.cons {b:Nat} {h h' m:KV} {E:List Ent} (u:Und b h' m E) {e:Ent} (hb:e.b=b) (hw:e.was=mget h e.key) (ho: ∀k,k≠e.key->mget h' k=mget h k):Und b h m (e::E):=fun m2 h2 e2=>by
  obtain ⟨a1,a2⟩:=u m2 h2 e2
  have e3:undoB b (e::E) m2=e.undo (undoB b E m2):=by
    show (if b=e.b then e.undo (undoB b E m2) else undoB b E m2)=_
    rw [if_pos hb.symm]
  rw [e3]
  refine ⟨undo_mok a1,fun k=> ?_⟩
  rw [mget_undo a1]
  by_cases hk:k=e.key
  · rw [if_pos hk,hw,hk]
  · rw [if_neg hk,a2 k,ho k hk]
theorem Jr.und {K:MK} {ent:KV->Value->Ent} {b:Nat} (E:EntOK b ent) {hs:List KV} {L:List Ent} {m:KV} (h:Jr K ent hs L m): ∀ (d n:Nat),n+d=L.length-> ∀h0,(hs++ [m])[n]? =some h0->Und b h0 m (L.drop n)
  | 0, n, hd, h0, hn => by
    have:n=hs.length:=by rw [h.1];omega
    subst this
    simp at hn;subst hn
    rw [List.drop_eq_nil_of_le (by rw [h.1];exact Nat.le_refl _)];exact Und.nil b _
  | d + 1, n, hd, h0, hn => by
    have hlt:n<L.length:=by omega
    obtain ⟨m0,key,a,a',e1,_,_,e4,e5,e6,e7⟩:=h.2 n L[n] (List.getElem?_eq_getElem hlt)
    have ha:h0=a:=by
      rw [List.getElem?_append_left (by rw [h.1];exact hlt),e4] at hn
      injection hn with hn;exact hn.symm
    subst ha
    rw [List.drop_eq_getElem_cons hlt]
    refine Und.cons (h.und E d (n+1) (by omega) a' e5) (by rw [e1];exact E.b _ _) ?_ ?_
    · rw [e1,E.was,E.key];exact e6 key
    · intro k hk
      rw [e1,E.key] at hk
      exact e7 k hk
theorem Jr.back {K:MK} {ent:KV->Value->Ent} {b:Nat} (E:EntOK b ent) {hs:List KV} {L:List Ent} {m:KV} (h:Jr K ent hs L m) (hk:KOK K m) {n:Nat} (hn:n<=L.length) {h0:KV} (h1:(hs++ [m])[n]? =some h0):
    KOK K (undoB b (L.drop n) m)/\EqM (undoB b (L.drop n) m) h0/\Jr K ent (hs.take n) (L.take n) (undoB b (L.drop n) m):=by
  obtain ⟨a1,a2⟩:=h.und E (L.length - n) n (by omega) h0 h1 m hk.once (EqM.refl _)
  have hK:KOK K (undoB b (L.drop n) m):=by
    rcases Nat.lt_or_ge n L.length with q | q
    · obtain ⟨m0,key,a,a',_,_,e3,e4,_,e6,_⟩:=h.2 n L[n] (List.getElem?_eq_getElem q)
      rw [List.getElem?_append_left (by rw [h.1];exact q),e4] at h1
      injection h1 with h1
      exact e3.of_eq a1 (a2.trans (h1▸e6.symm))
    · rw [List.drop_eq_nil_of_le q];exact hk
  refine ⟨hK,a2,by simp [h.1],fun i e he=> ?_⟩
  have hi:i<n/\i<L.length:=by
    have:=(List.getElem?_eq_some_iff.1 he).1
    simp only [List.length_take] at this;omega
  rw [List.getElem?_take_of_lt hi.1] at he
  obtain ⟨m0,key,a,a',e1,e2,e3,e4,e5,e6,e7⟩:=h.2 i e he
  have e4' :(hs.take n)[i]? =some a:=by rw [List.getElem?_take_of_lt hi.1];exact e4
  rcases Nat.lt_or_ge (i+1) n with q | q
  · refine ⟨m0,key,a,a',e1,e2,e3,e4',?_,e6,e7⟩
    rw [List.getElem?_append_left (by simp [h.1];omega),List.getElem?_take_of_lt q]
    rw [List.getElem?_append_left (by rw [h.1];omega)] at e5
    exact e5
  · have hq:i+1=n:=by omega
    refine ⟨m0,key,a,undoB b (L.drop n) m,e1,e2,e3,e4',?_,e6,fun k hk=> ?_⟩
    · rw [List.getElem?_append_right (by simp [h.1];omega)]
      have:i+1 - (hs.take n).length=0:=by simp [h.1];omega
      rw [this];rfl
    · rw [a2 k]
      have:h0=a' :=by rw [hq,h1] at e5;injection e5
      rw [this];exact e7 k hk
theorem Jr.ent {K:MK} {ent:KV->Value->Ent} {hs:List KV} {L:List Ent} {m:KV} (h:Jr K ent hs L m) {e:Ent} (he:e∈L): ∃m0 key,e=ent m0 key/\K.OkK key/\KOK K m0:=by
  obtain ⟨i,hi⟩:=List.getElem?_of_mem he
  obtain ⟨m0,key,_,_,e1,e2,e3,_⟩:=h.2 i e hi
  exact ⟨m0,key,e1,e2,e3⟩
theorem undoAll_one (K:MK) (b:Nat) (m m' :KV) (E:List Ent) (h:undoAll E [(K,b,m)]= [(K,b,m')]):m' =undoB b E m:=by
  rw [undoAll_map] at h
  simp only [List.map_cons,List.map_nil,List.cons.injEq,Prod.mk.injEq,true_and,and_true] at h
  exact h.symm
theorem keys_le {m:KV} (hm:MOK m) {l:List Value} (h: ∀k v,mget m k=some v->k∈l):m.length<=l.length:=by
  have:=nodup_len (l:=m.map (·.1)) (l' :=l) (show (m.map (·.1)).Nodup from hm) (fun x hx=>by
    obtain ⟨e,he,rfl⟩:=List.mem_map.1 hx
    exact h _ _ (mget_of_mem hm he))
  simpa using this
theorem KeysOf.len {kk:IntKind} {m:KV} {l:List Value} (h:KeysOf kk m l):l.length=m.length:=by simpa using h.1.length_eq
theorem KeysOf.mem {kk:IntKind} {m:KV} {l:List Value} (h:KeysOf kk m l) (hm:MOK m) {i:Nat} {k:Value} (hi:l[i]? =some k): ∃v,mget m k=some v:=by
  have hk:k∈m.map (·.1):=h.1.mem_iff.1 (List.mem_of_getElem? hi)
  obtain ⟨e,he,rfl⟩:=List.mem_map.1 hk
  exact ⟨e.2,mget_of_mem hm he⟩
theorem pairs_at {z:Value} {m:KV} {l:List Value} {i:Nat} {x:Int×Int} (h:(pairsOf z m l)[i]? =some (p2V x)):l[i]? =some (.int .i64 x.1)/\(mget m (.int .i64 x.1)).getD z= .int .i64 x.2:=by
  unfold pairsOf at h
  rw [List.getElem?_map] at h
  cases hl:l[i]? with
  | none=>rw [hl] at h;cases h
  | some k =>
    rw [hl] at h
    simp only [Option.map_some,p2V,Option.some.injEq,Value.agg.injEq] at h
    have h1:=congrArg Array.toList h
    simp only [List.cons.injEq,and_true] at h1
    obtain ⟨rfl,h2⟩:=h1
    exact ⟨rfl,h2⟩
theorem pairs_len {z:Value} {m:KV} {l:List Value}:(pairsOf z m l).length=l.length:=by unfold pairsOf;simp
theorem keys_eq {kk:IntKind} {m n:KV} (hm:MOK m) (hn:MOK n) (h:EqM m n) {l l' :List Value} (h1:KeysOf kk m l) (h2:KeysOf kk n l'):l=l' :=by
  have key: ∀ {a b:KV},MOK a->EqM a b-> ∀v,v∈a.map (·.1)->v∈b.map (·.1):=by
    intro a b ha h v hv
    obtain ⟨e,he,rfl⟩:=List.mem_map.1 hv
    have:=mget_of_mem ha he
    rw [h e.1] at this
    exact List.mem_map_of_mem (f:=(·.1)) (mget_mem this)
  exact rise_unique h1.2.1 h2.2.1 h1.2.2 h2.2.2 fun v=>⟨fun hv=>h2.1.mem_iff.2 (key hm h v (h1.1.mem_iff.1 hv)),fun hv=>h1.1.mem_iff.2 (key hn h.symm v (h2.1.mem_iff.1 hv))⟩
end Go.Sx
namespace Go.Sx
open Go.RowKit
theorem Jr.set {K:MK} {ent:KV->Value->Ent} {hs:List KV} {L:List Ent} {m:KV} (h:Jr K ent hs L m) (hk:KOK K m) {k v:Value} (ok:K.OkK k) (ov:K.OkV v):Jr K ent (hs++ [m]) (L++ [ent m k]) (mset m k v)/\KOK K (mset m k v):=
  ⟨h.push hk ok fun k' hk' =>by rw [mget_set,if_neg hk'],hk.set ok ov⟩
theorem Jr.del {K:MK} {ent:KV->Value->Ent} {hs:List KV} {L:List Ent} {m:KV} (h:Jr K ent hs L m) (hk:KOK K m) {k:Value} (ok:K.OkK k):Jr K ent (hs++ [m]) (L++ [ent m k]) (mdel m k)/\KOK K (mdel m k):=
  ⟨h.push hk ok fun k' hk' =>by rw [mget_del hk.once,if_neg hk'],hk.del k⟩
abbrev iv (n:Int):Value:= .int .i64 n
structure IntK (K:MK):Prop where
  k: ∀n,K.OkK (iv n)
  k' : ∀v,K.OkK v-> ∃n,v=iv n
  v: ∀n:Int,(Lit.int .i64 n).wf=true->K.OkV (iv n)
  v' : ∀x,K.OkV x-> ∃n:Int,(Lit.int .i64 n).wf=true/\x=iv n
def SO1 (K:MK) (ls:List Int) (i:Nat) (m:KV) (n:Nat):Prop:=i<=ls.length/\KOK K m/\(∀k v,mget m k=some v->v=iv 1/\ ∃j z,j<i/\ls[j]? =some z/\k=iv z)/\n=i
theorem SO1.start {K:MK} {ls:List Int}:SO1 K ls 0 [] 0:=by
  refine ⟨Nat.zero_le _,KOK.nil,fun k v h=> ?_,rfl⟩
  rw [mget_nil] at h;cases h
theorem SO1.step {K:MK} (I:IntK K) {ls:List Int} {i:Nat} {m:KV} {n:Nat} (h:SO1 K ls i m n) {z:Int} (hz:ls[i]? =some z):SO1 K ls (i+1) (mset m (iv z) (iv 1)) (n+1):=by
  have hlt:=(List.getElem?_eq_some_iff.1 hz).1
  refine ⟨hlt,h.2.1.set (I.k z) (I.v 1 rfl),fun k v hk=> ?_,by rw [h.2.2.2]⟩
  rw [mget_set] at hk
  by_cases e:k=iv z
  · rw [if_pos e] at hk
    injection hk with hk
    exact ⟨hk.symm,i,z,Nat.lt_succ_self i,hz,e⟩
  · rw [if_neg e] at hk
    obtain ⟨h1,j,y,hj,h2,h3⟩:=h.2.2.1 k v hk
    exact ⟨h1,j,y,Nat.lt_succ_of_lt hj,h2,h3⟩
theorem SO1.len {K:MK} {ls:List Int} {i:Nat} {m:KV} {n:Nat} (h:SO1 K ls i m n):m.length<=ls.length:=by
  have:=keys_le h.2.1.once (l:=ls.map iv) (fun k v hk=>by
    obtain ⟨_,j,z,_,hz,rfl⟩:=h.2.2.1 k v hk
    exact List.mem_map_of_mem (List.mem_of_getElem? hz))
  simpa using this
theorem SO1.int {K:MK} (I:IntK K) {m:KV} (h:KOK K m):IntKeys .i64 m:=⟨fun v hv=>by
  obtain ⟨e,he,rfl⟩:=List.mem_map.1 hv
  exact I.k' _ (h.ok e he).1,h.once⟩
def SO2 (K:MK) (ls:List Int) (i:Nat) (m:KV) (n:Nat):Prop:=i<=ls.length/\KOK K m/\(∀k v,mget m k=some v-> ∃j z,i<=j/\ls[j]? =some z/\k=iv z)/\n<=ls.length+2*i
theorem SO2.step {K:MK} (I:IntK K) {ls:List Int} {i:Nat} {m:KV} {n n' :Nat} (h:SO2 K ls i m n) {z:Int} (hz:ls[i]? =some z) (hn:n' <=n+2):SO2 K ls (i+1) (mdel (mset m (iv z) (iv 2)) (iv z)) n' :=by
  have hlt:=(List.getElem?_eq_some_iff.1 hz).1
  have hs:=h.2.1.set (I.k z) (I.v 2 rfl)
  refine ⟨hlt,hs.del _,fun k v hk=> ?_,by have:=h.2.2.2;omega⟩
  rw [mget_del hs.once] at hk
  by_cases e:k=iv z
  · rw [if_pos e] at hk;cases hk
  · rw [if_neg e,mget_set,if_neg e] at hk
    obtain ⟨j,y,hj,h2,h3⟩:=h.2.2.1 k v hk
    refine ⟨j,y,?_,h2,h3⟩
    rcases Nat.lt_or_ge i j with q | q
    · exact q
    · have:j=i:=by omega
      subst this
      rw [hz] at h2
      injection h2 with h2
      exact absurd (by rw [h3,h2]) e
theorem SO2.done {K:MK} {ls:List Int} {m:KV} {n:Nat} (h:SO2 K ls ls.length m n):m.length=0:=by
  have:=keys_le h.2.1.once (l:= []) (fun k v hk=>by
    obtain ⟨j,z,h1,h2,_⟩:=h.2.2.1 k v hk
    rw [List.getElem?_eq_none h1] at h2;cases h2)
  exact Nat.le_antisymm this (Nat.zero_le _)
def SO3 (K:MK) (y:Row) (g:RK 2):Prop:= ∃m,KOK K m/\KeysOf .i64 m (vals y)/\vals g.1=pairsOf (iv 0) m (vals y)/\ ∀k v,mget m k=some v->v=iv 1
theorem SO3.of {K:MK} {ls:List Int} {i n:Nat} {m:KV} (h:SO1 K ls i m n) {x y:Row} (hx:KeysOf .i64 m (vals x)) (hy:KeysOf .i64 m (vals y)) {g:RK 2} (hg:vals g.1=pairsOf (iv 0) m (vals x)):SO3 K y g:=
  ⟨m,h.2.1,hy,by rw [hg,keys_eq h.2.1.once h.2.1.once (EqM.refl _) hx hy],fun k v hk=>(h.2.2.1 k v hk).1⟩
theorem SO3.len {K:MK} {y:Row} {g:RK 2} (h:SO3 K y g):(vals g.1).length=(vals y).length:=by
  obtain ⟨m,_,_,h3,_⟩:=h
  rw [h3,pairs_len]
theorem SO3.shape {K:MK} (I:IntK K) {y:Row} {g:RK 2} (h:SO3 K y g) {i:Nat} (hi:i<(vals g.1).length): ∃x0,(vals g.1)[i]? =some (p2V x0):=by
  have hl:=h.len
  obtain ⟨m,h1,h2,h3,_⟩:=h
  obtain ⟨z,hz⟩:=int_at h2.2.2 (n:=i) (by omega)
  obtain ⟨w,_,hw⟩:=I.v' _ (kok_val h1 (z:=iv 0) (I.v 0 rfl) (iv z))
  refine ⟨(z,w),?_⟩
  rw [h3]
  unfold pairsOf
  rw [List.getElem?_map,hz,Option.map_some]
  show some (Value.agg #[iv z,(mget m (iv z)).getD (iv 0)])=_
  rw [hw]
theorem SO3.at {K:MK} {y:Row} {g:RK 2} (h:SO3 K y g) {i:Nat} {x:Int×Int} (hx:(vals g.1)[i]? =some (p2V x)) {z:Int} (hz:(vals y)[i]? =some (iv z)):x.1=z/\x.2=1:=by
  obtain ⟨m,h1,h2,h3,h4⟩:=h
  rw [h3] at hx
  obtain ⟨a,b⟩:=pairs_at hx
  rw [hz] at a
  injection a with a
  injection a with _ a
  refine ⟨a.symm,?_⟩
  obtain ⟨v,hv⟩:=h2.mem h1.once hz
  rw [←a,hv] at b
  have:=h4 _ _ hv
  simp only [Option.getD_some] at b
  rw [b] at this
  injection this
end Go.Sx
namespace Go.Sx
open Go.RowKit
abbrev A3:=Int×Int×Int
abbrev aV (x:A3) (n:Int):Value:= .agg #[.int .u8 x.1, .int .i64 x.2.1, .int .i64 x.2.2, .int .i64 n]
noncomputable def actD (ent:KV->Value->Ent) (s:KV×List Ent) (k:Int) (key v:Int):KV×List Ent:=
  if Int.tmod k 3=0 then (if (mget s.1 (iv key)).isSome then (mdel s.1 (iv key),s.2++ [ent s.1 (iv key)]) else s) else (mset s.1 (iv key) (iv v),s.2++ [ent s.1 (iv key)])
abbrev A4:=Int×Int×Int×Int
structure SB (K:MK) (ent:KV->Value->Ent) (hs:List KV) (L:List Ent) (m:KV):Prop where
  jr:Jr K ent hs L m
  ok:KOK K m
  zero: ∃h0,(hs++ [m])[0]? =some h0/\EqM h0 []
theorem SB.start {K:MK} {ent:KV->Value->Ent}:SB K ent [] [] []:=⟨Jr.nil [],KOK.nil,[],rfl,EqM.refl _⟩
theorem SB.act {K:MK} (I:IntK K) {ent:KV->Value->Ent} {hs:List KV} {L:List Ent} {m:KV} (h:SB K ent hs L m) (k key v:Int) (hv:(Lit.int .i64 v).wf=true):
    ∃hs',SB K ent (hs++hs') (actD ent (m,L) k key v).2 (actD ent (m,L) k key v).1/\(hs++hs' ++ [(actD ent (m,L) k key v).1])[hs.length]? =some m:=by
  have zero: ∀m' :KV,∃h0,(hs++ [m]++ [m'])[0]? =some h0/\EqM h0 []:=fun m' =>by
    obtain ⟨h0,a,b⟩:=h.zero
    exact ⟨h0,by rw [List.getElem?_append_left (by simp)];exact a,b⟩
  have at_: ∀m' :KV,(hs++ [m]++ [m'])[hs.length]? =some m:=fun m' =>by rw [List.append_assoc,List.getElem?_append_right (Nat.le_refl _)];simp
  unfold actD
  split
  · split
    · obtain ⟨j,o⟩:=h.jr.del h.ok (I.k key)
      exact ⟨[m],⟨j,o,zero _⟩,at_ _⟩
    · exact ⟨[],by rw [List.append_nil];exact h,by simp⟩
  · obtain ⟨j,o⟩:=h.jr.set h.ok (I.k key) (I.v v hv)
    exact ⟨[m],⟨j,o,zero _⟩,at_ _⟩
theorem SB.back {K:MK} {ent:KV->Value->Ent} {b:Nat} (E:EntOK b ent) {hs:List KV} {L:List Ent} {m:KV} (h:SB K ent hs L m) {n:Nat} (hn:n<=L.length) {h0:KV} (h1:(hs++ [m])[n]? =some h0):
    SB K ent (hs.take n) (L.take n) (undoB b (L.drop n) m)/\EqM (undoB b (L.drop n) m) h0:=by
  obtain ⟨k1,k2,k3⟩:=h.jr.back E h.ok hn h1
  refine ⟨⟨k3,k1,?_⟩,k2⟩
  obtain ⟨z,z1,z2⟩:=h.zero
  cases n with
  | zero =>
    rw [z1] at h1
    injection h1 with h1
    exact ⟨_,by simp,k2.trans (h1▸z2)⟩
  | succ n =>
    refine ⟨z,?_,z2⟩
    have hl:0<hs.length:=by rw [h.jr.1];omega
    rw [List.getElem?_append_left (by simp only [List.length_take];omega)]
    rw [List.getElem?_append_left hl] at z1
    rw [List.getElem?_take_of_lt (Nat.succ_pos n)]
    exact z1
end Go.Sx
namespace Go.Sx
open Go.RowKit
end Go.Sx
namespace Go.Sx
open Go.RowKit
abbrev BT:=(Nat->Int)×Bool
def bV (x:BT):Value:= .agg #[.int .u32 (x.1 0), .int .u64 (x.1 1), .int .u64 (x.1 2),
  .int .u8 (x.1 3), .int .u8 (x.1 4), .int .u8 (x.1 5), .int .u8 (x.1 6), .int .u8 (x.1 7), .int .u8 (x.1 8), .int .u8 (x.1 9), .int .u8 (x.1 10),
  .int .u8 (x.1 11), .int .u8 (x.1 12), .int .u8 (x.1 13), .int .u8 (x.1 14), .int .u8 (x.1 15), .int .u8 (x.1 16), .int .u8 (x.1 17), .int .u8 (x.1 18),
  .int .u8 (x.1 19), .int .u8 (x.1 20), .int .u8 (x.1 21), .int .u8 (x.1 22), .int .u8 (x.1 23), .int .u8 (x.1 24), .int .u8 (x.1 25), .int .u8 (x.1 26),
  .int .u8 (x.1 27), .int .u8 (x.1 28), .int .u8 (x.1 29), .int .u8 (x.1 30), .int .u8 (x.1 31), .int .u8 (x.1 32), .int .u8 (x.1 33), .int .u8 (x.1 34),
  .int .u8 (x.1 35), .int .u64 (x.1 36), .int .u64 (x.1 37), .int .u64 (x.1 38), .int .u64 (x.1 39), .int .u64 (x.1 40), .bool x.2]
structure okB (x:BT):Prop where
  n:(Lit.int .u32 (x.1 0)).wf=true
  fr:(Lit.int .u64 (x.1 1)).wf=true
  to:(Lit.int .u64 (x.1 2)).wf=true
  bl:(Lit.int .u64 (x.1 40)).wf=true
  rest: ∀i,41<=i->x.1 i=0
def b0:BT:=(fun _=>0,false)
theorem okB0:okB b0:=⟨rfl,rfl,rfl,rfl,fun _ _=>rfl⟩
def cAt (v:Value) (i:Nat):Int:=ci (cell v i)
def unB (v:Value):BT:=(fun i=>bif Nat.blt i 41 then cAt v i else 0,cb (cell v 41))
theorem bV_un (x:BT):bV (unB (bV x))=bV x:=rfl
theorem bV_i {x y:BT} (h:bV x=bV y) (i:Nat) (hi:i<41):x.1 i=y.1 i:=by
  have h1:=congrArg (fun v=>cAt v i) h
  have: ∀z:BT,cAt (bV z) i=z.1 i:=by
    intro z
    have hi' :i=0∨i=1∨i=2∨i=3∨i=4∨i=5∨i=6∨i=7∨i=8∨i=9∨i=10∨i=11∨i=12∨i=13∨i=14∨i=15∨i=16∨i=17∨i=18∨i=19∨i=20∨i=21∨i=22∨i=23∨i=24∨i=25∨i=26∨i=27∨i=28∨i=29∨i=30∨i=31∨i=32∨i=33∨i=34∨i=35∨i=36∨i=37∨i=38∨i=39∨i=40:=by omega
    rcases hi' with rfl | rfl | rfl | rfl | rfl | rfl | rfl | rfl | rfl | rfl | rfl | rfl | rfl | rfl | rfl | rfl | rfl | rfl | rfl | rfl | rfl | rfl | rfl | rfl | rfl | rfl | rfl | rfl | rfl | rfl | rfl | rfl | rfl | rfl | rfl | rfl | rfl | rfl | rfl | rfl | rfl<;>rfl
  rw [←this x,←this y];exact h1
theorem unB_bV {x:BT} (h:okB x):unB (bV x)=x:=by
  refine Prod.ext (funext fun i=> ?_) rfl
  rcases Nat.lt_or_ge i 41 with q | q
  · exact bV_i (bV_un x) i q
  · show (bif Nat.blt i 41 then cAt (bV x) i else 0)=x.1 i
    have:Nat.blt i 41=false:=by
      cases h:Nat.blt i 41 with
      | false=>rfl
      | true=>rw [Nat.blt_eq] at h;omega
    rw [this,h.rest i q];rfl
end Go.Sx
namespace Go.Sx
open Go.RowKit
structure BTy (P:Program) (t:TypeId) (e32 e64 eh e8 ei eb:TypeId):Prop where
  und:P.underlying t=some (.struct (P.fieldsOf t))
  plain:P.stoodInHeld t=false
  guard:P.eqGuardType P.depth t=false
  fs : ∃ f0 f1 f2 f3 f4 f5 f6 f7, (P.fieldsOf t).toList = [f0, f1, f2, f3, f4, f5, f6, f7] /\ (f0.name ≠ "_" /\ f1.name ≠ "_" /\ f2.name ≠ "_" /\ f3.name ≠ "_" /\ f4.name ≠ "_" /\ f5.name ≠ "_" /\ f6.name ≠ "_" /\ f7.name ≠ "_") /\
    (f0.type=e32/\f1.type=e64/\f2.type=e64/\f3.type=eh/\f4.type=e8/\f5.type=ei/\f6.type=e64/\f7.type=eb)/\(f0.offset=0/\f1.offset=1/\f2.offset=2/\f3.offset=3/\f4.offset=35/\f5.offset=36/\f6.offset=40/\f7.offset=41)
  u32:P.underlying e32=some (.int .u32)
  u64:P.underlying e64=some (.int .u64)
  u8:P.underlying e8=some (.int .u8)
  uh:P.underlying eh=some (.array 32 e8)
  ui:P.underlying ei=some (.array 4 e64)
  ub:P.underlying eb=some .bool
  a32: ∀w,(isAgg e32).run P w= .ok false w
  a64: ∀w,(isAgg e64).run P w= .ok false w
  a8: ∀w,(isAgg e8).run P w= .ok false w
  ab: ∀w,(isAgg eb).run P w= .ok false w
  ah: ∀w,(isAgg eh).run P w= .ok true w
  ai: ∀w,(isAgg ei).run P w= .ok true w
  s64: ∀w,(sizeOf e64).run P w= .ok 1 w
  s8: ∀w,(sizeOf e8).run P w= .ok 1 w
  sh: ∀w,(sizeOf eh).run P w= .ok 32 w
  si: ∀w,(sizeOf ei).run P w= .ok 4 w
end Go.Sx
namespace Go.Sx
open Go.RowKit
structure KB (K:MK):Prop where
  k: ∀v,K.OkK v-> ∃n:Int,v= .int .u32 n
  k' : ∀n:Int,K.OkK (.int .u32 n)
  v: ∀x,K.OkV x-> ∃y,okB y/\x=bV y
  v' : ∀y,okB y->K.OkV (bV y)
theorem KB.int {K:MK} (B:KB K) {m:KV} (h:KOK K m):IntKeys .u32 m:=⟨fun v hv=>by
  obtain ⟨e,he,rfl⟩:=List.mem_map.1 hv
  exact B.k _ (h.ok e he).1,h.once⟩
theorem KB.get {K:MK} (B:KB K) {m:KV} (h:KOK K m) (k:Value): ∃y,okB y/\(mget m k).getD (bV b0)=bV y:=B.v _ (kok_val h (B.v' _ okB0) k)
theorem KB.un {K:MK} (B:KB K) {m:KV} (h:KOK K m) (k:Value):bV (unB ((mget m k).getD (bV b0)))=(mget m k).getD (bV b0)/\okB (unB ((mget m k).getD (bV b0))):=by
  obtain ⟨y,hy,e⟩:=B.get h k
  rw [e,unB_bV hy];exact ⟨rfl,hy⟩
end Go.Sx
namespace Go.Sx
open Go.RowKit
end Go.Sx
namespace Go.Sx
structure DivO (A B:List Int) (n:Nat) (Q L:List Int):Prop where
  le:n<=A.length
  len:Q.length=A.length
  hz:nv (Q.take n)=0
  eq:nv (A.drop n)=nv (Q.drop n)*nv B+nv L
  lt:nv L<nv B
  canon:Canon L
structure DivN (A B:List Int) (i k:Nat) (Q L:List Int):Prop where
  li:i<A.length
  k16:k<=16
  len:Q.length=A.length
  hz:nv (Q.take i)=0
  eq:nv (A.drop (i+1))*2^(16 - k)+dgt A i/2^k=(nv (Q.drop (i+1))*2^(16 - k)+dgt Q i/2^k)*nv B+nv L
  dv:dgt Q i%2^k=0
  lt:nv L<nv B
  canon:Canon L
end Go.Sx
namespace Go.Sx
end Go.Sx
namespace Go.Sx
end Go.Sx
namespace Go.Sx
def sIn (A S n:Int):Int×Int:=
  if n=0 then (0,3) else
  if 115792089237316195423570985008687907853269984665640564039457584007913129639936<=A+1∨115792089237316195423570985008687907853269984665640564039457584007913129639936<=S+1 then (0,2) else
  if 115792089237316195423570985008687907853269984665640564039457584007913129639936<=n*(S+1)/(A+1) then (0,2) else
  if n*(S+1)/(A+1)=0 then (0,3) else
  if 115792089237316195423570985008687907853269984665640564039457584007913129639936<=A+n∨115792089237316195423570985008687907853269984665640564039457584007913129639936<=S+n*(S+1)/(A+1) then (0,2) else
  (n*(S+1)/(A+1),0)
theorem quo_nonneg {n p q:Int} (h0:0<=n) (h1:0<=p) (h2:0<=q):0<=n*(p+1)/(q+1):=Int.ediv_nonneg (Int.mul_nonneg h0 (by omega)) (by omega)
theorem sIn_R {A S n:Int} (hA:R4 A) (hS:R4 S) (hn:R4 n):R4 (sIn A S n).1:=by
  have:=quo_nonneg hn.1 hS.1 hA.1
  unfold sIn R4
  (repeat' split)<;>dsimp only<;>omega
theorem sIn_cases {A S n:Int} {x:Int×Int} (h:x=sIn A S n):
    (x.2=0/\x.1=n*(S+1)/(A+1)/\x.1≠0/\n≠0/\A+n<115792089237316195423570985008687907853269984665640564039457584007913129639936/\S+x.1<115792089237316195423570985008687907853269984665640564039457584007913129639936)∨(x.2≠0/\x.1=0):=by
  subst h;unfold sIn
  (repeat' split)<;>first
    | exact .inr ⟨by decide,rfl⟩
    | (refine .inl ⟨rfl,rfl,?_,?_,?_,?_⟩<;>(try dsimp only)<;>omega)
end Go.Sx
namespace Go.Sx
theorem keep_in {A S n s:Int} (hA:0<=A) (hS:0<=S) (hn:0<=n) (hle:S<=A) (hs:s=n*(S+1)/(A+1)):
    0<=s/\S+s<=A+n/\(A+1)*(S+s+1)<=(A+n+1)*(S+1):=by
  have h0:0<=s:=by rw [hs];exact quo_nonneg hn hS hA
  have h1:s*(A+1)<=n*(S+1):=by rw [hs];exact Int.ediv_mul_le _ (by omega)
  have h2:s<=n:=by
    have:n*(S+1)<=n*(A+1):=Int.mul_le_mul_of_nonneg_left (by omega) hn
    have:=Int.ediv_le_ediv (by omega:0<A+1) this
    rw [Int.mul_ediv_cancel _ (by omega:A+1≠0)] at this
    omega
  refine ⟨h0,by omega,?_⟩
  have e1:(A+1)*(S+s+1)=(A+1)*(S+1)+s*(A+1):=by rw [Int.mul_comm s,←Int.mul_add];congr 1;omega
  have e2:(A+n+1)*(S+1)=(A+1)*(S+1)+n*(S+1):=by rw [←Int.add_mul];congr 1;omega
  omega
end Go.Sx
namespace Go.Sx
open Go.RowKit
abbrev ST:=Int×Int×Int×Int
def stV (s:ST):Value:= .agg #[.int .u64 (lim s.1 0), .int .u64 (lim s.1 1), .int .u64 (lim s.1 2), .int .u64 (lim s.1 3),
  .int .u64 (lim s.2.1 0), .int .u64 (lim s.2.1 1), .int .u64 (lim s.2.1 2), .int .u64 (lim s.2.1 3),
  .int .u64 (lim s.2.2.1 0), .int .u64 (lim s.2.2.1 1), .int .u64 (lim s.2.2.1 2), .int .u64 (lim s.2.2.1 3),
  .int .u64 (lim s.2.2.2 0), .int .u64 (lim s.2.2.2 1), .int .u64 (lim s.2.2.2 2), .int .u64 (lim s.2.2.2 3)]
def numAt (v:Value) (i:Nat):Int:=num (.agg #[cell v i,cell v (i+1),cell v (i+2),cell v (i+3)])
def unST (v:Value):ST:=(numAt v 0,numAt v 4,numAt v 8,numAt v 12)
structure okS (s:ST):Prop where
  a:R4 s.1
  b:R4 s.2.1
  c:R4 s.2.2.1
  d:R4 s.2.2.2
def s0:ST:=(0,0,0,0)
theorem okS0:okS s0:=⟨R4_zero,R4_zero,R4_zero,R4_zero⟩
theorem un_stV {s:ST} (h:okS s):unST (stV s)=s:=by
  have e1:numAt (stV s) 0=num (vI s.1):=rfl
  have e2:numAt (stV s) 4=num (vI s.2.1):=rfl
  have e3:numAt (stV s) 8=num (vI s.2.2.1):=rfl
  have e4:numAt (stV s) 12=num (vI s.2.2.2):=rfl
  unfold unST
  rw [e1,e2,e3,e4,num_vI h.a,num_vI h.b,num_vI h.c,num_vI h.d]
noncomputable def pOf (m:KV) (t:Int):ST:=unST ((mget m (.int .u8 t)).getD (stV s0))
def asst (s:ST):Int:=(hAdd s.1 s.2.1).1
def StK (K:MK):Prop:= ∀x,K.OkV x↔ ∃v,okS v/\x=stV v
theorem StK.get {K:MK} (hK:StK K) {m:KV} (h:KOK K m) (k:Value): ∃v,okS v/\(mget m k).getD (stV s0)=stV v:=by
  cases hg:mget m k with
  | none=>exact ⟨s0,okS0,rfl⟩
  | some x=>obtain ⟨v,hv,rfl⟩:=(hK x).1 (h.val hg);exact ⟨v,hv,rfl⟩
theorem StK.of {K:MK} (hK:StK K) {m:KV} (h:KOK K m) (t:Int):okS (pOf m t):=by
  obtain ⟨v,hv,e⟩:=hK.get h (.int .u8 t)
  unfold pOf;rw [e,un_stV hv];exact hv
theorem pOf_set (m:KV) {t:Int} {s:ST} (hs:okS s) (t' :Int):pOf (mset m (.int .u8 t) (stV s)) t' =if t' =t then s else pOf m t' :=by
  unfold pOf
  rw [mget_set]
  by_cases e:t' =t
  · rw [if_pos (by rw [e]),if_pos e];exact un_stV hs
  · rw [if_neg (by intro x;injection x with _ x;exact e x),if_neg e]
theorem bal_set (m:KV) {t p n:Int} (hn:R4 n) (t' p' :Int):bal (mset m (kk t p) (vI n)) t' p' =if t' =t/\p' =p then n else bal m t' p' :=by
  unfold bal
  rw [mget_set]
  by_cases e:t' =t/\p' =p
  · rw [if_pos (kk_inj.2 e),if_pos e];exact num_vI hn
  · rw [if_neg (fun x=>e (kk_inj.1 x)),if_neg e]
end Go.Sx
namespace Go.Sx
open Go.RowKit
def RK.set {k : Nat} (r : RK k) (n : Nat) (v : Value) (hv : Ag k v) : RK k := ⟨r.1.set n v, by
  obtain ⟨r,hr⟩:=r
  cases r with
  | nil=>trivial
  | mk b vs ex =>
    intro x hx
    rcases List.mem_append.1 hx with hx | hx
    · rcases List.mem_or_eq_of_mem_set hx with hx | rfl
      · exact hr x (List.mem_append_left _ hx)
      · exact hv
    · exact hr x (List.mem_append_right _ hx)⟩
def RK.take {k : Nat} (r : RK k) (m : Nat) : RK k := ⟨r.1.take m, by
  obtain ⟨r,hr⟩:=r
  cases r with
  | nil=>trivial
  | mk b vs ex =>
    intro x hx
    refine hr x ?_
    rcases List.mem_append.1 hx with hx | hx
    · exact List.mem_append_left _ (List.mem_of_mem_take hx)
    · rcases List.mem_append.1 hx with hx | hx
      · exact List.mem_append_left _ (List.mem_of_mem_drop hx)
      · exact List.mem_append_right _ hx⟩
end Go.Sx
namespace Go.Sx
open Go.RowKit
def okT (n:Nat) (xs:List Int):Prop:=xs.length=n/\ ∀x∈xs,R4 x
def tb (b:Nat) (ty:TypeId) (v:Value):Slot:= .par [b] (.val v) (fun h=>(Slot.blk b (.cells v.cells ty (0,0))).sat h)
theorem okT.get {m:Nat} {xs:List Int} (h:okT m xs) (n:Nat):R4 (xs.getD n 0):=by
  rw [List.getD_eq_getElem?_getD]
  cases hx:xs[n]? with
  | none=>exact R4_zero
  | some x=>exact h.2 x (List.mem_of_getElem? hx)
end Go.Sx
namespace Go.Sx
open Go.RowKit
inductive RA where
  | acc (l:List Acc)
  | tab (i:Nat)
end Go.Sx
namespace Go.Sx
open Go.RowKit
theorem asst_R {s:ST} (h:okS s):R4 (asst s):=hAdd_R h.a h.b
noncomputable def jIn (s:BS) (t n:Int):Int×Int:=sIn (asst (pOf s.1 t)) (pOf s.1 t).2.2.2 n
noncomputable def pJoin (es eh:KV->Value->Ent) (s:BS) (t a n:Int):(Int×Int)×BS:=
  if 4<=t∨16<=a then ((0,1),s) else
  if (jIn s t n).2≠0 then ((0,(jIn s t n).2),s) else
  (((jIn s t n).1, 0), mset s.1 (.int .u8 t) (stV ((hAdd (pOf s.1 t).1 n).1, (pOf s.1 t).2.1, (pOf s.1 t).2.2.1, (hAdd (pOf s.1 t).2.2.2 (jIn s t n).1).1)),
    mset s.2.1 (kk t a) (vI (hAdd (bal s.2.1 t a) (jIn s t n).1).1),s.2.2++ [es s.1 (.int .u8 t)]++ [eh s.2.1 (kk t a)])
theorem okT.set {m:Nat} {xs:List Int} (h:okT m xs) (i:Nat) {y:Int} (hy:R4 y):okT m (xs.set i y):=⟨by rw [List.length_set];exact h.1,fun x hx=>(List.mem_or_eq_of_mem_set hx).elim (h.2 x) fun e=>e▸hy⟩
end Go.Sx
namespace Go.Sx
open Go.RowKit
section
variable {es eh:KV->Value->Ent} {s:BS} {t a n:Int} {st:ST} {A:Int} {g:Int×Int}
end
section
variable {c n:Int} {x:Int×Int}
end
section
variable {xs zs x1 x2 x3:List Int} {t a n k:Int} {m i j:Nat} {z:Int} {y:Int×Bool} {g:Int×Int} {A:Int}
variable {c r:Int}
variable {s:ST} {y' :Int×Bool}
end
end Go.Sx
namespace Go.Sx
open Go.RowKit
def sumQ (f:Nat->Int):Nat->Int
  | 0=>0
  | n+1=>sumQ f n+f n
theorem sumQ_same {f g:Nat->Int}: ∀ {n:Nat},(∀i,i<n->g i=f i)->sumQ g n=sumQ f n
  | 0,_=>rfl
  | n+1,h=>by rw [sumQ,sumQ,sumQ_same fun i hi=>h i (by omega),h n (by omega)]
theorem sumQ_upd {f g:Nat->Int} {k:Nat}: ∀ {n:Nat},k<n->(∀i,i≠k->g i=f i)->sumQ g n=sumQ f n - f k+g k
  | 0,h,_=>absurd h (Nat.not_lt_zero _)
  | n + 1, h, ho => by
    rcases Nat.lt_or_ge k n with q | q
    · rw [sumQ,sumQ,sumQ_upd q ho,ho n (by omega)];omega
    · have:k=n:=by omega
      subst this
      rw [sumQ,sumQ,sumQ_same fun i hi=>ho i (by omega)];omega
theorem sumQ_nonneg {f:Nat->Int}: ∀ {n:Nat},(∀i,i<n->0<=f i)->0<=sumQ f n
  | 0,_=>Int.le_refl _
  | n+1,h=>by rw [sumQ];have:=sumQ_nonneg fun i hi=>h i (Nat.lt_succ_of_lt hi);have:=h n (Nat.lt_succ_self n);omega
theorem sumQ_le {f:Nat->Int} {k:Nat}: ∀ {n:Nat},k<n->(∀i,i<n->0<=f i)->f k<=sumQ f n
  | 0,h,_=>absurd h (Nat.not_lt_zero _)
  | n + 1, h, h0 => by
    rcases Nat.lt_or_ge k n with q | q
    · rw [sumQ];have:=sumQ_le q fun i hi=>h0 i (Nat.lt_succ_of_lt hi);have:=h0 n (Nat.lt_succ_self n);omega
    · have:k=n:=by omega
      subst this
      rw [sumQ];have:=sumQ_nonneg (n:=k) fun i hi=>h0 i (Nat.lt_succ_of_lt hi);omega
noncomputable def sumB (h:KV) (t:Int):Int:=sumQ (fun i=>bal h t (i:Int)) 16
structure Solv (Ks Kh:MK) (m h:KV):Prop where
  k:KOK Ks m
  kh:KOK Kh h
  fit: ∀t,(pOf m t).1+(pOf m t).2.1<M256
  sum: ∀t,sumB h t=(pOf m t).2.2.2
  le: ∀t,(pOf m t).2.2.2<=(pOf m t).1+(pOf m t).2.1
theorem Solv.asst {Ks Kh:MK} {m h:KV} (v:Solv Ks Kh m h) (t:Int):asst (pOf m t)=(pOf m t).1+(pOf m t).2.1:=by
  have:=v.fit t;unfold M256 at this;unfold Sx.asst hAdd;rw [if_pos this]
theorem bal_nil' (t p:Int):bal [] t p=0:=by unfold bal;rw [mget_nil];exact num_vI R4_zero
theorem pOf_nil (t:Int):pOf [] t=s0:=by unfold pOf;rw [mget_nil];exact un_stV okS0
theorem sumQ_zero: ∀n,sumQ (fun _=>0) n=0
  | 0=>rfl
  | n+1=>by rw [sumQ,sumQ_zero n];rfl
theorem Solv.start {Ks Kh:MK}:Solv Ks Kh [] []:=⟨KOK.nil,KOK.nil,fun t=>by rw [pOf_nil];decide,fun t=>by
  rw [pOf_nil];unfold sumB
  rw [sumQ_same (f:=fun _=>0) fun i _=>bal_nil' t i,sumQ_zero];rfl,fun t=>by rw [pOf_nil];decide⟩
section
variable {Ks Kh:MK} {m h:KV}
theorem balQ_R (hH:NumK Kh) (v:Solv Ks Kh m h) (t p:Int):R4 (bal h t p):=KOK.R4v hH v.kh _
theorem Solv.hold (hH:NumK Kh) (v:Solv Ks Kh m h) (t:Int) {a:Int} (h0:0<=a) (h1:a<16):bal h t a<=(pOf m t).2.2.2:=by
  have:=sumQ_le (f:=fun i=>bal h t (i:Int)) (k:=a.toNat) (n:=16) (by omega) (fun i _=>(balQ_R hH v t i).1)
  rw [←v.sum t]
  simp only [Int.toNat_of_nonneg h0] at this
  exact this
theorem Solv.put (hS:StK Ks) (hH:NumK Kh) (v:Solv Ks Kh m h) {t a x:Int} {s:ST} (ht:Ks.OkK (.int .u8 t)) (ha:Kh.OkK (kk t a)) (h0:0<=a) (h1:a<16) (hs:okS s) (hx:R4 x) (f:s.1+s.2.1<M256) (e:s.2.2.2 - (pOf m t).2.2.2=x - bal h t a) (l:s.2.2.2<=s.1+s.2.1):
    Solv Ks Kh (mset m (.int .u8 t) (stV s)) (mset h (kk t a) (vI x)):=by
  refine ⟨v.k.set ht ((hS _).2 ⟨s,hs,rfl⟩),v.kh.set ha ((hH _).2 ⟨x,hx,rfl⟩),fun t' => ?_,fun t' => ?_,fun t' => ?_⟩
  · rw [pOf_set m hs];split
    · exact f
    · exact v.fit t'
  · rw [pOf_set m hs]
    unfold sumB
    split
    · rename_i q;subst q
      rw [sumQ_upd (f:=fun i=>bal h t' (i:Int)) (k:=a.toNat) (by omega) fun i hi=>by rw [bal_set h hx,if_neg (by omega)],bal_set h hx]
      simp only [Int.toNat_of_nonneg h0]
      have:=v.sum t'
      unfold sumB at this
      rw [if_pos ⟨trivial,trivial⟩,this];omega
    · rename_i q
      rw [sumQ_same (f:=fun i=>bal h t' (i:Int)) fun i _=>by rw [bal_set h hx,if_neg (by omega)]]
      exact v.sum t'
  · rw [pOf_set m hs];split
    · exact l
    · exact v.le t'
structure PoolK (Ks Kh:MK):Prop where
  s:StK Ks
  h:NumK Kh
  kt: ∀t:Int,Ks.OkK (.int .u8 t)
  kh: ∀t a:Int,Kh.OkK (kk t a)
variable {es eh:KV->Value->Ent} {L:List Ent} {t a n:Int}
theorem Solv.join (K:PoolK Ks Kh) (v:Solv Ks Kh m h) (hn:R4 n) (h0:0<=a) {x:(Int×Int)×BS} (hx:x=pJoin es eh (m,h,L) t a n):
    (x.1.2≠0/\x.1.1=0/\x.2=(m,h,L))∨(x.1.2=0/\t<4/\a<16/\n≠0/\x.1.1≠0/\R4 x.1.1/\x.1.1=n*((pOf m t).2.2.2+1)/((pOf m t).1+(pOf m t).2.1+1)/\Solv Ks Kh x.2.1 x.2.2.1/\
      (∀t',pOf x.2.1 t' =if t' =t then ((pOf m t).1+n,(pOf m t).2.1,(pOf m t).2.2.1,(pOf m t).2.2.2+x.1.1) else pOf m t')/\(∀t' a',bal x.2.2.1 t' a' =if t' =t/\a' =a then bal h t a+x.1.1 else bal h t' a')/\
      (pOf m t).1+n+(pOf m t).2.1<M256/\x.2.2.2.length<=L.length+2):=by
  have S:=K.s.of v.k t
  have B:=balQ_R K.h v t a
  have F:=v.fit t
  have A:=v.asst t
  subst hx
  unfold pJoin
  split
  · exact .inl ⟨(by decide:(1:Int)≠0),rfl,rfl⟩
  rename_i hc
  have g:=sIn_cases (x:=jIn (m,h,L) t n) rfl
  split
  · rename_i hz;exact .inl ⟨hz,rfl,rfl⟩
  rename_i hz
  have hz' :(jIn (m,h,L) t n).2=0:=by simpa using hz
  have hR:R4 (jIn (m,h,L) t n).1:=sIn_R (asst_R S) S.d hn
  obtain ⟨_,g2,g3,g4,g5,g6⟩:=g.resolve_right fun q=>q.1 hz'
  dsimp only at g2 g3 g4 g5 g6 A F S ⊢
  rw [A] at g2 g5
  have H:=v.hold K.h t h0 (by omega)
  have e1:(hAdd (pOf m t).1 n).1=(pOf m t).1+n:=by unfold hAdd;rw [if_pos (by have:=S.b.1;omega)]
  have e2:(hAdd (pOf m t).2.2.2 (jIn (m,h,L) t n).1).1=(pOf m t).2.2.2+(jIn (m,h,L) t n).1:=by unfold hAdd;rw [if_pos (by omega)]
  have e3:(hAdd (bal h t a) (jIn (m,h,L) t n).1).1=bal h t a+(jIn (m,h,L) t n).1:=by unfold hAdd;rw [if_pos (by omega)]
  rw [e1,e2,e3]
  have hs:okS ((pOf m t).1+n,(pOf m t).2.1,(pOf m t).2.2.1,(pOf m t).2.2.2+(jIn (m,h,L) t n).1):=by
    refine ⟨?_,S.b,S.c,?_⟩
    · have:=S.a.1;have:=S.b.1;have:=hn.1;unfold R4;dsimp only;omega
    · have:=S.d.1;have:=hR.1;unfold R4;dsimp only;omega
  have hb:R4 (bal h t a+(jIn (m,h,L) t n).1):=by have:=B.1;have:=hR.1;unfold R4;omega
  have kp:=keep_in (A:=(pOf m t).1+(pOf m t).2.1) (by have:=S.a.1;have:=S.b.1;omega) S.d.1 hn.1 (v.le t) g2
  refine .inr ⟨rfl,by omega,by omega,g4,g3,hR,g2,v.put K.s K.h (K.kt t) (K.kh t a) h0 (by omega) hs hb ?_ ?_ ?_,fun t' =>by rw [pOf_set m hs],fun t' a' =>by rw [bal_set h hb],?_,by simp⟩
  · unfold M256;dsimp only;omega
  · dsimp only;omega
  · dsimp only;omega
  · unfold M256;omega
end
end Go.Sx
namespace Go.Sx
end Go.Sx
namespace Go.Sx
open Go.RowKit
section
variable {es eh:KV->Value->Ent} {xs:List Int} {s:BS} {k t a n:Int}
end
end Go.Sx
namespace Go.Sx
open Go.RowKit
structure SEq (P:Program) (t ei e64:TypeId):Prop where
  und:P.underlying t=some (.struct (P.fieldsOf t))
  plain:P.stoodInHeld t=false
  guard:P.eqGuardType P.depth t=false
  fs : ∃ f0 f1 f2 f3, (P.fieldsOf t).toList = [f0, f1, f2, f3] /\ (f0.name ≠ "_" /\ f1.name ≠ "_" /\ f2.name ≠ "_" /\ f3.name ≠ "_") /\ (f0.type = ei /\ f1.type = ei /\ f2.type = ei /\ f3.type = ei) /\ (f0.offset = 0 /\ f1.offset = 4 /\ f2.offset = 8 /\ f3.offset = 12)
  u64:P.underlying e64=some (.int .u64)
  ui:P.underlying ei=some (.array 4 e64)
  a64: ∀w,(isAgg e64).run P w= .ok false w
  ai: ∀w,(isAgg ei).run P w= .ok true w
  s64: ∀w,(sizeOf e64).run P w= .ok 1 w
  si: ∀w,(sizeOf ei).run P w= .ok 4 w
end Go.Sx
namespace Go.Sx
def U (x:Int):Prop:=0<=x/\x<4294967296
theorem wrapU (x:Int):IntKind.u32.wrap x=x%4294967296:=rfl
theorem U_wrap (x:Int):U (IntKind.u32.wrap x):=⟨Int.emod_nonneg _ (by decide),Int.emod_lt_of_pos _ (by decide)⟩
theorem wrap_U {x:Int} (h:U x):IntKind.u32.wrap x=x:=by rw [wrapU];exact Int.emod_eq_of_lt h.1 h.2
def dn1 (t:Bool) (x:Int):Int:=bif t && (Int.tmod x 2==1) then IntKind.u32.wrap (IntKind.u32.wrap (Int.tdiv x 2)+2147483648) else IntKind.u32.wrap (Int.tdiv x 2)
def dn (t:Bool):Nat->Int->Int
  | 0,x=>x
  | n+1,x=>dn1 t (dn t n x)
def dnN (x n:Nat):Nat:=x/2^n+(x%2^n)*2^(32 - n)
theorem dn1_N {x:Nat} (hx:x<2^32):dn1 true (x:Int)=((x/2+x%2*2^31:Nat):Int):=by
  have e1:Int.tmod (x:Int) 2=((x%2:Nat):Int):=by rw [Int.tmod_eq_emod_of_nonneg (by omega)];omega
  have e2:IntKind.u32.wrap (Int.tdiv (x:Int) 2)=((x/2:Nat):Int):=by rw [Int.tdiv_eq_ediv_of_nonneg (by omega),wrap_U ⟨by omega,by omega⟩];omega
  unfold dn1
  rw [e1,e2]
  rcases Nat.mod_two_eq_zero_or_one x with h | h
  · rw [h];simp
  · rw [h]
    show IntKind.u32.wrap (((x/2:Nat):Int)+2147483648)=_
    rw [wrap_U ⟨by omega,by omega⟩];omega
theorem dnN_step {x n:Nat} (hn:n<32):dnN x (n+1)=dnN x n/2+dnN x n%2*2^31:=by
  have e1:2^(32 - n)=2*2^(31 - n):=by rw [show 32 - n=(31 - n)+1 by omega,Nat.pow_succ,Nat.mul_comm]
  have e2:2^(32 - (n+1))=2^(31 - n):=by rw [show 32 - (n+1)=31 - n by omega]
  have e3:x/2^(n+1)=x/2^n/2:=by rw [Nat.pow_succ,Nat.div_div_eq_div_mul]
  have e4:x%2^(n+1)=x%2^n+2^n*(x/2^n%2):=by rw [Nat.pow_succ,Nat.mod_mul]
  have e5:2^n*2^(31 - n)=2^31:=by rw [←Nat.pow_add];congr 1;omega
  unfold dnN
  rw [e1,e2,e3,e4]
  generalize x/2^n=a
  generalize x%2^n=b
  generalize hp:2^(31 - n)=p at *
  generalize hq:2^n=q at *
  have e6:(a+b*(2*p))/2=a/2+b*p:=by rw [show b*(2*p)=2*(b*p) by rw [Nat.mul_left_comm]];omega
  have e7:(a+b*(2*p))%2=a%2:=by rw [show b*(2*p)=2*(b*p) by rw [Nat.mul_left_comm]];omega
  rw [e6,e7,Nat.add_mul,Nat.mul_right_comm,e5,Nat.mul_comm (2^31)]
  omega
theorem dnN_lt {x n:Nat} (hx:x<2^32) (hn:n<=32):dnN x n<2^32:=by
  have e5:2^n*2^(32 - n)=2^32:=by rw [←Nat.pow_add];congr 1;omega
  unfold dnN
  have h1:x/2^n<2^(32 - n):=by
    refine (Nat.div_lt_iff_lt_mul (Nat.two_pow_pos n)).2 ?_
    rw [Nat.mul_comm,e5];exact hx
  have h2:x%2^n<2^n:=Nat.mod_lt _ (Nat.two_pow_pos n)
  have h3:(x%2^n+1)*2^(32 - n)<=2^n*2^(32 - n):=Nat.mul_le_mul_right _ h2
  rw [e5,Nat.add_mul,Nat.one_mul] at h3
  omega
theorem dn_N {x:Nat} (hx:x<2^32): ∀n,n<=32->dn true n (x:Int)=((dnN x n:Nat):Int)
  | 0,_=>by simp [dn,dnN,Nat.mod_one]
  | n+1,h=>by rw [dn,dn_N hx n (by omega),dn1_N (dnN_lt hx (by omega)),dnN_step (by omega)]
theorem dn_F {x:Nat} (hx:x<2^32): ∀n,dn false n (x:Int)=((x/2^n:Nat):Int)
  | 0=>by simp [dn]
  | n + 1 => by
    rw [dn,dn_F hx n]
    unfold dn1
    have h1:x/2^n<2^32:=Nat.lt_of_le_of_lt (Nat.div_le_self _ _) hx
    rw [Bool.false_and,cond_false,Int.tdiv_eq_ediv_of_nonneg (Int.natCast_nonneg _),Nat.pow_succ,←Nat.div_div_eq_div_mul]
    generalize x/2^n=a at *
    rw [wrap_U ⟨by omega,by omega⟩];omega
theorem bvN {x:Nat} (hx:x<2^32):(BitVec.ofInt 32 (x:Int)).toNat=x:=by
  rw [BitVec.ofInt_natCast,BitVec.toNat_ofNat];exact Nat.mod_eq_of_lt hx
theorem wrapN {x:Nat} (hx:x<2^32):IntKind.u32.wrap ((x:Nat):Int)=x:=wrap_U ⟨by omega,by omega⟩
theorem or_N {a b:Nat} (ha:a<2^32) (hb:b<2^32):or32 (a:Int) (b:Int)=((a ||| b:Nat):Int):=by
  unfold or32
  rw [BitVec.toNat_or,bvN ha,bvN hb,wrapN (Nat.or_lt_two_pow ha hb)]
theorem rotr_N {x n:Nat} (hx:x<2^32) (h0:0<n) (hn:n<32):rotr n (x:Int)=((dnN x n:Nat):Int):=by
  have e5:2^n*2^(32 - n)=2^32:=by rw [←Nat.pow_add];congr 1;omega
  have h1:x/2^n<2^(32 - n):=by
    refine (Nat.div_lt_iff_lt_mul (Nat.two_pow_pos n)).2 ?_
    rw [Nat.mul_comm,e5];exact hx
  have h4:x%2^n*2^(32 - n)<2^32:=by
    rw [←e5];exact Nat.mul_lt_mul_of_pos_right (Nat.mod_lt _ (Nat.two_pow_pos n)) (Nat.two_pow_pos _)
  have ew:IntKind.u32.wrap ((x:Int)*2^(32 - n))=((x%2^n*2^(32 - n):Nat):Int):=by
    rw [wrapU]
    have e6:((x:Int)*2^(32 - n))=((x*2^(32 - n):Nat):Int):=by simp
    rw [e6,show (4294967296:Int)=((2^32:Nat):Int) from rfl,←Int.natCast_emod]
    congr 1
    rw [←e5,Nat.mul_mod_mul_right]
  have ed:Int.fdiv (x:Int) (2^(32 - (32 - n)))=((x/2^n:Nat):Int):=by
    rw [show 32 - (32 - n)=n by omega,Int.fdiv_eq_ediv_of_nonneg _ (by exact_mod_cast Nat.zero_le _)]
    simp
  unfold rotr rotl
  rw [ew,ed,or_N h4 (Nat.lt_of_lt_of_le h1 (Nat.pow_le_pow_right (by decide) (by omega)))]
  congr 1
  have:=Nat.shiftLeft_add_eq_or_of_lt h1 (x%2^n)
  rw [Nat.shiftLeft_eq] at this
  rw [←this]
  unfold dnN;omega
theorem U_nat {x:Int} (h:U x): ∃n:Nat,n<2^32/\x=(n:Int):=⟨x.toNat,by have:=h.1;have:=h.2;omega,by have:=h.1;omega⟩
theorem dn_rotr {x:Int} (h:U x) {n:Int} {k:Nat} (hk:n.toNat=k) (h0:0<k) (hn:k<32):dn true n.toNat x=rotr k x:=by
  obtain ⟨m,hm,rfl⟩:=U_nat h
  rw [hk,dn_N hm k (by omega),rotr_N hm h0 hn]
theorem dn_shr {x:Int} (h:U x) {n:Int} {k:Nat} (hk:n.toNat=k):dn false n.toNat x=shr32 k x:=by
  obtain ⟨m,hm,rfl⟩:=U_nat h
  unfold shr32
  rw [hk,dn_F hm k,Int.fdiv_eq_ediv_of_nonneg _ (by exact_mod_cast Nat.zero_le _)]
  simp
theorem bv_ch (e f g:BitVec 32):(e &&& f)^^^((4294967295#32^^^e) &&& g)=(e &&& f) ||| ((4294967295#32^^^e) &&& g):=by
  apply BitVec.eq_of_getElem_eq
  intro i hi
  have h1:(4294967295#32)[i]=true:=by
    have:(4294967295#32)=BitVec.allOnes 32:=rfl
    rw [this,BitVec.getElem_allOnes]
  simp only [BitVec.getElem_xor,BitVec.getElem_and,BitVec.getElem_or,h1]
  cases e[i]<;>cases f[i]<;>cases g[i]<;>rfl
theorem bv_mj (a b c:BitVec 32):((a &&& b)^^^(a &&& c))^^^(b &&& c)=((a &&& b) ||| (a &&& c)) ||| (b &&& c):=by
  apply BitVec.eq_of_getElem_eq
  intro i hi
  simp only [BitVec.getElem_xor,BitVec.getElem_and,BitVec.getElem_or]
  cases a[i]<;>cases b[i]<;>cases c[i]<;>rfl
theorem ofInt_wrapN (b:BitVec 32):BitVec.ofInt 32 (IntKind.u32.wrap ((b.toNat:Nat):Int))=b:=by
  rw [wrapN b.isLt,BitVec.ofInt_natCast,BitVec.ofNat_toNat,BitVec.setWidth_eq]
theorem ref_not {e:Int} (h:U e):IntKind.u32.wrap (4294967295 - e)=not32 e:=by
  obtain ⟨m,hm,rfl⟩:=U_nat h
  unfold not32
  have h1:(BitVec.ofInt 32 4294967295^^^BitVec.ofInt 32 (m:Int))= ~~~ (BitVec.ofInt 32 (m:Int)):=by
    have:BitVec.ofInt 32 4294967295=BitVec.allOnes 32:=rfl
    rw [this,BitVec.allOnes_xor]
  rw [h1,BitVec.toNat_not,bvN hm,wrap_U ⟨by omega,by omega⟩,wrap_U ⟨by omega,by omega⟩]
  omega
theorem ref_ch {e f g:Int} (h:U e):or32 (and32 e f) (and32 (IntKind.u32.wrap (4294967295 - e)) g)=xor32 (and32 e f) (and32 (not32 e) g):=by
  rw [ref_not h]
  unfold or32 xor32 and32 not32
  simp only [ofInt_wrapN]
  rw [show BitVec.ofInt 32 4294967295=4294967295#32 from rfl,bv_ch]
theorem ref_mj (a b c:Int):or32 (or32 (and32 a b) (and32 a c)) (and32 b c)=xor32 (xor32 (and32 a b) (and32 a c)) (and32 b c):=by
  unfold or32 xor32 and32
  simp only [ofInt_wrapN]
  rw [bv_mj]
end Go.Sx
namespace Go.Sx
def BY (l:List Int):Prop:= ∀x∈l,0<=x/\x<256
theorem BY.at {l:List Int} (h:BY l) (i:Nat):0<=l.getD i 0/\l.getD i 0<256:=by
  rcases Nat.lt_or_ge i l.length with q | q
  · rw [List.getD_eq_getElem?_getD,List.getElem?_eq_getElem q];exact h _ (List.getElem_mem q)
  · rw [List.getD_eq_getElem?_getD,List.getElem?_eq_none q];exact ⟨Int.le_refl _,by decide⟩
theorem BY.app {a b:List Int} (h:BY a) (g:BY b):BY (a++b):=fun x hx=>(List.mem_append.1 hx).elim (h x) (g x)
theorem tail43_BY:BY tail43:=by
  intro x hx
  simp only [tail43,List.mem_cons,List.not_mem_nil,or_false] at hx
  omega
theorem or_step {c b:Int} (hc:0<=c/\c<16777216) (hb:0<=b/\b<256):or32 (IntKind.u32.wrap (c*2^8)) (IntKind.u32.wrap b)=c*256+b:=by
  obtain ⟨m,rfl⟩: ∃m:Nat,c=m:=⟨c.toNat,by omega⟩
  obtain ⟨n,rfl⟩: ∃n:Nat,b=n:=⟨b.toNat,by omega⟩
  have e1:IntKind.u32.wrap ((m:Int)*2^8)=((m*256:Nat):Int):=by rw [wrap_U ⟨by omega,by omega⟩];omega
  rw [e1,wrapN (by omega),or_N (by omega) (by omega)]
  have:=Nat.shiftLeft_add_eq_or_of_lt (show n<2^8 by omega) m
  rw [Nat.shiftLeft_eq] at this
  rw [show m*256=m*2^8 from rfl,←this];omega
def w4 (a b c d:Int):Int:=IntKind.u32.wrap (IntKind.u32.wrap (IntKind.u32.wrap (IntKind.u32.wrap (IntKind.u32.wrap a*16777216)+IntKind.u32.wrap (IntKind.u32.wrap b*65536))+IntKind.u32.wrap (IntKind.u32.wrap c*256))+IntKind.u32.wrap d)
theorem w4_cat {q:Nat->Int} (hq: ∀k,0<=q k/\q k<256) (i:Nat):w4 (q (4*i)) (q (4*i+1)) (q (4*i+2)) (q (4*i+3))=cat4 q i 4:=by
  have h0:=hq (4*i);have h1:=hq (4*i+1);have h2:=hq (4*i+2);have h3:=hq (4*i+3)
  have c1:cat4 q i 1=q (4*i):=by
    show or32 (IntKind.u32.wrap (0*2^8)) (IntKind.u32.wrap (q (4*i)))=_
    rw [or_step (c:=0) ⟨by omega,by omega⟩ h0];omega
  have c2:cat4 q i 2=q (4*i)*256+q (4*i+1):=by
    show or32 (IntKind.u32.wrap (cat4 q i 1*2^8)) (IntKind.u32.wrap (q (4*i+1)))=_
    rw [c1,or_step ⟨by omega,by omega⟩ h1]
  have c3:cat4 q i 3=(q (4*i)*256+q (4*i+1))*256+q (4*i+2):=by
    show or32 (IntKind.u32.wrap (cat4 q i 2*2^8)) (IntKind.u32.wrap (q (4*i+2)))=_
    rw [c2,or_step ⟨by omega,by omega⟩ h2]
  show _=or32 (IntKind.u32.wrap (cat4 q i 3*2^8)) (IntKind.u32.wrap (q (4*i+3)))
  rw [c3,or_step ⟨by omega,by omega⟩ h3]
  unfold w4
  generalize q (4*i)=a at *
  generalize q (4*i+1)=b at *
  generalize q (4*i+2)=c at *
  generalize q (4*i+3)=d at *
  rw [wrap_U (x:=a) ⟨by omega,by omega⟩,wrap_U (x:=b) ⟨by omega,by omega⟩,wrap_U (x:=c) ⟨by omega,by omega⟩,wrap_U (x:=d) ⟨by omega,by omega⟩,wrap_U (x:=a*16777216) ⟨by omega,by omega⟩,wrap_U (x:=b*65536) ⟨by omega,by omega⟩,wrap_U (x:=c*256) ⟨by omega,by omega⟩,
    wrap_U (x:=a*16777216+b*65536) ⟨by omega,by omega⟩,wrap_U (x:=a*16777216+b*65536+c*256) ⟨by omega,by omega⟩,wrap_U ⟨by omega,by omega⟩]
  omega
theorem wl_U (q:Nat->Int): ∀i,∀x∈wl q i,U x
  | 0,x,h=>by cases h
  | i + 1, x, h => by
    rcases List.mem_append.1 h with h | h
    · exact wl_U q i x h
    · rw [List.mem_singleton.1 h]
      split
      · exact U_wrap _
      · exact U_wrap _
theorem wl_Ug (q:Nat->Int) (i j:Nat):U ((wl q i).getD j 0):=by
  rcases Nat.lt_or_ge j (wl q i).length with h | h
  · rw [List.getD_eq_getElem?_getD,List.getElem?_eq_getElem h];exact wl_U q i _ (List.getElem_mem h)
  · rw [List.getD_eq_getElem?_getD,List.getElem?_eq_none h];exact ⟨Int.le_refl _,by decide⟩
def mix (t:Bool) (a b c:Int) (x:Int):Int:=xor32 (xor32 (dn true a.toNat x) (dn true b.toNat x)) (dn t c.toNat x)
theorem mix_tur {x:Int} (h:U x) {a b c:Int} {k l m:Nat} (ha:a.toNat=k) (hb:b.toNat=l) (hc:c.toNat=m) (k0:0<k) (k1:k<32) (l0:0<l) (l1:l<32) (m0:0<m) (m1:m<32):mix true a b c x=tur k l m x:=by
  unfold mix tur;rw [dn_rotr h ha k0 k1,dn_rotr h hb l0 l1,dn_rotr h hc m0 m1]
theorem mix_sg0 {x:Int} (h:U x):mix false 7 18 3 x=sg0 x:=by
  unfold mix sg0;rw [dn_rotr h (k:=7) rfl (by decide) (by decide),dn_rotr h (k:=18) rfl (by decide) (by decide),dn_shr h (k:=3) rfl]
theorem mix_sg1 {x:Int} (h:U x):mix false 17 19 10 x=sg1 x:=by
  unfold mix sg1;rw [dn_rotr h (k:=17) rfl (by decide) (by decide),dn_rotr h (k:=19) rfl (by decide) (by decide),dn_shr h (k:=10) rfl]
theorem words_set {q:Nat->Int} {x:Nat} (hx:x<64) {n:Nat} (hn:n=x) {v:Int} (hv:v=if x<16 then cat4 q x 4 else nx (wl q x) x):(arrV .u32 (wz q x)).setIfInBounds n (.int .u32 v)=arrV .u32 (wz q (x+1)):=by
  rw [hn,arrV_set,wz_step hx hv]
theorem ref_lo {q:Nat->Int} {x:Nat} (hx:x<16) {v:Int} (hv:v=cat4 q x 4):v=if x<16 then cat4 q x 4 else nx (wl q x) x:=by rw [if_pos hx];exact hv
theorem ref_hi {q:Nat->Int} {x:Nat} (hx:x<64) (h0: ¬x<16) {i16 i7 i15 i2:Nat} (e16:i16=x - 16) (e7:i7=x - 7) (e15:i15=x - 15) (e2:i2=x - 2) {y15 y2:Int} (h15:y15=ci ((arrV .u32 (wz q x)).getD i15 undef)) (h2:y2=ci ((arrV .u32 (wz q x)).getD i2 undef)):
    add32 (add32 (add32 (ci ((arrV .u32 (wz q x)).getD i16 undef)) (ci ((arrV .u32 (wz q x)).getD i7 undef))) (mix false 7 18 3 y15)) (mix false 17 19 10 y2)=if x<16 then cat4 q x 4 else nx (wl q x) x:=by
  subst e16 e7 e15 e2
  have hl:(wz q x).length=64:=wz_length (by omega)
  have g: ∀j,j<x->ci ((arrV .u32 (wz q x)).getD j undef)=(wl q x).getD j 0:=fun j hj=>by rw [arrV_ci (by omega),wz_get hj]
  rw [if_neg h0,h15,h2,g _ (by omega),g _ (by omega),g _ (by omega),g _ (by omega),mix_sg0 (wl_Ug _ _ _),mix_sg1 (wl_Ug _ _ _)]
  rfl
structure S8.OK (s:S8):Prop where
  a:U s.a
  b:U s.b
  c:U s.c
  d:U s.d
  e:U s.e
  f:U s.f
  g:U s.g
  h:U s.h
theorem S8.OK.rnd {s:S8} (o:s.OK) (k w:Int):(s.rnd k w).OK:=⟨U_wrap _,o.a,o.b,o.c,U_wrap _,o.e,o.f,o.g⟩
theorem rnds_OK {K W:List Int} {s:S8} (o:s.OK): ∀i,(rnds K W s i).OK
  | 0=>o
  | i+1=>(rnds_OK o i).rnd _ _
theorem shaH_OK:(S8.ofl shaH).OK:=⟨⟨by decide,by decide⟩,⟨by decide,by decide⟩,⟨by decide,by decide⟩,⟨by decide,by decide⟩,⟨by decide,by decide⟩,⟨by decide,by decide⟩,⟨by decide,by decide⟩,⟨by decide,by decide⟩⟩
theorem ref_t1 {s:S8} (o:s.OK) {k w k' w' :Int} (hk:k' =k) (hw:w' =w):
    add32 (add32 (add32 (add32 s.h (mix true 6 11 25 s.e)) (or32 (and32 s.e s.f) (and32 (IntKind.u32.wrap (4294967295 - s.e)) s.g))) k') w' =s.t1 k w:=by
  rw [mix_tur o.e (k:=6) (l:=11) (m:=25) rfl rfl rfl (by decide) (by decide) (by decide) (by decide) (by decide) (by decide),ref_ch o.e,hk,hw];rfl
theorem ref_t2 {s:S8} (o:s.OK):add32 (mix true 2 13 22 s.a) (or32 (or32 (and32 s.a s.b) (and32 s.a s.c)) (and32 s.b s.c))=s.t2:=by
  rw [mix_tur o.a (k:=2) (l:=13) (m:=22) rfl rfl rfl (by decide) (by decide) (by decide) (by decide) (by decide) (by decide),ref_mj];rfl
def o3 (x:Int):Int:=IntKind.u8.wrap (Int.tmod x 256)
def q8 (x:Int):Int:=IntKind.u32.wrap (Int.tdiv x 256)
theorem o_at {x:Int} (h:U x):o3 x=IntKind.u8.wrap (Int.fdiv x (2^0))/\o3 (q8 x)=IntKind.u8.wrap (Int.fdiv x (2^8))/\o3 (q8 (q8 x))=IntKind.u8.wrap (Int.fdiv x (2^16))/\o3 (q8 (q8 (q8 x)))=IntKind.u8.wrap (Int.fdiv x (2^24)):=by
  have w8: ∀n:Int,IntKind.u8.wrap n=n%256:=fun _=>rfl
  have q: ∀y:Int,U y->q8 y=y/256/\U (y/256):=fun y hy=>by
    have h0:=hy.1;have h1:=hy.2
    unfold q8
    rw [Int.tdiv_eq_ediv_of_nonneg h0,wrap_U ⟨by omega,by omega⟩]
    exact ⟨rfl,by omega,by omega⟩
  have o: ∀y:Int,U y->o3 y=y%256:=fun y hy=>by
    unfold o3
    rw [Int.tmod_eq_emod_of_nonneg hy.1,w8];omega
  obtain ⟨q1,u1⟩:=q x h
  obtain ⟨q2,u2⟩:=q _ u1
  obtain ⟨q3,u3⟩:=q _ u2
  rw [q1,q2,q3,o x h,o _ u1,o _ u2,o _ u3,w8,w8,w8,w8]
  rw [Int.fdiv_eq_ediv_of_nonneg _ (by decide),Int.fdiv_eq_ediv_of_nonneg _ (by decide),Int.fdiv_eq_ediv_of_nonneg _ (by decide),Int.fdiv_eq_ediv_of_nonneg _ (by decide)]
  refine ⟨?_,?_,?_,?_⟩<;>omega
theorem out32 {s:S8} (o:s.OK):Value.agg #[.int .u8 (o3 (q8 (q8 (q8 s.a)))), .int .u8 (o3 (q8 (q8 s.a))), .int .u8 (o3 (q8 s.a)), .int .u8 (o3 s.a), .int .u8 (o3 (q8 (q8 (q8 s.b)))), .int .u8 (o3 (q8 (q8 s.b))), .int .u8 (o3 (q8 s.b)), .int .u8 (o3 s.b),
    .int .u8 (o3 (q8 (q8 (q8 s.c)))), .int .u8 (o3 (q8 (q8 s.c))), .int .u8 (o3 (q8 s.c)), .int .u8 (o3 s.c), .int .u8 (o3 (q8 (q8 (q8 s.d)))), .int .u8 (o3 (q8 (q8 s.d))), .int .u8 (o3 (q8 s.d)), .int .u8 (o3 s.d),
    .int .u8 (o3 (q8 (q8 (q8 s.e)))), .int .u8 (o3 (q8 (q8 s.e))), .int .u8 (o3 (q8 s.e)), .int .u8 (o3 s.e), .int .u8 (o3 (q8 (q8 (q8 s.f)))), .int .u8 (o3 (q8 (q8 s.f))), .int .u8 (o3 (q8 s.f)), .int .u8 (o3 s.f),
    .int .u8 (o3 (q8 (q8 (q8 s.g)))), .int .u8 (o3 (q8 (q8 s.g))), .int .u8 (o3 (q8 s.g)), .int .u8 (o3 s.g), .int .u8 (o3 (q8 (q8 (q8 s.h)))), .int .u8 (o3 (q8 (q8 s.h))), .int .u8 (o3 (q8 s.h)), .int .u8 (o3 s.h)]=hV (sumf s):=by
  rw [(o_at o.a).1,(o_at o.a).2.1,(o_at o.a).2.2.1,(o_at o.a).2.2.2,(o_at o.b).1,(o_at o.b).2.1,(o_at o.b).2.2.1,(o_at o.b).2.2.2,(o_at o.c).1,(o_at o.c).2.1,(o_at o.c).2.2.1,(o_at o.c).2.2.2,(o_at o.d).1,(o_at o.d).2.1,(o_at o.d).2.2.1,(o_at o.d).2.2.2,
    (o_at o.e).1,(o_at o.e).2.1,(o_at o.e).2.2.1,(o_at o.e).2.2.2,(o_at o.f).1,(o_at o.f).2.1,(o_at o.f).2.2.1,(o_at o.f).2.2.2,(o_at o.g).1,(o_at o.g).2.1,(o_at o.g).2.2.1,(o_at o.g).2.2.2,(o_at o.h).1,(o_at o.h).2.1,(o_at o.h).2.2.1,(o_at o.h).2.2.2]
  rfl
structure R5 where
  i:Nat
  r:Row
  bh:Nat
  bw:Nat
  ba:Nat
  b2:Nat
end Go.Sx
namespace Go.Sx
theorem dn_yes {b:Bool} {k:Nat} {x:Int} (h:b=true) (h2:(Int.tmod (dn b k x) 2==1)=true):IntKind.u32.wrap (IntKind.u32.wrap (Int.tdiv (dn b k x) 2)+2147483648)=dn b (k+1) x:=by
  rw [show dn b (k+1) x=dn1 b (dn b k x) from rfl];unfold dn1;rw [h2,h];rfl
theorem dn_no1 {b:Bool} {k:Nat} {x:Int} (h:b=false):IntKind.u32.wrap (Int.tdiv (dn b k x) 2)=dn b (k+1) x:=by
  rw [show dn b (k+1) x=dn1 b (dn b k x) from rfl];unfold dn1;rw [h];rfl
theorem dn_no2 {b:Bool} {k:Nat} {x:Int} (h2:(Int.tmod (dn b k x) 2==1)=false):IntKind.u32.wrap (Int.tdiv (dn b k x) 2)=dn b (k+1) x:=by
  rw [show dn b (k+1) x=dn1 b (dn b k x) from rfl];unfold dn1;rw [h2,Bool.and_false];rfl
end Go.Sx
namespace Go.Sx
def hsum (r:S8):S8:=⟨add32 1779033703 r.a,add32 3144134277 r.b,add32 1013904242 r.c,add32 2773480762 r.d,add32 1359893119 r.e,add32 2600822924 r.f,add32 528734635 r.g,add32 1541459225 r.h⟩
theorem hsum_OK (r:S8):(hsum r).OK:=⟨U_wrap _,U_wrap _,U_wrap _,U_wrap _,U_wrap _,U_wrap _,U_wrap _,U_wrap _⟩
theorem sum43_h (l:List Int):sum43 l=sumf (hsum (rnds shaK (wl (lf (l++tail43)) 64) (S8.ofl shaH) 64)):=by
  unfold sum43 take8 hsum
  rfl
end Go.Sx
