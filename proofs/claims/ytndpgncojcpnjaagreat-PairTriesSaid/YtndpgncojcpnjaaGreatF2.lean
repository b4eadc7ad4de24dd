/- A part of the prover's own frame for walking code (see the claim's other texts). -/
import Derived.Test.YtndpgncojcpnjaaGreatF1
import Derived.Maps.RangeRun
import Derived.RangeFuncLeaves
import Derived.RangeFuncRecord
import Derived.Lib.SliceRun
import Derived.Shelf.SlSortCmp.Whole1
import Derived.Shelf.SlSortCmp.NoneTotal
import Derived.Shelf.SlMaps.Clone
import Derived.WideKeyArr2
import Derived.OpenShut
import Derived.RowKitTokens
import Derived.Shelf.SlSortCmp.WholeK
set_option linter.unusedVariables false
set_option linter.unusedSimpArgs false
namespace Go.Sx
open Go.RowKit
abbrev KV:=List (Value×Value)
noncomputable instance decValue:DecidableEq Value:=fun _ _=>Classical.propDecidable _
def kvs (es:Array MapEntry):KV:=es.toList.map fun e=>(e.key,e.val)
def Born (es:Array MapEntry) (clock:Nat):Prop:=(es.toList.map (·.born)).Nodup/\ ∀e∈es.toList,e.born<clock
theorem Born.push {es:Array MapEntry} {clock:Nat} (h:Born es clock) (k v:Value):Born (es.push { key:=k,val:=v,born:=clock }) (clock+1):=by
  refine ⟨?_,fun e he=> ?_⟩
  · rw [Array.toList_push,List.map_append,List.nodup_append]
    refine ⟨h.1,by simp,fun a ha b hb=> ?_⟩
    simp at hb;subst hb
    obtain ⟨e,he,rfl⟩:=List.mem_map.1 ha
    exact Nat.ne_of_lt (h.2 e he)
  · rw [Array.toList_push] at he
    rcases List.mem_append.1 he with he | he
    · exact Nat.lt_succ_of_lt (h.2 e he)
    · simp at he;subst he;exact Nat.lt_succ_self _
theorem modify_born {f:MapEntry->MapEntry} (hf: ∀y,(f y).born=y.born): ∀ (l:List MapEntry) (i:Nat),(l.modify i f).map (·.born)=l.map (·.born)
  | [],i=>by simp
  | x::l,0=>by simp [hf]
  | x::l,i+1=>by simp [modify_born hf l i]
theorem Born.modify {es:Array MapEntry} {clock i:Nat} {f:MapEntry->MapEntry} (h:Born es clock) (hf: ∀y,(f y).born=y.born):Born (es.modify i f) clock:=by
  have e:(es.modify i f).toList.map (·.born)=es.toList.map (·.born):=by rw [Array.toList_modify,modify_born hf]
  refine ⟨by rw [e];exact h.1,fun x hx=> ?_⟩
  have:x.born∈es.toList.map (·.born):=by rw [←e];exact List.mem_map.2 ⟨x,hx,rfl⟩
  obtain ⟨y,hy,hxy⟩:=List.mem_map.1 this
  have:=h.2 y hy
  omega
theorem Born.erase {es:Array MapEntry} {clock i:Nat} (h:Born es clock):Born (es.eraseIdxIfInBounds i) clock:=by
  have hs:(es.eraseIdxIfInBounds i).toList.Sublist es.toList:=by
    unfold Array.eraseIdxIfInBounds
    split
    · rw [Array.toList_eraseIdx];exact List.eraseIdx_sublist _ _
    · exact List.Sublist.refl _
  exact ⟨h.1.sublist (hs.map _),fun e he=>h.2 e (hs.subset he)⟩
theorem Born.empty:Born #[] 0:=⟨by simp,fun e he=>by simp at he⟩
def mo (r:Nat) (m:KV):Slot:= .par [r] (.kv m) (fun h=> ∃es clock,h r=some (.map es clock)/\(∀c,c≠r->h c=none)/\kvs es=m/\Born es clock)
def skv (s:Slot):KV:=match s with | .par _ (.kv m) _=>m | _=> []
def snum (s:Slot) (i:Nat):Nat:=match s with | .par ns _ _=>ns.getD i 0 | _=>0
def sents (s:Slot):List Ent:=match s with | .par _ (.ents L) _=>L | _=> []
theorem mo_open {r:Nat} {m:KV} {l:List Slot} {R:HP} {w:World} (h:Own (ofList (mo r m::l)) R w): ∃es clock,(kvs es=m/\Born es clock)/\Own (ofList (.blk r (.map es clock)::l)) R w:=by
  obtain ⟨p,q,hs,rest⟩:=h
  obtain ⟨es,clock,h1,h2,h3⟩:=hs 0
  refine ⟨es,clock,h3,p,q,fun i=> ?_,rest⟩
  cases i with
  | zero=>exact ⟨h1,h2⟩
  | succ i=>exact hs (i+1)
theorem mo_shut {r:Nat} {m:KV} {es:Array MapEntry} {clock:Nat} {l:List Slot} {R:HP} {w:World} (e:kvs es=m) (hbn:Born es clock) (h:Own (ofList (.blk r (.map es clock)::l)) R w):Own (ofList (mo r m::l)) R w:=by
  obtain ⟨p,q,hs,rest⟩:=h
  refine ⟨p,q,fun i=> ?_,rest⟩
  cases i with
  | zero=>exact ⟨es,clock,(hs 0).1,(hs 0).2,e,hbn⟩
  | succ i=>exact hs (i+1)
noncomputable def mget (m:KV) (k:Value):Option Value:=(m.find? fun e=>decide (e.1=k)).map (·.2)
noncomputable def mset (m:KV) (k v:Value):KV:=if (mget m k).isSome then m.map (fun e=>if e.1=k then (k,v) else e) else m++ [(k,v)]
noncomputable def mdel (m:KV) (k:Value):KV:=m.eraseP fun e=>decide (e.1=k)
def MOK (m:KV):Prop:=(m.map (·.1)).Nodup
theorem mget_nil (k:Value):mget [] k=none:=rfl
theorem mget_cons (e:Value×Value) (m:KV) (k:Value):mget (e::m) k=if e.1=k then some e.2 else mget m k:=by
  unfold mget
  rw [List.find?_cons]
  by_cases h:e.1=k<;>simp [h]
theorem mget_none {m:KV} {k:Value}:mget m k=none↔ ∀e∈m,e.1≠k:=by
  unfold mget
  rw [Option.map_eq_none_iff,List.find?_eq_none]
  simp
theorem mget_append (m n:KV) (k:Value):mget (m++n) k=(mget m k).or (mget n k):=by
  induction m with
  | nil=>rfl
  | cons e m ih=>rw [List.cons_append,mget_cons,mget_cons,ih];split<;>rfl
theorem mget_map_set (m:KV) (k v:Value) (k' :Value):mget (m.map fun e=>if e.1=k then (k,v) else e) k' =if k' =k then (mget m k).map (fun _=>v) else mget m k' :=by
  induction m with
  | nil=>simp [mget_nil]
  | cons e m ih =>
    rw [List.map_cons,mget_cons,mget_cons,mget_cons,ih]
    by_cases h:e.1=k
    · rw [if_pos h]
      by_cases h' :k' =k
      · subst h';simp [h]
      · rw [if_neg (fun x=>h' x.symm),if_neg h',if_neg h',if_neg (fun x=>h' (x.symm.trans h))]
    · rw [if_neg h]
      by_cases h' :k' =k
      · subst h';simp [h]
      · simp [h']
theorem mget_set (m:KV) (k v k' :Value):mget (mset m k v) k' =if k' =k then some v else mget m k' :=by
  unfold mset
  split
  · rename_i h
    rw [mget_map_set]
    split
    · obtain ⟨x,hx⟩:=Option.isSome_iff_exists.1 h
      rw [hx];rfl
    · rfl
  · rename_i h
    have hn:mget m k=none:=by simpa using h
    rw [mget_append,mget_cons,mget_nil]
    split
    · rename_i e;subst e;rw [hn];simp
    · rename_i e;rw [if_neg (fun x=>e x.symm)];simp
theorem mget_del {m : KV} (hm : MOK m) (k k' : Value) : mget (mdel m k) k' = if k' = k then none else mget m k' := by
  induction m with
  | nil=>simp [mdel,mget_nil]
  | cons e m ih =>
    unfold MOK at hm
    rw [List.map_cons,List.nodup_cons] at hm
    unfold mdel
    rw [List.eraseP_cons]
    by_cases h:e.1=k
    · simp only [h,decide_true,cond_true]
      rw [mget_cons]
      by_cases h' :k' =k
      · subst h'
        rw [if_pos rfl]
        refine mget_none.2 fun x hx he=>hm.1 ?_
        exact List.mem_map.2 ⟨x,hx,by rw [he,h]⟩
      · rw [if_neg h',if_neg (fun x=>h' (x.symm.trans h))]
    · simp only [h,decide_false,cond_false]
      rw [mget_cons,mget_cons]
      have:=ih hm.2
      unfold mdel at this
      rw [this]
      by_cases h' :e.1=k'
      · simp only [h',if_true];rw [if_neg (fun x=>h (h'.trans x))]
      · simp [h']
theorem keys_map_set (m:KV) (k v:Value):(m.map fun e=>if e.1=k then (k,v) else e).map (·.1)=m.map (·.1):=by
  rw [List.map_map]
  apply List.map_congr_left
  intro e he
  by_cases h:e.1=k<;>simp [h]
theorem MOK.set {m:KV} (h:MOK m) (k v:Value):MOK (mset m k v):=by
  unfold mset
  split
  · unfold MOK;rw [keys_map_set];exact h
  · rename_i hn
    have hn:mget m k=none:=by simpa using hn
    unfold MOK
    rw [List.map_append,List.map_cons,List.map_nil,List.nodup_append]
    refine ⟨h,by simp,fun a ha b hb=> ?_⟩
    simp at hb;subst hb
    obtain ⟨e,he,rfl⟩:=List.mem_map.1 ha
    exact mget_none.1 hn e he
theorem MOK.del {m:KV} (h:MOK m) (k:Value):MOK (mdel m k):=by
  unfold MOK mdel
  exact h.sublist (List.eraseP_sublist.map _)
theorem MOK.nil:MOK []:=List.nodup_nil
structure KL (P:Program) (kt:TypeId) (Ok:Value->Prop):Prop where
  check: ∀b k w,Ok k->(Instr.checkKey b 10000 kt k).run P w= .ok () w
  find: ∀k (es:List MapEntry) w,Ok k->(∀e∈es,Ok e.key)-> ∃o,(Instr.findKey kt k es).run P w= .ok o w/\
    (match o with | none=>mget (es.map fun e=>(e.key,e.val)) k=none | some (i,v)=> ∃e,es[i]? =some e/\e.key=k/\e.val=v/\ ∀j e',j<i->es[j]? =some e' ->e'.key≠k)
  same: ∀k,Ok k->Instr.sameBits 10000 k k=true
theorem mget_found {es:List MapEntry} {k:Value} {i:Nat} {e:MapEntry} (h:es[i]? =some e) (hk:e.key=k) (hl: ∀j e',j<i->es[j]? =some e' ->e'.key≠k):mget (es.map fun e=>(e.key,e.val)) k=some e.val:=by
  induction es generalizing i with
  | nil=>simp at h
  | cons x es ih =>
    rw [List.map_cons,mget_cons]
    cases i with
    | zero=>simp at h;subst h;simp [hk]
    | succ i =>
      have hx:=hl 0 x (by omega) (by simp)
      rw [if_neg hx]
      exact ih (by simpa using h) fun j e' hj he=>hl (j+1) e' (by omega) (by simpa using he)
structure TM (P:Program) (t kt vt:TypeId) (Ok:Value->Prop) (z:Value):Prop where
  und:P.underlying t=some (.map kt vt)
  key:KL P kt Ok
  zero: ∀w,(zeroValue vt).run P w= .ok z w
def KeysOk (Ok:Value->Prop) (m:KV):Prop:= ∀e∈m,Ok e.1
theorem kvs_keys {Ok:Value->Prop} {es:Array MapEntry} {m:KV} (e:kvs es=m) (h:KeysOk Ok m): ∀x∈es.toList,Ok x.key:=fun x hx=>h (x.key,x.val) (by rw [←e];exact List.mem_map.2 ⟨x,hx,rfl⟩)
theorem run_getMap {P:Program} {w:World} {r:Nat} {es:Array MapEntry} {clock:Nat} (h:w.heap[r]? =some (.map es clock)):(getObj r).run P w= .ok (.map es clock) w:=by
  simp [getObj,Sem.run,h]
theorem xlookup {P:Program} {t kt vt:TypeId} {Ok:Value->Prop} {z:Value} (T:TM P t kt vt Ok z) {r:Nat} {m:KV} (hm:KeysOk Ok m) {k:Value} (hk:Ok k):
    OpT P (do pure (.value (←Instr.lookup t (.map (some r)) k true))) [mo r m] Unit (fun _=> .tuple #[(mget m k).getD z, .bool (mget m k).isSome]) (fun _=> [mo r m]) (fun _=>True):=by
  intro R w ho
  obtain ⟨es,clock,⟨e,hbn⟩,ho'⟩:=mo_open ho
  have hb:=ho'.block (i:=0) rfl
  obtain ⟨o,hf,hspec⟩:=T.key.find k es.toList w hk (kvs_keys e hm)
  refine ⟨(),w,trivial, .inl ?_,ho,Ext.refl w⟩
  have hg:mget m k=o.map (·.2):=by
    rw [←e]
    cases o with
    | none=>exact hspec
    | some iv =>
      obtain ⟨x,h1,h2,h3,h4⟩:=hspec
      exact (mget_found h1 h2 h4).trans (by rw [h3];rfl)
  rw [hg]
  simp only [Instr.lookup,Sem.run_bind,run_underlying T.und,Result.andThen_ok,run_getMap hb,Sem.run_pure,T.key.check _ _ _ hk,hf]
  cases o with
  | none=>simp [T.zero w]
  | some iv=>simp
theorem own_setMap {r:Nat} {es:Array MapEntry} {clock:Nat} {o:Obj} {l:List Slot} {R:HP} {w:World} (ho:Own (ofList (.blk r (.map es clock)::l)) R w):
    Own (ofList (.blk r o::l)) R { w with heap:=w.heap.setIfInBounds r o }:=by
  have hb:=ho.block (i:=0) rfl
  have hlt:r<w.heap.size:=by
    rcases Nat.lt_or_ge r w.heap.size with h | h
    · exact h
    · simp [Array.getElem?_eq_none h] at hb
  have:=ho.set (i:=0) (w' := { w with heap:=w.heap.setIfInBounds r o }) (o' :=o) rfl (by simp [hlt]) (fun c hc=>by simp [Ne.symm hc])
  refine (congrArg (fun H=>Own H R _) ?_).mp this
  funext i
  cases i<;>rfl
theorem run_setMap {P:Program} {w:World} {r:Nat} {es:Array MapEntry} {clock:Nat} {o:Obj} (h:w.heap[r]? =some (.map es clock)):(setObj r o).run P w= .ok () { w with heap:=w.heap.setIfInBounds r o }:=by
  simp [setObj,Sem.run,h]
theorem ext_setMap (w:World) (r:Nat) (o:Obj):Ext w { w with heap:=w.heap.setIfInBounds r o }:=⟨rfl,rfl,rfl,by simp,by first | exact Nat.le_refl _ | exact Nat.le_succ _ | simp⟩
theorem kvs_modify {es : Array MapEntry} {i : Nat} {x : MapEntry} {k v : Value} {f : MapEntry -> MapEntry} (h : es.toList[i]? = some x) (hk : x.key = k) (hl : ∀ j e', j < i -> es.toList[j]? = some e' -> e'.key ≠ k) (hn : MOK (kvs es))
    (hf: ∀y,(f y).key=k/\(f y).val=v):kvs (es.modify i f)=mset (kvs es) k v:=by
  have hg:mget (kvs es) k=some x.val:=mget_found h hk hl
  unfold mset
  rw [if_pos (by rw [hg];rfl)]
  unfold kvs
  apply List.ext_getElem?
  intro j
  rw [List.getElem?_map,List.getElem?_map,List.getElem?_map]
  have hm:(es.modify i f).toList[j]? =if i=j then es.toList[j]?.map f else es.toList[j]? :=by
    rw [Array.toList_modify,List.getElem?_modify]
    by_cases hij:i=j<;>simp [hij]
  rw [hm]
  by_cases hij:i=j
  · subst hij
    rw [if_pos rfl,h]
    simp [hk,hf]
  · rw [if_neg hij]
    cases hj:es.toList[j]? with
    | none=>rfl
    | some y =>
      have hy:y.key≠k:=by
        intro hyk
        rcases Nat.lt_or_gt_of_ne hij with hlt | hlt
        ·
          unfold MOK at hn
          have h1:((kvs es).map (·.1))[i]? =some k:=by simp [kvs,h,hk]
          have h2:((kvs es).map (·.1))[j]? =some k:=by simp [kvs,hj,hyk]
          obtain ⟨a1,b1⟩:=List.getElem?_eq_some_iff.1 h1
          obtain ⟨a2,b2⟩:=List.getElem?_eq_some_iff.1 h2
          exact hij ((List.getElem_inj hn).1 (b1.trans b2.symm))
        · exact hl j y hlt hj hyk
      simp [hy]
theorem kvs_push {es:Array MapEntry} {k v:Value} {b:Nat} (h:mget (kvs es) k=none):kvs (es.push { key:=k,val:=v,born:=b })=mset (kvs es) k v:=by
  unfold mset
  rw [if_neg (by rw [h];simp)]
  simp [kvs]
theorem kvs_erase {es : Array MapEntry} {i : Nat} {x : MapEntry} {k : Value} (h : es.toList[i]? = some x) (hk : x.key = k) (hl : ∀ j e', j < i -> es.toList[j]? = some e' -> e'.key ≠ k) : kvs (es.eraseIdxIfInBounds i) = mdel (kvs es) k := by
  have key: ∀ (l:List MapEntry) (i:Nat),l[i]? =some x->(∀j e',j<i->l[j]? =some e' ->e'.key≠k)->(l.eraseIdx i).map (fun e=>(e.key,e.val))=mdel (l.map fun e=>(e.key,e.val)) k:=by
    intro l
    induction l with
    | nil=>intro i h;simp at h
    | cons y l ih =>
      intro i h hl
      unfold mdel
      rw [List.map_cons,List.eraseP_cons]
      cases i with
      | zero =>
        simp at h;subst h
        simp [hk]
      | succ i =>
        have hy:=hl 0 y (by omega) (by simp)
        simp only [hy,decide_false,cond_false,List.eraseIdx_cons_succ,List.map_cons]
        have:=ih i (by simpa using h) fun j e' hj he=>hl (j+1) e' (by omega) (by simpa using he)
        unfold mdel at this
        rw [this]
  have hlt:i<es.size:=by
    have:=(List.getElem?_eq_some_iff.1 h).1
    simpa using this
  unfold kvs
  rw [←key es.toList i h hl]
  simp [Array.eraseIdxIfInBounds,hlt]
theorem xupdate {P:Program} {t kt vt:TypeId} {Ok:Value->Prop} {z:Value} (T:TM P t kt vt Ok z) {r:Nat} {m:KV} (hm:KeysOk Ok m) (hn:MOK m) {k:Value} (hk:Ok k) (v:Value):
    OpT P (do Instr.mapUpdate t (.map (some r)) k v;pure .skip) [mo r m] Unit (fun _=>undef) (fun _=> [mo r (mset m k v)]) (fun _=>True):=by
  intro R w ho
  obtain ⟨es,clock,⟨e,hbn⟩,ho'⟩:=mo_open ho
  have hb:=ho'.block (i:=0) rfl
  obtain ⟨o,hf,hspec⟩:=T.key.find k es.toList w hk (kvs_keys e hm)
  cases o with
  | none =>
    have hg:mget (kvs es) k=none:=hspec
    refine ⟨(),_,trivial, .inr ⟨?_,rfl⟩,mo_shut (by rw [kvs_push hg,e]) (hbn.push _ _) (own_setMap (o:= .map (es.push { key:=k,val:=v,born:=clock }) (clock+1)) ho'),ext_setMap _ _ _⟩
    simp only [Instr.mapUpdate,Sem.run_bind,run_underlying T.und,Result.andThen_ok,run_getMap hb,T.key.check _ _ _ hk,hf,run_setMap hb,Sem.run_pure]
  | some iv =>
    obtain ⟨i,u⟩:=iv
    obtain ⟨x,h1,h2,h3,h4⟩:=hspec
    have hxi:es[i]? =some x:=by simpa using h1
    refine ⟨(),_,trivial, .inr ⟨?_,rfl⟩,mo_shut (by rw [kvs_modify (v:=v) h1 h2 h4 (by rw [e];exact hn) (f:=fun y=> { y with key:=k,val:=v }) (fun y=>⟨rfl,rfl⟩),e]) (hbn.modify (f:=fun y=> { y with key:=k,val:=v }) fun _=>rfl) (own_setMap (o:= .map (es.modify i fun y=> { y with key:=k,val:=v }) clock) ho'),ext_setMap _ _ _⟩
    have hs:(Instr.keyThatStays (((es[i]?).map (·.key)).getD k) k).run P w= .ok k w:=by
      rw [hxi]
      simp [h2,Instr.keyThatStays,T.key.same k hk]
    simp only [Instr.mapUpdate,Sem.run_bind,run_underlying T.und,Result.andThen_ok,run_getMap hb,T.key.check _ _ _ hk,hf,hs,run_setMap hb,Sem.run_pure]
theorem xdelete {P:Program} {t kt vt:TypeId} {Ok:Value->Prop} {z:Value} (T:TM P t kt vt Ok z) (ty kt' :TypeId) {r:Nat} {m:KV} (hm:KeysOk Ok m) {k:Value} (hk:Ok k):
    OpT P (do pure (.value (←Builtin.delete_ #[t,kt'] ty #[.map (some r),k]))) [mo r m] Unit (fun _=>undef) (fun _=> [mo r (mdel m k)]) (fun _=>True):=by
  intro R w ho
  obtain ⟨es,clock,⟨e,hbn⟩,ho'⟩:=mo_open ho
  have hb:=ho'.block (i:=0) rfl
  obtain ⟨o,hf,hspec⟩:=T.key.find k es.toList w hk (kvs_keys e hm)
  cases o with
  | none =>
    have hg:mget (kvs es) k=none:=hspec
    have hd:mdel m k=m:=by
      unfold mdel
      refine List.eraseP_of_forall_not fun x hx=> ?_
      rw [e] at hg
      simpa using mget_none.1 hg x hx
    refine ⟨(),_,trivial, .inl ?_,mo_shut (by rw [hd,e]) hbn (own_setMap (o:= .map es clock) ho'),ext_setMap _ _ _⟩
    simp [Builtin.delete_,Sem.run_bind,run_underlying T.und,run_getMap hb,T.key.check _ _ _ hk,hf,run_setMap hb,undef]
  | some iv =>
    obtain ⟨i,u⟩:=iv
    obtain ⟨x,h1,h2,h3,h4⟩:=hspec
    refine ⟨(),_,trivial, .inl ?_,mo_shut (by rw [kvs_erase h1 h2 h4,e]) hbn.erase (own_setMap (o:= .map (es.eraseIdxIfInBounds i) clock) ho'),ext_setMap _ _ _⟩
    simp [Builtin.delete_,Sem.run_bind,run_underlying T.und,run_getMap hb,T.key.check _ _ _ hk,hf,run_setMap hb,undef]
end Go.Sx
namespace Go.Sx
open Go.RowKit
def pur (φ:Prop):Slot:= .par [] .none (fun h=>h=Hl.emp/\φ)
theorem sep_pur {φ:Prop} {a:List Slot} {h:Hl}:SepL (a++ [pur φ]) h↔SepL a h/\φ:=by
  constructor
  · intro k
    obtain ⟨p,q,ha,⟨p2,q2,⟨rfl,hφ⟩,rfl,_,rfl⟩,_,rfl⟩:=(sep_append _ _).1 k
    exact ⟨by rw [emp_un,un_emp];exact ha,hφ⟩
  · intro ⟨ha,hφ⟩
    exact (sep_append _ _).2 ⟨h,Hl.emp,ha,⟨Hl.emp,Hl.emp,⟨rfl,hφ⟩,rfl,disj_emp,rfl⟩,disj_emp,un_emp.symm⟩
theorem sep_free {a:List Slot} {h:Hl}:SepL (a++ [.free]) h↔SepL a h:=by
  constructor
  · intro k
    obtain ⟨p,q,ha,⟨p2,q2,hf,rfl,_,rfl⟩,_,rfl⟩:=(sep_append _ _).1 k
    have:p2=Hl.emp:=funext hf
    rw [this,emp_un,un_emp];exact ha
  · intro ha
    exact (sep_append _ _).2 ⟨h,Hl.emp,ha,⟨Hl.emp,Hl.emp,fun _=>rfl,rfl,disj_emp,rfl⟩,disj_emp,un_emp.symm⟩
structure MK where
  te:TypeId
  less:Value
  OkK:Value->Prop
  OkV:Value->Prop
structure KOK (K:MK) (m:KV):Prop where
  once:MOK m
  ok: ∀e∈m,K.OkK e.1/\K.OkV e.2
theorem KOK.keys {K:MK} {m:KV} (h:KOK K m):KeysOk K.OkK m:=fun e he=>(h.ok e he).1
theorem KOK.nil {K:MK}:KOK K []:=⟨MOK.nil,fun e h=>by cases h⟩
theorem mem_set {m:KV} {k v:Value} {e:Value×Value} (h:e∈mset m k v):e=(k,v)∨e∈m:=by
  unfold mset at h
  split at h
  · obtain ⟨x,hx,rfl⟩:=List.mem_map.1 h
    split
    · exact .inl rfl
    · exact .inr hx
  · rcases List.mem_append.1 h with h | h
    · exact .inr h
    · simp at h;exact .inl h
theorem KOK.set {K:MK} {m:KV} (h:KOK K m) {k v:Value} (hk:K.OkK k) (hv:K.OkV v):KOK K (mset m k v):=
  ⟨h.once.set k v,fun e he=>(mem_set he).elim (fun x=>by subst x;exact ⟨hk,hv⟩) (h.ok e)⟩
theorem KOK.del {K:MK} {m:KV} (h:KOK K m) (k:Value):KOK K (mdel m k):=⟨h.once.del k,fun e he=>h.ok e (List.mem_of_mem_eraseP he)⟩
theorem mget_mem {m:KV} {k v:Value} (h:mget m k=some v):(k,v)∈m:=by
  unfold mget at h
  obtain ⟨e,he,rfl⟩:=Option.map_eq_some_iff.1 h
  have h1:=List.find?_some he
  have h2:=List.mem_of_find?_eq_some he
  simp at h1
  subst h1;exact h2
theorem KOK.val {K:MK} {m:KV} (h:KOK K m) {k v:Value} (hg:mget m k=some v):K.OkV v:=(h.ok _ (mget_mem hg)).2
def mF (K:MK) (b bj:Nat) (m:KV):Nat->List Slot:=fun r=>
  [.blk b (.cells #[.map (some r), .pointer (some ⟨bj,0,none⟩),K.less] K.te (0,0)),mo r m]++ [pur (KOK K m)]
def mS (K:MK) (b bj:Nat) (m:KV):Slot:=bun [b,bj] (.kv m) (mF K b bj m)
theorem mS_shut {K:MK} {b bj r:Nat} {m:KV} (h:KOK K m) (l:List Slot):Imp (.blk b (.cells #[.map (some r), .pointer (some ⟨bj,0,none⟩),K.less] K.te (0,0))::mo r m::l) (mS K b bj m::l):=by
  refine Imp.trans (.same fun p hp=> ?_) (bun_shut r l)
  have h2:SepL ([.blk b (.cells #[.map (some r), .pointer (some ⟨bj,0,none⟩),K.less] K.te (0,0)),mo r m]++l) p:=hp
  obtain ⟨p1,p2,ha,hb,d,rfl⟩:=(sep_append _ _).1 h2
  exact (sep_append _ _).2 ⟨p1,p2,sep_pur.2 ⟨ha,h⟩,hb,d,rfl⟩
theorem mS_open {K:MK} {b bj:Nat} {m:KV} {l:List Slot} {R:HP} {w:World} (h:Own (ofList (mS K b bj m::l)) R w):
    ∃r,KOK K m/\Own (ofList (.blk b (.cells #[.map (some r), .pointer (some ⟨bj,0,none⟩),K.less] K.te (0,0))::mo r m::l)) R w:=by
  obtain ⟨r,hr⟩:=bun_open h
  obtain ⟨p,q,hp,hq,hw,hqw,d⟩:=own_sep.1 hr
  obtain ⟨p1,p2,ha,hb,d2,rfl⟩:=(sep_append _ _).1 hp
  obtain ⟨ha',hk⟩:=sep_pur.1 ha
  exact ⟨r,hk,own_sep.2 ⟨_,q,(sep_append [_,_] l).2 ⟨p1,p2,ha',hb,d2,rfl⟩,hq,hw,hqw,d⟩⟩
theorem mS_call {P:Program} {f:FuncId} {args:Array Value} {K:MK} {b bj:Nat} {m:KV} {l:List Slot} {X:Type} {val:X->Value} {us:X->List Slot} {Φ:X->Prop} {m' :X->KV} (he:EnterOK P f)
    (h: ∀r,KOK K m->CallT P f args (.blk b (.cells #[.map (some r), .pointer (some ⟨bj,0,none⟩),K.less] K.te (0,0))::mo r m::l) X val (fun x=> .blk b (.cells #[.map (some r), .pointer (some ⟨bj,0,none⟩),K.less] K.te (0,0))::mo r (m' x)::us x) Φ)
    (hk: ∀x,Φ x->KOK K m->KOK K (m' x)):CallT P f args (mS K b bj m::l) X val (fun x=>mS K b bj (m' x)::us x) Φ:=
  ⟨he,fun R w ho=>by
    obtain ⟨r,hm,ho'⟩:=mS_open ho
    exact ((h r hm).calls R w ho').mono fun _ _ ⟨x,hx,e,o,ext⟩=>⟨x,hx,e,mS_shut (hk x hx hm) _ _ _ o,ext⟩⟩
abbrev N4:=Nat×Nat×Nat×Nat
abbrev Rw:=Row
abbrev ptr (b:Nat):Value:= .pointer (some ⟨b,0,none⟩)
def Ent.fn (e:Ent) (a:N4):Value:= .func (.func e.g) #[] #[ptr a.1,ptr a.2.1,ptr a.2.2.1,ptr a.2.2.2]
def Ent.sl (e:Ent) (a:N4):List Slot:=
  [.blk a.1 (.cells #[.bool e.was.isSome] e.t1 (0,0)), .blk a.2.1 (.cells (e.was.getD e.z).cells e.t2 (0,0)), .blk a.2.2.1 (.cells #[ptr e.b] e.t3 (0,0)), .blk a.2.2.2 (.cells e.key.cells e.t4 (0,0))]
def ents (L:List Ent) (A:List N4):List Slot:=(L.zip A).flatMap fun x=>x.1.sl x.2
def fns (L:List Ent) (A:List N4):List Value:=(L.zip A).map fun x=>x.1.fn x.2
structure JK where
  tj:TypeId
  ft:TypeId
def jF (K:JK) (bj:Nat) (L:List Ent):Row×List N4->List Slot:=fun e=>
  (.blk bj (.cells #[sv e.1] K.tj (0,0))::ss K.ft e.1::ents L e.2)++ [pur (vals e.1=fns L e.2/\e.2.length=L.length)]
def jS (K:JK) (bj:Nat) (L:List Ent):Slot:=bun [bj] (.ents L) (jF K bj L)
theorem jS_shut {K:JK} {bj:Nat} {L:List Ent} {row:Row} {A:List N4} (hv:vals row=fns L A) (hl:A.length=L.length) (l:List Slot):
    Imp (.blk bj (.cells #[sv row] K.tj (0,0))::ss K.ft row::(ents L A++l)) (jS K bj L::l):=by
  refine Imp.trans (.same fun p hp=> ?_) (bun_shut (row,A) l)
  have h2:SepL ((.blk bj (.cells #[sv row] K.tj (0,0))::ss K.ft row::ents L A)++l) p:=hp
  obtain ⟨p1,p2,ha,hb,d,rfl⟩:=(sep_append _ _).1 h2
  exact (sep_append _ _).2 ⟨p1,p2,sep_pur.2 ⟨ha,hv,hl⟩,hb,d,rfl⟩
theorem jS_open {K:JK} {bj:Nat} {L:List Ent} {l:List Slot} {R:HP} {w:World} (h:Own (ofList (jS K bj L::l)) R w):
    ∃row A,vals row=fns L A/\A.length=L.length/\Own (ofList (.blk bj (.cells #[sv row] K.tj (0,0))::ss K.ft row::(ents L A++l))) R w:=by
  obtain ⟨⟨row,A⟩,hr⟩:=bun_open h
  obtain ⟨p,q,hp,hq,hw,hqw,d⟩:=own_sep.1 hr
  obtain ⟨p1,p2,ha,hb,d2,rfl⟩:=(sep_append _ _).1 hp
  obtain ⟨ha',hv,hl⟩:=sep_pur.1 ha
  exact ⟨row,A,hv,hl,own_sep.2 ⟨_,q,(sep_append (_::_::ents L A) l).2 ⟨p1,p2,ha',hb,d2,rfl⟩,hq,hw,hqw,d⟩⟩
theorem fns_len {L:List Ent} {A:List N4} (h:A.length=L.length):(fns L A).length=L.length:=by simp [fns,h]
theorem fns_snoc {L:List Ent} {A:List N4} (h:A.length=L.length) (e:Ent) (a:N4):fns (L++ [e]) (A++ [a])=fns L A++ [e.fn a]:=by
  unfold fns;rw [List.zip_append h.symm,List.map_append];rfl
theorem ents_snoc {L:List Ent} {A:List N4} (h:A.length=L.length) (e:Ent) (a:N4):ents (L++ [e]) (A++ [a])=ents L A++e.sl a:=by
  unfold ents;rw [List.zip_append h.symm,List.flatMap_append];simp
theorem jS_read {P:Program} {f:FuncId} {args:Array Value} {K:JK} {bj:Nat} {L:List Ent} {X:Type} {val:X->Value} {Φ:X->Prop} (he:EnterOK P f)
    (h: ∀row,vals row=vals row->(vals row).length=L.length->CallT P f args [.blk bj (.cells #[sv row] K.tj (0,0)),ss K.ft row] X val (fun _=> [.blk bj (.cells #[sv row] K.tj (0,0)),ss K.ft row]) Φ):
    CallT P f args [jS K bj L] X val (fun _=> [jS K bj L]) Φ:=
  ⟨he,fun R w ho=>by
    obtain ⟨row,A,hv,hl,ho'⟩:=jS_open (l:= []) ho
    rw [List.append_nil] at ho'
    have c:=(h row rfl (by rw [hv,fns_len hl])).frame (ents L A)
    exact (c.calls R w ho').mono fun _ _ ⟨x,hx,e,o,ext⟩=>⟨x,hx,e,jS_shut hv hl [] _ _ (by rw [List.append_nil];exact o),ext⟩⟩
theorem jS_empty {K:JK} {bj:Nat}:Imp [.blk bj (.cells #[.slice none 0 0] K.tj (0,0))] [jS K bj []]:=by
  refine Imp.trans (.same fun p hp=> ?_) (jS_shut (row:= .nil) (A:= []) rfl rfl [])
  exact (sep_free (a:= [.blk bj (.cells #[.slice none 0 0] K.tj (0,0))])).2 hp
theorem jS_keep {P:Program} {f:FuncId} {args:Array Value} {K:JK} {bj:Nat} {L:List Ent} (he:EnterOK P f)
    (h: ∀row,CallT P f args [.blk bj (.cells #[sv row] K.tj (0,0))] Unit (fun _=>undef) (fun _=> [.blk bj (.cells #[.slice none 0 0] K.tj (0,0))]) (fun _=>True)):
    CallT P f args [jS K bj L] Unit (fun _=>undef) (fun _=> [jS K bj []]) (fun _=>True):=
  ⟨he,fun R w ho=>by
    obtain ⟨row,A,hv,hl,ho'⟩:=jS_open (l:= []) ho
    have c:=(h row).frame (ss K.ft row::(ents L A++ []))
    exact (c.calls R w ho').mono fun _ _ ⟨x,hx,e,o,ext⟩=>⟨x,hx,e,(Imp.drop [_] _).trans jS_empty _ _ o,ext⟩⟩
theorem jS_note {P:Program} {f:FuncId} {args:Array Value} {K:JK} {bj:Nat} {L:List Ent} {S1 S2:Slot} {V:Type} {vv:V->Value} {e:Ent} {mk:Option Value->Ent} (he:EnterOK P f) (hs:e.was.isSome=e.was.isSome)
    (h: ∀row,(vals row).length=L.length->CallT P f args [S1,S2, .blk bj (.cells #[sv row] K.tj (0,0)),ss K.ft row] (Row×N4×V×Bool) (fun _=>undef)
      (fun x=> [S1,S2, .blk bj (.cells #[sv x.1] K.tj (0,0)),ss K.ft x.1, .blk x.2.1.1 (.cells #[.bool x.2.2.2] e.t1 (0,0)), .blk x.2.1.2.1 (.cells (vv x.2.2.1).cells e.t2 (0,0)), .blk x.2.1.2.2.1 (.cells #[ptr e.b] e.t3 (0,0)), .blk x.2.1.2.2.2 (.cells e.key.cells e.t4 (0,0))])
      (fun x=>vals x.1=vals row++ [e.fn x.2.1]/\x.2.2.2=e.was.isSome/\vv x.2.2.1=e.was.getD e.z)):
    CallT P f args [S1,S2,jS K bj L] Unit (fun _=>undef) (fun _=> [S1,S2,jS K bj (L++ [e])]) (fun _=>True):=
  ⟨he,fun R w ho=>by
    have ho1:Own (ofList (jS K bj L:: [S1,S2])) R w:=Imp.swap [S1,S2] [jS K bj L] R w ho
    obtain ⟨row,A,hv,hl,ho2⟩:=jS_open (l:= [S1,S2]) ho1
    have ho3:Own (ofList ([S1,S2]++([.blk bj (.cells #[sv row] K.tj (0,0)),ss K.ft row]++ents L A))) R w:=
      Imp.swap ([.blk bj (.cells #[sv row] K.tj (0,0)),ss K.ft row]++ents L A) [S1,S2] R w ho2
    have c:=(h row (by rw [hv,fns_len hl])).frame (ents L A)
    refine (c.calls R w ho3).mono fun e' w' hh=> ?_
    obtain ⟨x,⟨h1,h2,h3⟩,e1,o,ext⟩:=hh
    refine ⟨(),trivial,e1,?_,ext⟩
    obtain ⟨y,a,v,is⟩:=x
    simp only at h1 h2 h3 o
    rw [h2,h3] at o
    have o1:Own (ofList ([S1,S2]++([.blk bj (.cells #[sv y] K.tj (0,0)),ss K.ft y]++(e.sl a++ents L A)))) R w' :=o
    have o2:=Imp.swap [S1,S2] _ R w' o1
    have o3:Own (ofList (.blk bj (.cells #[sv y] K.tj (0,0))::ss K.ft y::(ents (L++ [e]) (A++ [a])++ [S1,S2]))) R w' :=by
      refine (Imp.same fun p hp=> ?_) R w' o2
      rw [ents_snoc hl]
      have hp' :SepL ([.blk bj (.cells #[sv y] K.tj (0,0)),ss K.ft y]++((e.sl a++ents L A)++ [S1,S2])) p:=by rw [←List.append_assoc];exact hp
      obtain ⟨p1,p2,ha,hb,d,rfl⟩:=(sep_append _ _).1 hp'
      obtain ⟨p3,p4,hc,hd,d2,rfl⟩:=(sep_append _ _).1 hb
      exact (sep_append [.blk bj (.cells #[sv y] K.tj (0,0)),ss K.ft y] ((ents L A++e.sl a)++ [S1,S2])).2 ⟨p1,_,ha,(sep_append _ _).2 ⟨p3,p4,sep_swap hc,hd,d2,rfl⟩,d,rfl⟩
    have o4:=jS_shut (by rw [fns_snoc hl,h1,hv]) (by simp [hl]) [S1,S2] R w' o3
    exact Imp.swap [jS K bj (L++ [e])] [S1,S2] R w' o4⟩
end Go.Sx
namespace Go.Sx
open Go.RowKit
theorem KL.of_now {P : Program} {kt : TypeId} {d : TypeDesc} {Ok : Value -> Prop} (hu : P.underlying kt = some d) (hc : ∀ b k w, Ok k -> (Instr.checkKey b 10000 kt k).run P w = .ok () w)
    (hn: ∀k k',Ok k->Ok k' ->Instr.sameNow d k k' =some (decide (k=k'))) (hs: ∀k,Ok k->Instr.sameBits 10000 k k=true):KL P kt Ok:=by
  refine ⟨hc,fun k es w hk hes=> ?_,hs⟩
  have key: ∀ (es:List MapEntry) (n:Nat),(∀e∈es,Ok e.key)-> ∃o,Instr.findNow d k es n=some o/\
      (match o with | none=>mget (es.map fun e=>(e.key,e.val)) k=none | some (i,v)=>n<=i/\ ∃e,es[i - n]? =some e/\e.key=k/\e.val=v/\ ∀j e',j<i - n->es[j]? =some e' ->e'.key≠k):=by
    intro es
    induction es with
    | nil=>intro n _;exact ⟨none,rfl,rfl⟩
    | cons e es ih =>
      intro n h
      have he:=hn k e.key hk (h e (List.mem_cons_self ..))
      by_cases hke:k=e.key
      · refine ⟨some (n,e.val),?_,Nat.le_refl _,e,by simp,hke.symm,rfl,fun j e' hj=>by omega⟩
        unfold Instr.findNow;rw [he];simp [hke]
      · obtain ⟨o,ho,hspec⟩:=ih (n+1) fun x hx=>h x (List.mem_cons_of_mem _ hx)
        refine ⟨o,?_,?_⟩
        · unfold Instr.findNow;rw [he];simp [hke,ho]
        · cases o with
          | none =>
            show mget ((e::es).map fun e=>(e.key,e.val)) k=none
            rw [List.map_cons,mget_cons,if_neg (fun x=>hke x.symm)];exact hspec
          | some iv =>
            obtain ⟨h1,x,h2,h3,h4,h5⟩:=hspec
            refine ⟨by omega,x,?_,h3,h4,fun j e' hj hje=> ?_⟩
            · rw [show iv.1 - n=(iv.1 - (n+1))+1 from by omega,List.getElem?_cons_succ];exact h2
            · cases j with
              | zero=>simp at hje;subst hje;exact fun x=>hke x.symm
              | succ j=>exact h5 j e' (by omega) (by simpa using hje)
  obtain ⟨o,ho,hspec⟩:=key es 0 hes
  refine ⟨o,?_,?_⟩
  · simp only [Instr.findKey,Sem.run_bind,run_underlying hu,Result.andThen_ok,ho,Sem.run_pure]
  · cases o with
    | none=>exact hspec
    | some iv=>exact hspec.2
theorem KL.of_asking {P : Program} {kt : TypeId} {d : TypeDesc} {Ok : Value -> Prop} (hu : P.underlying kt = some d) (hc : ∀ b k w, Ok k -> (Instr.checkKey b 10000 kt k).run P w = .ok () w)
    (hn: ∀k k',Ok k->Ok k' ->Instr.sameNow d k k' =none) (he: ∀k k' w,Ok k->Ok k' ->(Op.equal kt k k').run P w= .ok (decide (k=k')) w) (hs: ∀k,Ok k->Instr.sameBits 10000 k k=true):KL P kt Ok:=by
  refine ⟨hc,fun k es w hk hes=> ?_,hs⟩
  have key: ∀ (es:List MapEntry) (n:Nat),(∀e∈es,Ok e.key)-> ∃o,(Instr.findAsking kt k es n).run P w= .ok o w/\
      (match o with | none=>mget (es.map fun e=>(e.key,e.val)) k=none | some (i,v)=>n<=i/\ ∃e,es[i - n]? =some e/\e.key=k/\e.val=v/\ ∀j e',j<i - n->es[j]? =some e' ->e'.key≠k):=by
    intro es
    induction es with
    | nil=>intro n _;exact ⟨none,rfl,rfl⟩
    | cons e es ih =>
      intro n h
      have hq:=he k e.key w hk (h e (List.mem_cons_self ..))
      by_cases hke:k=e.key
      · refine ⟨some (n,e.val),?_,Nat.le_refl _,e,by simp,hke.symm,rfl,fun j e' hj=>by omega⟩
        rw [decide_eq_true hke] at hq
        unfold Instr.findAsking;simp [Sem.run_bind,hq]
      · obtain ⟨o,ho,hspec⟩:=ih (n+1) fun x hx=>h x (List.mem_cons_of_mem _ hx)
        refine ⟨o,?_,?_⟩
        · rw [decide_eq_false hke] at hq
          unfold Instr.findAsking;simp [Sem.run_bind,hq,ho]
        · cases o with
          | none =>
            show mget ((e::es).map fun e=>(e.key,e.val)) k=none
            rw [List.map_cons,mget_cons,if_neg (fun x=>hke x.symm)];exact hspec
          | some iv =>
            obtain ⟨h1,x,h2,h3,h4,h5⟩:=hspec
            refine ⟨by omega,x,?_,h3,h4,fun j e' hj hje=> ?_⟩
            · rw [show iv.1 - n=(iv.1 - (n+1))+1 from by omega,List.getElem?_cons_succ];exact h2
            · cases j with
              | zero=>simp at hje;subst hje;exact fun x=>hke x.symm
              | succ j=>exact h5 j e' (by omega) (by simpa using hje)
  cases es with
  | nil =>
    refine ⟨none,?_,rfl⟩
    simp only [Instr.findKey,Sem.run_bind,run_underlying hu,Result.andThen_ok,Instr.findNow,Sem.run_pure]
  | cons e es =>
    obtain ⟨o,ho,hspec⟩:=key (e::es) 0 hes
    refine ⟨o,?_,?_⟩
    · have:Instr.findNow d k (e::es) 0=none:=by unfold Instr.findNow;rw [hn k e.key hk (hes e (List.mem_cons_self ..))]
      simp only [Instr.findKey,Sem.run_bind,run_underlying hu,Result.andThen_ok,this]
      exact ho
    · cases o with
      | none=>exact hspec
      | some iv=>exact hspec.2
theorem kl_int {P:Program} {kt:TypeId} {k:IntKind} (hu:P.underlying kt=some (.int k)):KL P kt (fun v=> ∃n:Int,v= .int k n):=by
  refine KL.of_now hu ?_ ?_ ?_
  · rintro b _ w ⟨n,rfl⟩
    show (Instr.checkKey b (9999+1) kt (.int k n)).run P w= .ok () w
    rw [Instr.checkKey]
    simp only [Sem.run_bind,run_underlying hu,Result.andThen_ok,Sem.run_pure]
  · rintro _ _ ⟨a,rfl⟩ ⟨b,rfl⟩
    simp only [Instr.sameNow,if_true,Option.some.injEq]
    by_cases h:a=b<;>simp [h]
  · rintro _ ⟨n,rfl⟩
    show Instr.sameBits (9999+1) (.int k n) (.int k n)=true
    rw [Instr.sameBits];simp
structure KindL (P:Program) (K:MK) (t kt vt:TypeId) (z:Value) {V:Type} (vv:V->Value) (Ok:V->Prop):Prop where
  tm:TM P t kt vt K.OkK z
  val: ∀x,K.OkV x↔ ∃v,Ok v/\x=vv v
  zero: ∃v,Ok v/\z=vv v
def F_look {V:Type} (vv:V->Value) (Ok:V->Prop) (z:Value):List Value->List Slot->Ctr:=fun vs hs=>
  ⟨V×Bool,fun x=> .tuple #[vv x.1, .bool x.2],fun _=>hs,fun x=>Ok x.1/\x.2=(mget (skv (sarg hs 0)) (varg vs 1)).isSome/\vv x.1=(mget (skv (sarg hs 0)) (varg vs 1)).getD z⟩
theorem wlook {P:Program} {K:MK} {t kt vt:TypeId} {z:Value} {V:Type} {vv:V->Value} {Ok:V->Prop} (L:KindL P K t kt vt z vv Ok) {m:KV} (h:KOK K m) (k:Value):
    ∃x:V×Bool,(fun x:V×Bool=>Ok x.1/\x.2=(mget m k).isSome/\vv x.1=(mget m k).getD z) x:=by
  cases hg:mget m k with
  | none =>
    obtain ⟨v,hv,hz⟩:=L.zero
    exact ⟨(v,false),hv,rfl,hz.symm⟩
  | some y =>
    obtain ⟨v,hv,hy⟩:=(L.val y).1 (h.val hg)
    exact ⟨(v,true),hv,rfl,hy.symm⟩
theorem xlook {P:Program} {K:MK} {t kt vt:TypeId} {z:Value} {V:Type} {vv:V->Value} {Ok:V->Prop} (L:KindL P K t kt vt z vv Ok) {r:Nat} {m:KV} (h:KOK K m) {k:Value} (hk:K.OkK k):
    OpT P (do pure (.value (←Instr.lookup t (.map (some r)) k true))) [mo r m] (V×Bool) (fun x=> .tuple #[vv x.1, .bool x.2]) (fun _=> [mo r m]) (fun x=>Ok x.1/\x.2=(mget m k).isSome/\vv x.1=(mget m k).getD z):=by
  intro R w ho
  obtain ⟨_,w',_,hy,ho',he⟩:=xlookup L.tm h.keys hk R w ho
  obtain ⟨x,hx⟩:=wlook L h k
  refine ⟨x,w',hx,?_,ho',he⟩
  simp only [hx.2.1,hx.2.2];exact hy
def F_upd:List Value->List Slot->Ctr:=fun vs hs=>⟨KV,fun _=>undef,fun x=> [mo (vblk (varg vs 0)) x],fun x=>x=mset (skv (sarg hs 0)) (varg vs 1) (varg vs 2)⟩
theorem xupd {P:Program} {K:MK} {t kt vt:TypeId} {z:Value} {V:Type} {vv:V->Value} {Ok:V->Prop} (L:KindL P K t kt vt z vv Ok) {r:Nat} {m:KV} (h:KOK K m) {k:Value} (hk:K.OkK k) (v:Value):
    OpT P (do Instr.mapUpdate t (.map (some r)) k v;pure .skip) [mo r m] KV (fun _=>undef) (fun x=> [mo r x]) (fun x=>x=mset m k v):=by
  intro R w ho
  obtain ⟨_,w',_,hy,ho',he⟩:=xupdate L.tm h.keys h.once hk v R w ho
  exact ⟨_,w',rfl,hy,ho',he⟩
def F_del:List Value->List Slot->Ctr:=fun vs hs=>⟨KV,fun _=>undef,fun x=> [mo (vblk (varg vs 0)) x],fun x=>x=mdel (skv (sarg hs 0)) (varg vs 1)⟩
theorem xdel {P:Program} {K:MK} {t kt vt:TypeId} {z:Value} {V:Type} {vv:V->Value} {Ok:V->Prop} (L:KindL P K t kt vt z vv Ok) (ty kt' :TypeId) {r:Nat} {m:KV} (h:KOK K m) {k:Value} (hk:K.OkK k):
    OpT P (do pure (.value (←Builtin.delete_ #[t,kt'] ty #[.map (some r),k]))) [mo r m] KV (fun _=>undef) (fun x=> [mo r x]) (fun x=>x=mdel m k):=by
  intro R w ho
  obtain ⟨_,w',_,hy,ho',he⟩:=xdelete L.tm ty kt' h.keys hk R w ho
  exact ⟨_,w',rfl,hy,ho',he⟩
theorem mo_new {r:Nat} {l:List Slot}:Imp (.blk r (.map #[] 0)::l) (mo r []::l):=fun _ _ h=>mo_shut rfl Born.empty h
end Go.Sx
namespace Go.Sx
open Go.RowKit
structure CallD (P:Program) (f:FuncId) (args:Array Value) (Hs:List Slot) (X:Type) (us:X->List Slot) (Φ:X->Prop):Prop where
  enter:EnterOK P f
  calls: ∀ (R:HP) (u:FrameMode) (w:World),Own (ofList Hs) R w->
    CallsD P f args u w fun e u' w' =>u' =u/\ ∃x v,Φ x/\e= .returned v/\Own (ofList (us x)) R w' /\Ext w w'
theorem callD_of {P:Program} {f:FuncId} {fn:Func} {c:Code} {n:Nat} {args:Array Value} {Hs:List Slot} {X:Type} {val:X->Value} {us:X->List Slot} {Φ:X->Prop}
    (hP : P.follows .mixedOrders = true) (hf : P.funcs[f]? = some fn) (hb : fn.body = some c) (hn : fn.ntmps = n) (hname : (fn.name == "runtime.NumGoroutine") = false)
    (fuel:Nat) (k:Script) (acc:List Acc) (outs:List Nat) (hsz:Nat.ble args.size n=true) (ho:nodB outs=true)
    (h:codeW P n none fuel none c k (init args Hs) (finW P fn acc outs val us Φ)):CallD P f args Hs X us Φ:=by
  refine ⟨enterOK hf hb hname,fun R u w hw=> ?_⟩
  subst hn
  refine (callsD_of_wp (R:=fun e w' => ∃x v,Φ x/\e= .returned v/\Own (ofList (us x)) R w' /\Ext w w') hf hb ?_)
  have hc:=(code_sound hP fuel).1 c k (init args Hs) _ R _ w h (init_rel (Nat.le_of_ble_eq_true hsz)) hw
  have hc' :=(wpIn_wide (P:=P) (c:=c)).1 hc
  have fin: ∀ (a' :Act) (w' :World) (s' :St),Rel fn.ntmps s' a' ->Own s'.H R w' ->Ext w w' ->(symR P (resF fn s'.fr) acc s'.H fun v=> ∃x,Φ x/\v=val x/\outW outs (us x) s'.H (dfW s'.df [] True))->
      a'.defers= []/\ ∃v,(results fn a'.tmps).run P w' = .ok v w' /\ ∃x v',Φ x/\Ending.returned v= .returned v' /\Own (ofList (us x)) R w' /\Ext w w' :=by
    intro a' w' s' hr ho' he hs
    obtain ⟨v,hrun,x,hx,rfl,hout⟩:=symR_sound _ acc s'.H _ R w' hs ho'
    obtain ⟨hd,hk⟩:=outW_use hout
    refine ⟨?_,val x,by rw [resF_eq hr];exact hrun,x,val x,hx,rfl,(own_sub (nodB_iff.1 ho) ho').weaken fun k=>(hk k).symm,he⟩
    rw [hr.df]
    cases hdf:s'.df with
    | nil=>rfl
    | cons y l=>rw [hdf] at hd;exact absurd hd.1 (by simp)
  refine wp_mono hc' ?_
  rintro e a' w' ⟨s',⟨k',hk⟩,hr,ho',he⟩
  cases e with
  | normal=>exact fin a' w' s' hr ho' he hk
  | ret=>exact fin a' w' s' hr ho' he hk
  | exit id=>exact hk.elim
  | goto l=>exact hk.elim
  | panic ch=>exact hk.elim
  | outgrown=>exact hk.elim
def finR (P:Program) (fn:Func) (acc:List Acc) (outs:List Nat) {X:Type} (val:X->Value) (us:X->List Slot) (Φ:X->Prop) (fr:Nat->Value) (H:Hp):Prop:=
  symR P (resF fn fr) acc H fun v=> ∃x,Φ x/\v=val x/\outW outs (us x) H True
def finD (P : Program) (fn : Func) (acc : List Acc) (outs : List Nat) {X : Type} (val : X -> Value) (us : X -> List Slot) (Φ : X -> Prop) (e : Exit) (s : St) (k : Script) : Prop :=
  match e with
  | .normal | .ret =>
    match s.df with
    | []=>finR P fn acc outs val us Φ s.fr s.H
    | [d] =>
      match d.target,k with
      | .fn (.func g) cap, .reg [.callw ins os C] _ =>
        onB (nodB ins) (onB (nodB os) (CallD P g (d.args++cap) (ins.map s.H) (C (undef::(d.args++cap).toList) (ins.map s.H)).X (C (undef::(d.args++cap).toList) (ins.map s.H)).us (C (undef::(d.args++cap).toList) (ins.map s.H)).Φ/\
          ∀x,(C (undef::(d.args++cap).toList) (ins.map s.H)).Φ x->finR P fn acc outs val us Φ s.fr (updL (clears s.H ins) os ((C (undef::(d.args++cap).toList) (ins.map s.H)).us x))))
      | _,_=>False
    | _=>False
  | _=>False
theorem CallD.use {P:Program} {f:FuncId} {args:Array Value} {H:Hp} {ins outs:List Nat} {X:Type} {us:X->List Slot} {Φ:X->Prop} {R:HP} {u:FrameMode} {w:World}
    (h:CallD P f args (ins.map H) X us Φ) (hi:ins.Nodup) (ho:outs.Nodup) (hw:Own H R w):
    CallsD P f args u w fun e u' w' =>u' =u/\ ∃x v,Φ x/\e= .returned v/\Own (updL (clears H ins) outs (us x)) R w' /\Ext w w' :=
  (h.calls _ u w (own_split hi hw)).mono fun _ _ _ ⟨hu,x,v,hx,he,ho',hext⟩=>⟨hu,x,v,hx,he,own_join ho ho',hext⟩
theorem call_of_dfr {P : Program} {f : FuncId} {fn : Func} {c : Code} {n : Nat} {args : Array Value} {Hs : List Slot} {X : Type} {val : X -> Value} {us : X -> List Slot} {Φ : X -> Prop}
    (hP : P.follows .mixedOrders = true) (hf : P.funcs[f]? = some fn) (hb : fn.body = some c) (hn : fn.ntmps = n) (hname : (fn.name == "runtime.NumGoroutine") = false)
    (fuel:Nat) (k:Script) (acc:List Acc) (outs:List Nat) (hsz:Nat.ble args.size n=true) (ho:nodB outs=true)
    (h:codeW P n none fuel none c k (init args Hs) (finD P fn acc outs val us Φ)):CallT P f args Hs X val us Φ:=by
  refine ⟨enterOK hf hb hname,fun R w hw=> ?_⟩
  subst hn
  refine calls_of_wp_defers hf hb ?_
  have hc:=(code_sound hP fuel).1 c k (init args Hs) _ R _ w h (init_rel (Nat.le_of_ble_eq_true hsz)) hw
  have hc' :=(wpIn_wide (P:=P) (c:=c)).1 hc
  have done: ∀ (a' :Act) (w' :World) (fr:Nat->Value) (H:Hp) (df:List Deferred),Rel fn.ntmps ⟨fr,H,df⟩ a' ->Own H R w' ->Ext w w' ->finR P fn acc outs val us Φ fr H->
      ∃v,(results fn a'.tmps).run P w' = .ok v w' /\ ∃x,Φ x/\Ending.returned v= .returned (val x)/\Own (ofList (us x)) R w' /\Ext w w' :=by
    intro a' w' fr H df hr ho' he hs
    obtain ⟨v,hrun,x,hx,rfl,hout⟩:=symR_sound _ acc H _ R w' hs ho'
    obtain ⟨_,hk⟩:=outW_use hout
    exact ⟨val x,by rw [resF_eq hr];exact hrun,x,hx,rfl,(own_sub (nodB_iff.1 ho) ho').weaken fun k=>(hk k).symm,he⟩
  have fin: ∀ (a' :Act) (w' :World) (s' :St) (k' :Script),Rel fn.ntmps s' a' ->Own s'.H R w' ->Ext w w' ->finD P fn acc outs val us Φ .ret s' k' ->
      Leaves P fn a'.tmps (fun e w' => ∃x,Φ x/\e= .returned (val x)/\Own (ofList (us x)) R w' /\Ext w w') a'.defers .returning w' :=by
    intro a' w' s' k' hr ho' he hs
    rw [hr.df]
    unfold finD at hs
    cases hdf:s'.df with
    | nil =>
      rw [hdf] at hs
      obtain ⟨v,hrun,r⟩:=done a' w' s'.fr s'.H s'.df hr ho' he hs
      exact ⟨v,hrun,r⟩
    | cons d l =>
      rw [hdf] at hs
      cases l with
      | cons _ _=>exact hs.elim
      | nil =>
        simp only at hs
        split at hs
        · rename_i g cap ins os C k'' htg
          obtain ⟨hi,hs⟩:=onB_iff.1 hs
          obtain ⟨hu,hcd,hs⟩:=onB_iff.1 hs
          obtain ⟨tg,dargs⟩:=d
          simp only at htg;subst htg
          refine leaves_cons (by simp) (f:=g) (args:=dargs++cap) ?_ ?_
          · exact hcd.enter _ _
          · refine (hcd.use (nodB_iff.1 hi) (nodB_iff.1 hu) ho').mono ?_
            rintro e u' w'' ⟨rfl,x,v,hx,rfl,ho'',hext⟩
            obtain ⟨v2,hrun,r⟩:=done a' w'' s'.fr _ s'.df hr.heap ho'' (he.trans hext) (hs x hx)
            exact ⟨v2,hrun,r⟩
        · exact hs.elim
  refine wp_mono hc' ?_
  rintro e a' w' ⟨s',⟨k',hk⟩,hr,ho',he⟩
  cases e with
  | normal=>exact fin a' w' s' k' hr ho' he hk
  | ret=>exact fin a' w' s' k' hr ho' he hk
  | exit id=>exact hk.elim
  | goto l=>exact hk.elim
  | panic ch=>exact hk.elim
  | outgrown=>exact hk.elim
end Go.Sx
namespace Go.Sx
def nv:List Int->Int
  | []=>0
  | d::l=>d+65536*nv l
def Dig (l:List Int):Prop:= ∀d∈l,0<=d/\d<65536
def dgt (l:List Int) (i:Nat):Int:=l.getD i 0
def Canon (l:List Int):Prop:=l.getLast? ≠some 0
def P16 (n:Nat):Int:=65536^n
theorem P16_zero:P16 0=1:=rfl
theorem P16_succ (n:Nat):P16 (n+1)=65536*P16 n:=by unfold P16;rw [Int.pow_succ,Int.mul_comm]
theorem P16_pos (n:Nat):0<P16 n:=Int.pow_pos (by decide)
theorem P16_add (m n:Nat):P16 (m+n)=P16 m*P16 n:=Int.pow_add ..
theorem P16_mono {m n:Nat} (h:m<=n):P16 m<=P16 n:=by
  obtain ⟨k,rfl⟩:=Nat.exists_eq_add_of_le h
  have:=Int.mul_le_mul_of_nonneg_left (Int.add_one_le_of_lt (P16_pos k)) (Int.le_of_lt (P16_pos m))
  rw [P16_add];simpa using this
theorem Dig.nil:Dig []:=fun _ h=>by cases h
theorem Dig.tail {d:Int} {l:List Int} (h:Dig (d::l)):Dig l:=fun x hx=>h x (.tail _ hx)
theorem Dig.head {d:Int} {l:List Int} (h:Dig (d::l)):0<=d/\d<65536:=h d (.head _)
theorem Dig.append {l m:List Int} (h:Dig l) (k:Dig m):Dig (l++m):=fun x hx=>(List.mem_append.1 hx).elim (h x) (k x)
theorem Dig.take {l:List Int} (h:Dig l) (n:Nat):Dig (l.take n):=fun x hx=>h x (List.mem_of_mem_take hx)
theorem Dig.drop {l:List Int} (h:Dig l) (n:Nat):Dig (l.drop n):=fun x hx=>h x (List.mem_of_mem_drop hx)
theorem Dig.one {x:Int} (h0:0<=x) (h1:x<65536):Dig [x]:=fun d hd=>by simp at hd;subst hd;exact ⟨h0,h1⟩
theorem Dig.set {l:List Int} (h:Dig l) (n:Nat) {x:Int} (h0:0<=x) (h1:x<65536):Dig (l.set n x):=fun d hd=>by
  rcases List.mem_or_eq_of_mem_set hd with h' | h'
  · exact h d h'
  · subst h';exact ⟨h0,h1⟩
theorem Dig.replicate (n:Nat):Dig (List.replicate n 0):=fun d hd=>by have:=(List.mem_replicate.1 hd).2;subst this;exact ⟨by decide,by decide⟩
theorem Dig.dgt {l:List Int} (h:Dig l) (i:Nat):0<=dgt l i/\dgt l i<65536:=by
  unfold Sx.dgt
  rw [List.getD_eq_getElem?_getD]
  cases hx:l[i]? with
  | none=>exact ⟨by decide,by decide⟩
  | some x=>exact h x (List.mem_of_getElem? hx)
theorem nv_nonneg: ∀ {l:List Int},Dig l->0<=nv l
  | [],_=>Int.le_refl _
  | d::l,h=>by have:=nv_nonneg h.tail;have:=h.head;simp only [nv];omega
theorem nv_lt: ∀ {l:List Int},Dig l->nv l<P16 l.length
  | [],_=>by decide
  | d::l,h=>by have:=nv_lt h.tail;have:=h.head;simp only [nv,List.length_cons,P16_succ];omega
theorem nv_append: ∀ (l m:List Int),nv (l++m)=nv l+P16 l.length*nv m
  | [],m=>by simp [nv,P16_zero]
  | d::l,m=>by simp only [List.cons_append,nv,nv_append l m,List.length_cons,P16_succ,Int.mul_add,Int.mul_assoc];omega
theorem nv_snoc (l:List Int) (x:Int):nv (l++ [x])=nv l+P16 l.length*x:=by rw [nv_append];simp [nv]
theorem nv_split (l:List Int) (n:Nat) (h:n<=l.length):nv l=nv (l.take n)+P16 n*nv (l.drop n):=by
  conv=>lhs;rw [←List.take_append_drop n l]
  rw [nv_append,List.length_take,Nat.min_eq_left h]
theorem take_succ_dgt (l:List Int) (i:Nat) (h:i<l.length):l.take (i+1)=l.take i++ [dgt l i]:=by
  rw [List.take_add_one,dgt,List.getD_eq_getElem?_getD,List.getElem?_eq_getElem h];rfl
theorem nv_take_succ (l:List Int) (i:Nat):nv (l.take (i+1))=nv (l.take i)+P16 i*dgt l i:=by
  rcases Nat.lt_or_ge i l.length with h | h
  · rw [take_succ_dgt l i h,nv_snoc,List.length_take,Nat.min_eq_left (by omega)]
  · rw [List.take_of_length_le h,List.take_of_length_le (by omega),dgt,List.getD_eq_getElem?_getD,List.getElem?_eq_none h];simp
theorem nv_take_all (l:List Int) (i:Nat) (h:l.length<=i):nv (l.take i)=nv l:=by rw [List.take_of_length_le h]
theorem nv_drop_dgt (l:List Int) (i:Nat):nv (l.drop i)=dgt l i+65536*nv (l.drop (i+1)):=by
  rcases Nat.lt_or_ge i l.length with h | h
  · rw [List.drop_eq_getElem_cons h,nv,dgt,List.getD_eq_getElem?_getD,List.getElem?_eq_getElem h];rfl
  · rw [List.drop_of_length_le h,List.drop_of_length_le (by omega),dgt,List.getD_eq_getElem?_getD,List.getElem?_eq_none h];rfl
theorem nv_zero: ∀ {l:List Int},Dig l->nv l=0->Canon l->l= []
  | [],_,_,_=>rfl
  | d :: l, h, h0, hc => by
    exfalso
    have:=nv_nonneg h.tail;have:=h.head
    simp only [nv] at h0
    have hd:d=0:=by omega
    have hl:nv l=0:=by omega
    subst hd
    cases l with
    | nil=>exact hc rfl
    | cons x l =>
      have:=nv_zero h.tail hl (by simpa [Canon] using hc)
      cases this
theorem canon_len {l : List Int} (h : Dig l) (hc : Canon l) {k : Nat} (hk : nv l < P16 k) : l.length <= k := by
  rcases Nat.lt_or_ge k l.length with hlt | hge
  · exfalso
    have hs:=nv_split l k (by omega)
    have a:=nv_nonneg (h.take k)
    have b:=nv_nonneg (h.drop k)
    have hp:=P16_pos k
    have:nv (l.drop k)=0:=by
      rcases Int.lt_or_le 0 (nv (l.drop k)) with h' | h'
      · have:=Int.mul_le_mul_of_nonneg_left (Int.add_one_le_of_lt h') (Int.le_of_lt hp)
        simp at this;omega
      · omega
    have hd:Canon (l.drop k):=by
      unfold Canon at *
      rw [List.getLast?_drop,if_neg (by omega)]
      exact hc
    have:=nv_zero (h.drop k) this hd
    have:=congrArg List.length this
    simp at this;omega
  · exact hge
theorem canon_pos {l:List Int} (h:Dig l) (hc:Canon l):(l.length=0)↔nv l=0:=by
  constructor
  · intro h';rw [List.length_eq_zero_iff.1 h'];rfl
  · intro h';rw [nv_zero h h' hc];rfl
def dg (r:Row):List Int:=(vals r).map ci
def rdv (v:Value) (s:Slot):List Int:=(rvals v s).map ci
theorem rdv_eq (r:Row) (e:TypeId):rdv (sv r) (ss e r)=dg r:=by rw [rdv,rvals_eq,dg]
structure RowOK (r:Row):Prop where
  int:vals r=(dg r).map (Value.int .i64)
  dig:Dig (dg r)
theorem dg_len (r:Row):(dg r).length=(vals r).length:=by simp [dg]
theorem vlen_dg (r:Row):vlen (sv r)=(dg r).length:=by rw [vlen_sv,dg_len]
theorem RowOK.get {r:Row} (h:RowOK r) {n:Nat} (hn:n<(dg r).length):(vals r)[n]? =some (.int .i64 (dgt (dg r) n)):=by
  rw [h.int,List.getElem?_map,dgt,List.getD_eq_getElem?_getD,List.getElem?_eq_getElem hn];rfl
theorem map_ci (l:List Int):(l.map (Value.int .i64)).map ci=l:=by rw [List.map_map];exact List.map_id _
theorem RowOK.of {r:Row} {l:List Int} (h:vals r=l.map (Value.int .i64)) (hd:Dig l):RowOK r/\dg r=l:=by
  have e:dg r=l:=by rw [dg,h,map_ci]
  exact ⟨⟨by rw [e];exact h,by rw [e];exact hd⟩,e⟩
theorem RowOK.nil:RowOK .nil:=⟨rfl,Dig.nil⟩
theorem RowOK.take {r:Row} (h:RowOK r) (n:Nat):RowOK (r.take n)/\dg (r.take n)=(dg r).take n:=
  RowOK.of (by rw [vals_take,h.int,List.map_take]) (h.dig.take n)
theorem RowOK.set {r:Row} (h:RowOK r) (n:Nat) {x:Int} (h0:0<=x) (h1:x<65536):RowOK (r.set n (.int .i64 x))/\dg (r.set n (.int .i64 x))=(dg r).set n x:=
  RowOK.of (by rw [vals_set,h.int,List.map_set]) (h.dig.set n h0 h1)
theorem RowOK.snoc {r y:Row} (h:RowOK r) {x:Int} (h0:0<=x) (h1:x<65536) (hy:vals y=vals r++ [.int .i64 x]):RowOK y/\dg y=dg r++ [x]:=
  RowOK.of (by rw [hy,h.int,List.map_append];rfl) (h.dig.append (Dig.one h0 h1))
end Go.Sx
namespace Go.Sx
def F_get:List Value->List Slot->Ctr:=fun vs hs=>⟨Int,fun zx=> .int .i64 zx,fun _=>hs,fun zx=>(scells (sarg hs 0))[voff (varg vs 0)]? =some (.int .i64 zx)⟩
def F_put:List Value->List Slot->Ctr:=fun vs hs=>⟨Unit,fun _=> .tuple #[],fun _=> [sset (sarg hs 0) (voff (varg vs 0)) (varg vs 1)],fun _=>True⟩
def F_app (e:TypeId):List Value->List Slot->Ctr:=fun vs hs=>⟨Row,fun y=>sv y,fun y=> [ss e y,sarg hs 1],fun y=>vals y=rvals (varg vs 0) (sarg hs 0)++ [scell (sarg hs 1) 0]⟩
theorem scells_ss (r:Row) (e:TypeId) (n:Nat) (h:n<(vals r).length):(scells (ss e r))[n]? =(vals r)[n]? :=by
  cases r with
  | nil=>simp [vals] at h
  | mk b vs ex=>simp only [vals] at h;simp [scells,ss,vals,List.getElem?_append_left h]
theorem getR {e:TypeId} (r:Row) (n:Nat) (h:RowOK r) (hn:n<(dg r).length) {x:Int} (hx:(scells (ss e r))[n]? =some (.int .i64 x)):x=dgt (dg r) n:=by
  rw [scells_ss r e n (by rw [←dg_len];exact hn),h.get hn] at hx
  injection hx with hx;injection hx with _ hx;exact hx.symm
theorem wit_get {e:TypeId} (r:Row) (n:Nat) (h:RowOK r) (hn:n<(dg r).length): ∃x:Int,(fun zx=>(scells (ss e r))[n]? =some (.int .i64 zx)) x:=
  ⟨dgt (dg r) n,by dsimp only;rw [scells_ss r e n (by rw [←dg_len];exact hn),h.get hn]⟩
theorem xgetR {P:Program} {e:TypeId} (r:Row) (te:TypeId) (ha: ∀w,(isAgg te).run P w= .ok false w) (n:Nat) (h:RowOK r) (hn:n<(dg r).length):
    OpT P (do pure (.value (←Instr.loadAt te (.pointer (some ⟨vblk (sv r),n,none⟩))))) [ss e r] Int (fun zx=> .int .i64 zx) (fun _=> [ss e r]) (fun zx=>(scells (ss e r))[n]? =some (.int .i64 zx)):=by
  intro R w hO
  obtain ⟨_,w',_,hr,ho,he⟩:=xget (e:=e) r te ha n _ (h.get hn) R w hO
  exact ⟨dgt (dg r) n,w',by rw [scells_ss r e n (by rw [←dg_len];exact hn),h.get hn],hr,ho,he⟩
theorem xappendR {P:Program} {t e:TypeId} {z:Value} (h:SlT P t e z) (ty:TypeId) (r:Row) (hl:(dg r).length<=1073741824) (c m:Nat) (x:Value) (h2:x.oneCell' =true):
    OpT P (do pure (.value (←Builtin.append_ #[t,t] ty #[sv r, .slice (some ⟨c,0,none⟩) 1 m]))) [ss e r, .blk c (.cells #[x] e (0,0))] Row (fun zx=>sv zx) (fun zx=> [ss e zx, .blk c (.cells #[x] e (0,0))]) (fun zx=>vals zx=rvals (sv r) (ss e r)++ [x]):=by
  rw [rvals_eq]
  exact xappend h ty r (by rw [←dg_len];exact hl) c m x h2
theorem wit_app (l:List Value): ∃y:Row,(fun zx=>vals zx=l) y:=⟨.mk 0 l [],rfl⟩
theorem rowOK_lit (b:Nat) (l:List Int) (h:l.all (fun d=>decide (0<=d) && decide (d<65536))=true):RowOK (.mk b (l.map (.int .i64)) []):=
  (RowOK.of rfl (fun d hd=>by have:=(List.all_eq_true.1 h) d hd;simpa using this)).1
end Go.Sx
namespace Go.Sx
theorem new_fold {K:MK} (b r bj:Nat):Imp [.blk b (.cells #[.map (some r), .pointer (some ⟨bj,0,none⟩),K.less] K.te (0,0)), .blk r (.map #[] 0)] [mS K b bj []]:=by
  refine Imp.trans ?_ (mS_shut (r:=r) KOK.nil [])
  intro R w h
  have h1:=Imp.swap [_] [_] R w h
  exact Imp.swap [mo r []] [_] R w (mo_new R w h1)
theorem cells_sv (r:Row):(sv r).cells= #[sv r]:=by cases r<;>rfl
theorem one_sv (r:Row):(sv r).oneCell' =true:=by cases r<;>rfl
theorem heap_setCell_at (w:World) (b n:Nat) (cs:Array Value) (e:TypeId) (f:Nat×Nat) (v:Value) (h:w.heap[b]? =some (.cells cs e f)):(w.setCell ⟨b,n,none⟩ v).heap[b]? =some (.cells (cs.setIfInBounds n v) e f):=by
  simp only [World.setCell]
  rw [heap_modify_same _ h];simp
theorem xputv {P:Program} {b:Nat} {cs:Array Value} {ty te:TypeId} (hs: ∀w,(sizeOf te).run P w= .ok 1 w) (n:Nat) (v:Value) (h1:v.cells= #[v]) (h2:v.oneCell' =true) (hn:n<cs.size):
    OpT P (do Instr.storeAt te (.pointer (some ⟨b,n,none⟩)) v;pure .skip) [.blk b (.cells cs ty (0,0))] Unit (fun _=>undef) (fun _=> [.blk b (.cells (cs.setIfInBounds n v) ty (0,0))]) (fun _=>True):=by
  intro R w h
  have hb:=h.block (i:=0) rfl
  have hc:w.cell? ⟨b,n,none⟩=some cs[n]:=by
    rw [cell_of_block hb rfl];simp [hn]
  have hf:w.frozen? ⟨b,n,none⟩=false:=by
    rw [frozen_of_block hb];simp [frozenAt,frz]
  have hst:(store ⟨b,n,none⟩ v).run P w= .ok () (w.setCell ⟨b,n,none⟩ v):=by rw [run_store P w _ v _ h2,hc];simp [hf]
  have hh:=heap_setCell_at w b n cs ty (0,0) v hb
  refine ⟨(),w.setCell ⟨b,n,none⟩ v,trivial, .inr ⟨?_,rfl⟩,?_,?_⟩
  · simp [Instr.storeAt,Instr.sureAddr,storeVar,Sem.run_bind,hs,h1,storeCells,Addr.add,hst]
  · have:=h.set (i:=0) (b:=b) rfl hh (fun c hc=>heap_setCell_other w _ c v hc)
    refine (congrArg (fun H=>Own H R (w.setCell ⟨b,n,none⟩ v)) ?_).mp this
    funext i
    cases i<;>rfl
  · exact ⟨rfl,rfl,rfl,by simp,by first | exact Nat.le_refl _ | exact Nat.le_succ _ | simp⟩
def default_ent:Ent:=⟨0,0,undef,none,undef,0,0,0,0⟩
theorem mdel_none {m:KV} {k:Value} (h:mget m k=none):mdel m k=m:=by
  unfold mdel
  refine List.eraseP_of_forall_not fun x hx=> ?_
  simpa using mget_none.1 h x hx
theorem Imp.tail {a b:List Slot} (s:Slot) (h:Imp a b):Imp (s::a) (s::b):=by
  intro R w ho
  have h1:=own_frame.1 (Imp.swap [s] a R w ho)
  exact Imp.swap b [s] R w (own_frame.2 (h _ w h1))
theorem Imp.head {a b:List Slot} (l:List Slot) (h:Imp a b):Imp (a++l) (b++l):=fun R w ho=>own_frame.2 (h _ w (own_frame.1 ho))
theorem kl_struct2 {P : Program} {kt : TypeId} {k0 k1 : IntKind} {f0 f1 : Field} (hu : P.underlying kt = some (.struct #[f0, f1])) (hp : P.stoodInHeld kt = false) (n0 : (f0.name == "_") = false) (n1 : (f1.name == "_") = false) (o0 : f0.offset = 0) (o1 : f1.offset = 1)
    (u0:P.underlying f0.type=some (.int k0)) (u1:P.underlying f1.type=some (.int k1)) (a0: ∀w,(isAgg f0.type).run P w= .ok false w) (a1: ∀w,(isAgg f1.type).run P w= .ok false w)
    (hc: ∀b a c w,(Instr.checkKey b 10000 kt (.agg #[.int k0 a, .int k1 c])).run P w= .ok () w):KL P kt (fun v=> ∃n0 n1:Int,v= .agg #[.int k0 n0, .int k1 n1]):=by
  refine KL.of_asking hu ?_ ?_ ?_ ?_
  · rintro b _ w ⟨a,c,rfl⟩;exact hc b a c w
  · rintro _ _ ⟨a,c,rfl⟩ ⟨a',c',rfl⟩;rfl
  · rintro _ _ w ⟨a,c,rfl⟩ ⟨a',c',rfl⟩
    have hfs:P.fieldsOf kt= #[f0,f1]:=by unfold Program.fieldsOf;rw [hu]
    have hu' :P.underlying kt=some (.struct (P.fieldsOf kt)):=by rw [hfs];exact hu
    have h0 : f0.name ≠ "_" := by simpa using n0
    have h1 : f1.name ≠ "_" := by simpa using n1
    show (Op.equalIn (9999+1) kt _ _).run P w=_
    rw [run_equalIn_struct w 9999 kt _ _ hu' hp,hfs]
    have p0: ∀ (x y:Value) (w:World),(part f0.type #[x,y] f0.offset).run P w= .ok x w:=fun x y w=>run_part1 w a0 (by rw [o0];rfl)
    have p1: ∀ (x y:Value) (w:World),(part f1.type #[x,y] f1.offset).run P w= .ok y w:=fun x y w=>run_part1 w a1 (by rw [o1];rfl)
    have e0:(Op.equalIn (9998+1) f0.type (.int k0 a) (.int k0 a')).run P w= .ok (a==a') w:=run_equalIn_int w 9998 f0.type k0 k0 a a' u0
    have e1:(Op.equalIn (9998+1) f1.type (.int k1 c) (.int k1 c')).run P w= .ok (c==c') w:=run_equalIn_int w 9998 f1.type k1 k1 c c' u1
    simp only [Op.eqFields,h0,h1,ne_eq,not_false_eq_true,if_true,Sem.run_bind,p0,p1,Result.andThen_ok,e0,e1]
    by_cases ha:a=a'
    · by_cases hc:c=c'
      · simp [ha,hc,Op.eqFields,Sem.run_bind,p0,p1,h1]
        have e1' :(Op.equalIn (9998+1) f1.type (.int k1 c') (.int k1 c')).run P w= .ok true w:=by
          have:=run_equalIn_int (P:=P) w 9998 f1.type k1 k1 c' c' u1
          simpa using this
        first | done | (rw [e1'];rfl) | simp [e1']
      · have hcc:(c==c')=false:=by simpa using hc
        simp [ha,hc,Op.eqFields,Sem.run_bind,p0,p1,h1]
        have e1' :(Op.equalIn (9998+1) f1.type (.int k1 c) (.int k1 c')).run P w= .ok false w:=by rw [e1,hcc]
        first | done | (rw [e1'];rfl) | simp [e1']
    · have haa:(a==a')=false:=by simpa using ha
      simp [ha]
  · rintro _ ⟨a,c,rfl⟩
    show Instr.sameBits (9999+1) _ _=true
    simp [Instr.sameBits]
end Go.Sx
namespace Go.Sx
open Go.RowKit
def SeenIs (es:Array MapEntry) (seen:Array Nat) (ks:List Value):Prop:= ∃l:List MapEntry,(∀e∈l,e∈es.toList)/\(l.map (·.born)).Nodup/\seen.toList=l.map (·.born)/\ks=l.map (·.key)
def mitF (r it:Nat) (m:KV) (ks:List Value):Array MapEntry×Nat×Array Nat->List Slot:=fun x=>
  [.blk r (.map x.1 x.2.1), .blk it (.mapIter (some r) x.2.1 x.2.2 x.2.1)]++ [pur (kvs x.1=m/\Born x.1 x.2.1/\SeenIs x.1 x.2.2 ks)]
def mit (r it:Nat) (m:KV) (ks:List Value):Slot:=bun [r,it] (.vals ks) (mitF r it m ks)
theorem mit_shut {r it:Nat} {m:KV} {ks:List Value} {es:Array MapEntry} {clock:Nat} {seen:Array Nat} (h:kvs es=m/\Born es clock/\SeenIs es seen ks) (l:List Slot):
    Imp (.blk r (.map es clock):: .blk it (.mapIter (some r) clock seen clock)::l) (mit r it m ks::l):=by
  refine Imp.trans (.same fun p hp=> ?_) (bun_shut (F:=mitF r it m ks) (es,clock,seen) l)
  have h2:SepL ([.blk r (.map es clock), .blk it (.mapIter (some r) clock seen clock)]++l) p:=hp
  obtain ⟨p1,p2,ha,hb,d,rfl⟩:=(sep_append _ _).1 h2
  exact (sep_append _ _).2 ⟨p1,p2,sep_pur.2 ⟨ha,h⟩,hb,d,rfl⟩
theorem mit_open {r it:Nat} {m:KV} {ks:List Value} {l:List Slot} {R:HP} {w:World} (h:Own (ofList (mit r it m ks::l)) R w):
    ∃es clock seen,(kvs es=m/\Born es clock/\SeenIs es seen ks)/\Own (ofList (.blk r (.map es clock):: .blk it (.mapIter (some r) clock seen clock)::l)) R w:=by
  obtain ⟨⟨es,clock,seen⟩,hr⟩:=bun_open h
  obtain ⟨p,q,hp,hq,hw,hqw,d⟩:=own_sep.1 hr
  obtain ⟨p1,p2,ha,hb,d2,rfl⟩:=(sep_append _ _).1 hp
  obtain ⟨ha',hk⟩:=sep_pur.1 ha
  exact ⟨es,clock,seen,hk,own_sep.2 ⟨_,q,(sep_append [_,_] l).2 ⟨p1,p2,ha',hb,d2,rfl⟩,hq,hw,hqw,d⟩⟩
noncomputable def nxv (m:KV):Option Value->Value
  | none=> .tuple #[.bool false]
  | some k=> .tuple #[.bool true,k,(mget m k).getD undef]
def mitE (r it:Nat) (m:KV) (ks:List Value):Option Value->Slot
  | none=>mo r m
  | some k=>mit r it m (ks++ [k])
def nxP (m:KV) (ks:List Value):Option Value->Prop
  | none=>ks.Perm (m.map (·.1))
  | some k=>k∉ks/\k∈m.map (·.1)
theorem xrange {P:Program} {t kt vt:TypeId} (hu:P.underlying t=some (.map kt vt)) {r:Nat} {m:KV}:
    OpT P (do pure (.value (←Instr.range t (.map (some r))))) [mo r m] Nat (fun it=> .pointer (some ⟨it,0,none⟩)) (fun it=> [mit r it m []]) (fun _=>True):=by
  intro R w ho
  obtain ⟨es,clock,⟨e,hbn⟩,ho'⟩:=mo_open ho
  have hb:=ho'.block (i:=0) rfl
  refine ⟨w.heap.size,w.alloc (.mapIter (some r) clock #[] clock),trivial, .inl ?_,mit_shut (seen:= #[]) ⟨e,hbn,[],by simp,by simp,by simp,rfl⟩ [] _ _ ?_,⟨rfl,rfl,rfl,by simp,Nat.le_refl _⟩⟩
  · rw [Sem.run_bind,run_range_map w t kt vt r es clock hu hb];rfl
  · have:=ho'.new (w' :=w.alloc (.mapIter (some r) clock #[] clock)) (i:=1) (heap_alloc_new w _) (fun c hc=>by show (w.heap.push _)[c]? =_;rw [Array.getElem?_push_lt hc,Array.getElem?_eq_getElem hc])
    refine (congrArg (fun H=>Own H R (w.alloc (.mapIter (some r) clock #[] clock))) ?_).mp this
    funext j
    cases j with
    | zero=>rfl
    | succ j=>cases j<;>rfl
theorem inj_of_nodup {α β:Type} {f:α->β}: ∀ {l:List α},(l.map f).Nodup-> ∀ {a b:α},a∈l->b∈l->f a=f b->a=b
  | [],_,_,_,h,_,_=>by cases h
  | x :: l, h, a, b, ha, hb, e => by
    rw [List.map_cons,List.nodup_cons] at h
    rcases List.mem_cons.1 ha with h1 | h1<;>rcases List.mem_cons.1 hb with h2 | h2
    · rw [h1,h2]
    · rw [h1] at e;exact absurd (List.mem_map.2 ⟨b,h2,e.symm⟩) h.1
    · rw [h2] at e;exact absurd (List.mem_map.2 ⟨a,h1,e⟩) h.1
    · exact inj_of_nodup h.2 h1 h2 e
theorem born_key {es:Array MapEntry} (h:(es.toList.map (·.born)).Nodup) {a b:MapEntry} (ha:a∈es.toList) (hb:b∈es.toList) (e:a.born=b.born):a=b:=inj_of_nodup h ha hb e
theorem nodup_of_map {α β:Type} {f:α->β}: ∀ {l:List α},(l.map f).Nodup->l.Nodup
  | [],_=>List.nodup_nil
  | x :: l, h => by
    simp only [List.map_cons,List.nodup_cons] at h ⊢
    exact ⟨fun hx=>h.1 (List.mem_map.2 ⟨x,hx,rfl⟩),nodup_of_map h.2⟩
theorem mget_entry {es:Array MapEntry} {m:KV} (e:kvs es=m) (hm:MOK m) {x:MapEntry} (hx:x∈es.toList):mget m x.key=some x.val:=by
  have hmem:(x.key,x.val)∈m:=by rw [←e];exact List.mem_map.2 ⟨x,hx,rfl⟩
  unfold mget
  cases hf:m.find? fun e=>decide (e.1=x.key) with
  | none =>
    have:=List.find?_eq_none.1 hf _ hmem
    simp at this
  | some y =>
    have h1:=List.find?_some hf
    have h2:=List.mem_of_find?_eq_some hf
    simp at h1
    have:y=(x.key,x.val):=inj_of_nodup hm h2 hmem h1
    rw [this];rfl
theorem xnext {P : Program} (ty : TypeId) {r it : Nat} {m : KV} {ks : List Value} (hm : MOK m) :
    OpT P (do pure (.value (←Instr.next (.pointer (some ⟨it,0,none⟩)) false ty))) [mit r it m ks] (Option Value) (nxv m) (fun x=> [mitE r it m ks x]) (nxP m ks):=by
  intro R w ho
  obtain ⟨es,clock,seen,⟨e,hbn,l,hl1,hl2,hl3,hl4⟩,ho'⟩:=mit_open ho
  have hb:=ho'.block (i:=0) rfl
  have hi:=ho'.block (i:=1) rfl
  rcases run_next_at (P:=P) w ty it r clock clock seen es clock hi hb hbn.2 (Nat.le_refl _) with ⟨h0,hr⟩ | ⟨x,hx,w1,hw1,hr⟩
  · refine ⟨none, w, ?_, .inl (by rw [Sem.run_bind, hr]; rfl), ?_, Ext.refl w⟩
    · have hnd:=nodup_of_map hbn.1
      have hnl:=nodup_of_map hl2
      have hsub: ∀x∈es.toList,x∈l:=by
        intro x hx
        have hc:seen.contains x.born=true:=by
          by_cases hc:seen.contains x.born=true
          · exact hc
          · have:x∈leftOf es seen:=by
              unfold leftOf
              rw [Array.mem_filter]
              exact ⟨by simpa using hx,by simp at hc;simp [hc]⟩
            have:0<(leftOf es seen).size:=Array.size_pos_of_mem this
            omega
        have hb2:x.born∈seen.toList:=by simpa using hc
        rw [hl3] at hb2
        obtain ⟨y,hy,hyb⟩:=List.mem_map.1 hb2
        rw [born_key hbn.1 hx (hl1 y hy) hyb.symm];exact hy
      have hp:l.Perm es.toList:=(List.perm_ext_iff_of_nodup hnl hnd).2 fun a=>⟨hl1 a,hsub a⟩
      show ks.Perm (m.map (·.1))
      rw [hl4,←e]
      unfold kvs
      rw [List.map_map]
      exact hp.map _
    · have h1:Own (ofList ([.blk r (.map es clock)]++ [.blk it (.mapIter (some r) clock seen clock)])) R w:=ho'
      exact mo_shut (l:= []) e hbn (Imp.drop [_] [_] R w h1)
  · have hxe:x∈es.toList/\x.born∉seen.toList:=by
      unfold leftOf at hx
      have:x∈Array.filter (fun e=> !seen.contains e.born) es:=by simpa using hx
      rw [Array.mem_filter] at this
      refine ⟨by simpa using this.1,?_⟩
      have h2:=this.2
      simp at h2
      simpa using h2
    have hnb:x.born∉l.map (·.born):=by rw [←hl3];exact hxe.2
    have hkn:x.key∉ks:=by
      rw [hl4]
      intro hk
      obtain ⟨y,hy,hyk⟩:=List.mem_map.1 hk
      have h1:=mget_entry e hm hxe.1
      have h2:(y.key,y.val)∈m:=by rw [←e];exact List.mem_map.2 ⟨y,hl1 y hy,rfl⟩
      have h3:(x.key,x.val)∈m:=by rw [←e];exact List.mem_map.2 ⟨x,hxe.1,rfl⟩
      have hmm:(es.toList.map (·.key)).Nodup:=by
        have:=hm
        unfold MOK at this
        rw [←e] at this
        unfold kvs at this
        rw [List.map_map] at this
        exact this
      have:y=x:=inj_of_nodup hmm (hl1 y hy) hxe.1 hyk
      subst this
      exact hnb (List.mem_map.2 ⟨y,hy,rfl⟩)
    have hkm:x.key∈m.map (·.1):=by
      rw [←e];exact List.mem_map.2 ⟨(x.key,x.val),List.mem_map.2 ⟨x,hxe.1,rfl⟩,rfl⟩
    have hv:(mget m x.key).getD undef=x.val:=by rw [mget_entry e hm hxe.1];rfl
    have o1:Own (ofList [.blk r (.map es clock), .blk it (.mapIter (some r) clock seen clock)]) R w1:=by
      rcases hw1 with rfl | rfl
      · exact ho'
      · exact ho'
    have hi1:w1.heap[it]? =some (.mapIter (some r) clock seen clock):=by rcases hw1 with rfl | rfl<;>exact hi
    have hlt:it<w1.heap.size:=(Array.getElem?_eq_some_iff.1 hi1).1
    have o2:=o1.set (i:=1) (b:=it) (w' :=Go.ChangeMaps.setBlock w1 it (.mapIter (some r) clock (seen.push x.born) clock)) (o' := .mapIter (some r) clock (seen.push x.born) clock) rfl
      (by simp [Go.ChangeMaps.setBlock,hlt]) (fun c hc=>by simp [Go.ChangeMaps.setBlock,Ne.symm hc])
    refine ⟨some x.key,_,⟨hkn,hkm⟩, .inl (by rw [Sem.run_bind,hr];show Result.ok (Next.value (.tuple #[.bool true,x.key,x.val])) _=Result.ok (Next.value (.tuple #[.bool true,x.key,(mget m x.key).getD undef])) _;rw [hv]),?_,?_⟩
    · refine mit_shut (es:=es) (clock:=clock) (seen:=seen.push x.born) ⟨e,hbn,l++ [x],?_,?_,?_,?_⟩ [] _ _ ?_
      · intro y hy
        rcases List.mem_append.1 hy with hy | hy
        · exact hl1 y hy
        · simp at hy;subst hy;exact hxe.1
      · rw [List.map_append,List.nodup_append]
        exact ⟨hl2,by simp,fun a ha b hb=>by simp at hb;subst hb;exact fun h=>hnb (h▸ha)⟩
      · simp [hl3]
      · rw [hl4];simp
      · refine (congrArg (fun H=>Own H R _) ?_).mp o2
        funext j
        cases j with
        | zero=>rfl
        | succ j=>cases j<;>rfl
    · have e1:Ext w w1:=by
        rcases hw1 with rfl | rfl
        · exact Ext.refl _
        · exact ⟨rfl,rfl,rfl,Nat.le_refl _,Nat.le_succ _⟩
      exact e1.trans ⟨rfl,rfl,rfl,by simp [Go.ChangeMaps.setBlock],Nat.le_refl _⟩
theorem xentry {P : Program} {r it : Nat} {m : KV} {ks : List Value} (hm : MOK m) {x : Option Value} (hx : x.isSome = true) :
    OpT P (do pure (.value (←Instr.entry (.pointer (some ⟨it,0,none⟩))))) [mitE r it m ks x] Unit (fun _=> .tuple #[x.getD undef,(mget m (x.getD undef)).getD undef]) (fun _=> [mitE r it m ks x]) (fun _=>True):=by
  cases x with
  | none=>cases hx
  | some k =>
    intro R w ho
    have ho0:Own (ofList [mit r it m (ks++ [k])]) R w:=ho
    obtain ⟨es,clock,seen,⟨e,hbn,l,hl1,hl2,hl3,hl4⟩,ho'⟩:=mit_open ho0
    have hb:=ho'.block (i:=0) rfl
    have hi:=ho'.block (i:=1) rfl
    obtain ⟨l',x,rfl,hx1,hx2⟩: ∃l' x,l=l' ++ [x]/\ks=l'.map (·.key)/\x.key=k:=by
      rcases List.eq_nil_or_concat l with rfl | ⟨l',x,rfl⟩
      · simp at hl4
      · refine ⟨l',x,by simp,?_⟩
        simp only [List.concat_eq_append,List.map_append,List.map_cons,List.map_nil] at hl4
        have:=List.append_inj hl4.symm (by have:=congrArg List.length hl4;simp at this ⊢;omega)
        exact ⟨this.1.symm,by simpa using this.2⟩
    have hs:seen=((l'.map (·.born)).toArray).push x.born:=by
      apply Array.toList_inj.1
      rw [hl3];simp
    have hxe:x∈es.toList:=hl1 x (by simp)
    refine ⟨(),w,trivial, .inl ?_,ho,Ext.refl w⟩
    rw [hs] at hi
    have hr:=run_entry_at (P:=P) w it r clock _ es clock x hi hb hxe hbn.1
    rw [Sem.run_bind,hr]
    have hv:(mget m k).getD undef=x.val:=by rw [←hx2,mget_entry e hm hxe];rfl
    simp [Result.andThen,hx2,hv]
theorem xfirst {P:Program} (m:KV) (x:Option Value):PureRun P (do pure (.value (←Instr.extract (nxv m x) 0))) (.bool x.isSome):=by
  intro w
  cases x with
  | none=>show (Sem.run P (do pure (Next.value (←Instr.extract (.tuple #[.bool false]) 0))) w)=_;simp [Instr.extract]
  | some k=>show (Sem.run P (do pure (Next.value (←Instr.extract (.tuple #[.bool true,k,(mget m k).getD undef]) 0))) w)=_;simp [Instr.extract]
theorem mitE_none {r it:Nat} {m:KV} {ks:List Value} {x:Option Value} (h:x.isSome=false):mitE r it m ks x=mo r m:=by
  cases x with
  | none=>rfl
  | some k=>cases h
theorem mitE_some {r it:Nat} {m:KV} {ks:List Value} {x:Option Value} (h:x.isSome=true):mitE r it m ks x=mit r it m (ks++ [x.getD undef]):=by
  cases x with
  | none=>cases h
  | some k=>rfl
theorem nxP_none {m:KV} {ks:List Value} {x:Option Value} (h:nxP m ks x) (hx:x.isSome=false):ks.Perm (m.map (·.1)):=by
  cases x with
  | none=>exact h
  | some k=>cases hx
theorem nxP_some {m:KV} {ks:List Value} {x:Option Value} (h:nxP m ks x) (hx:x.isSome=true):x.getD undef∉ks/\x.getD undef∈m.map (·.1):=by
  cases x with
  | none=>cases hx
  | some k=>exact h
end Go.Sx
namespace Go.Sx
open Go.RowKit
theorem own_put {H:Hp} {R:HP} {w:World} {i b:Nat} {o o' :Obj} (h:Own H R w) (hi:H i= .blk b o):Own (upd H i (.blk b o')) R (w.putObj b o'):=by
  have hb:=h.block hi
  exact h.set hi (World.putObj_heap_same (Array.getElem?_eq_some_iff.1 hb).1) (fun c hc=>World.putObj_heap_other hc)
theorem ext_put (w:World) (b:Nat) (o:Obj):Ext w (w.putObj b o):=⟨rfl,rfl,rfl,by simp [World.putObj],by first | exact Nat.le_refl _ | exact Nat.le_succ _ | simp⟩
theorem own_alloc {H:Hp} {R:HP} {w:World} (h:Own H R w) (i:Nat) (o:Obj):Own (upd H i (.blk w.heap.size o)) R (w.alloc o):=
  h.new (World.alloc_heap_new w o) (fun c hc=>Below.heap_alloc w o c hc)
theorem ext_alloc (w:World) (o:Obj):Ext w (w.alloc o):=⟨rfl,rfl,rfl,by simp,by first | exact Nat.le_refl _ | exact Nat.le_succ _ | simp⟩
def finM (P : Program) (fn : Func) (acc : List Acc) (outs : List Nat) (iD : Nat) {X : Type} (val : X -> Value) (us : X -> List Slot) (Φ : X -> Prop) (e : Exit) (s : St) (_ : Script) : Prop :=
  match e with
  | .normal | .ret =>
    match s.df with
    | []=>finR P fn acc outs val us Φ s.fr s.H
    | [d] =>
      match d.target with
      | .collected D=>s.H iD= .blk D (.deferred (some []))/\finR P fn acc outs val us Φ s.fr (upd s.H iD (.blk D (.deferred none)))
      | _=>False
    | _=>False
  | _=>False
theorem call_of_mark {P : Program} {f : FuncId} {fn : Func} {c : Code} {n : Nat} {args : Array Value} {Hs : List Slot} {X : Type} {val : X -> Value} {us : X -> List Slot} {Φ : X -> Prop}
    (hP : P.follows .mixedOrders = true) (hf : P.funcs[f]? = some fn) (hb : fn.body = some c) (hn : fn.ntmps = n) (hname : (fn.name == "runtime.NumGoroutine") = false)
    (fuel:Nat) (k:Script) (acc:List Acc) (outs:List Nat) (iD:Nat) (hsz:Nat.ble args.size n=true) (ho:nodB outs=true)
    (h:codeW P n none fuel none c k (init args Hs) (finM P fn acc outs iD val us Φ)):CallT P f args Hs X val us Φ:=by
  refine ⟨enterOK hf hb hname,fun R w hw=> ?_⟩
  subst hn
  have go:CallsIn Fence.wide 0 P f args w fun e w' => ∃x,Φ x/\e= .returned (val x)/\Own (ofList (us x)) R w' /\Ext w w' := ?_
  · exact callsIn_wide.1 go
  refine callsIn_of_wp_marks hf hb trivial ?_
  have hc:=(code_sound hP fuel).1 c k (init args Hs) _ R _ w h (init_rel (Nat.le_of_ble_eq_true hsz)) hw
  refine wpIn_mono hc ?_
  have done: ∀ (a' :Act) (w' :World) (fr:Nat->Value) (H:Hp) (df:List Deferred),Rel fn.ntmps ⟨fr,H,df⟩ a' ->Own H R w' ->Ext w w' ->finR P fn acc outs val us Φ fr H->
      ∃v,(results fn a'.tmps).run P w' = .ok v w' /\ ∃x,Φ x/\Ending.returned v= .returned (val x)/\Own (ofList (us x)) R w' /\Ext w w' :=by
    intro a' w' fr H df hr ho' he hs
    obtain ⟨v,hrun,x,hx,rfl,hout⟩:=symR_sound _ acc H _ R w' hs ho'
    obtain ⟨_,hk⟩:=outW_use hout
    exact ⟨val x,by rw [resF_eq hr];exact hrun,x,hx,rfl,(own_sub (nodB_iff.1 ho) ho').weaken fun k=>(hk k).symm,he⟩
  have fin: ∀ (a' :Act) (w' :World) (s' :St) (k' :Script),Rel fn.ntmps s' a' ->Own s'.H R w' ->Ext w w' ->finM P fn acc outs iD val us Φ .ret s' k' ->
      LeavesInM Fence.wide 0 P fn a'.tmps (fun e w' => ∃x,Φ x/\e= .returned (val x)/\Own (ofList (us x)) R w' /\Ext w w') a'.defers .returning w' :=by
    intro a' w' s' k' hr ho' he hs
    rw [hr.df]
    unfold finM at hs
    cases hdf:s'.df with
    | nil =>
      rw [hdf] at hs
      exact done a' w' s'.fr s'.H s'.df hr ho' he hs
    | cons d l =>
      rw [hdf] at hs
      cases l with
      | cons _ _=>exact hs.elim
      | nil =>
        obtain ⟨tg,dargs⟩:=d
        cases tg with
        | collected D =>
          obtain ⟨hD,hs⟩:=hs
          refine ⟨by simp, .inl ⟨D,_,rfl,run_takeDeferred (ho'.block hD),?_⟩⟩
          exact done a' _ s'.fr (upd s'.H iD (.blk D (.deferred none))) s'.df ⟨hr.size,hr.at_,hr.df⟩ (own_put ho' hD) (he.trans (ext_put _ _ _)) hs
        | _=>exact hs.elim
  rintro e a' w' ⟨s',⟨k',hk⟩,hr,ho',he⟩
  cases e with
  | normal=>exact fin a' w' s' k' hr ho' he hk
  | ret=>exact fin a' w' s' k' hr ho' he hk
  | exit id=>exact hk.elim
  | goto l=>exact hk.elim
  | panic ch=>exact hk.elim
  | outgrown=>exact hk.elim
def rfs:Code->List (Code×Code)
  | .seq a b=>rfs a++rfs b
  | .cond _ a b=>rfs a++rfs b
  | .block _ c=>rfs c
  | .loop c=>rfs c
  | .scope c=>rfs c
  | .rangeFunc _ _ a b=> [(a,b)]
  | _=> []
abbrev recOf (fn:FuncId) (tmps:Array Value) (ps:Array Tmp) (asg b:Code) (D:Nat):Loop:= { state:= .ready,pending:=none,fn,tmps,params:=ps,assign:=asg,body:=b,defers:=D }
abbrev loopB (l:Nat) (r:Loop):Slot:= .blk l (.loop r)
def putFr (fr:Nat->Value):List (Tmp×Value)->Nat->Value
  | []=>fr
  | (t,v)::l=>putFr (upd fr t v) l
theorem foldl_put {n:Nat}: ∀ (l:List (Tmp×Value)) (tmps:Array Value) (fr:Nat->Value),tmps.size=n->(∀i,tmps.getD i undef=fr i)->(∀x∈l,x.1<n)->
    (l.foldl (fun t (p,v)=>t.setIfInBounds p v) tmps).size=n/\ ∀i,(l.foldl (fun t (p,v)=>t.setIfInBounds p v) tmps).getD i undef=putFr fr l i
  | [],tmps,fr,hz,hf,_=>⟨hz,hf⟩
  | (t, v) :: l, tmps, fr, hz, hf, hl => by
    refine foldl_put l (tmps.setIfInBounds t v) (upd fr t v) (by simp [hz]) (fun i=> ?_) (fun x hx=>hl x (List.mem_cons_of_mem _ hx))
    have ht:t<n:=hl (t,v) (List.mem_cons_self ..)
    by_cases e:i=t
    · subst e;rw [upd_same];simp [Array.getD_eq_getD_getElem?,hz,ht]
    · rw [upd_other _ _ e,←hf i];simp [Array.getD_eq_getD_getElem?,Ne.symm e]
def roundW (P : Program) (n : Nat) (l : Nat) (fuel : Nat) (asg b : Code) (k : Script) (r : Loop) (s : St) (outs : List Nat) {X : Type} (us : X -> List Slot) (Φ : X -> Prop) : Prop :=
  codeW P n (some l) fuel none asg k s fun e s1 k1 =>
    match e with
    | .normal=>s1.H 0=loopB l r/\codeW P n (some l) fuel none b k1 ⟨s1.fr,upd s1.H 0 (loopB l { r with state:= .busy }),s1.df⟩ fun e s2 _=>
        match e with
        | .normal=>s2.H 0=loopB l { r with state:= .busy }/\ ∃x,Φ x/\outW outs (us x) s2.H True
        | _=>False
    | _=>False
theorem round_of {P : Program} {n l D fuel : Nat} {fn : FuncId} {tmps : Array Value} {ps : Array Tmp} {asg b : Code} {args : Array Value} {Hs : List Slot} {X : Type} {us : X -> List Slot} {Φ : X -> Prop} {fr : Nat -> Value}
    (hP:P.follows .mixedOrders=true) (hz:tmps.size=n) (hf: ∀i,tmps.getD i undef=fr i) (hps:ps.size=args.size) (hpn:ps.toList.all (fun t=>Nat.blt t n)=true) (k:Script) (outs:List Nat) (ho:nodB (0::outs)=true)
    (h:roundW P n l fuel asg b k (recOf fn tmps ps asg b D) ⟨putFr fr (ps.toList.zip args.toList),ofList (loopB l (recOf fn tmps ps asg b D)::Hs),[]⟩ outs us Φ):
    RoundT P l args (loopB l (recOf fn tmps ps asg b D)::Hs) X (fun _=> .bool true) (fun x=>loopB l (recOf fn tmps ps asg b D)::us x) Φ:=by
  intro R w hw
  have hl:w.heap[l]? =some (.loop (recOf fn tmps ps asg b D)):=hw.block (i:=0) rfl
  refine ⟨fn,_,asg,b,run_yield hl hps.symm,roundIn_of_wpIn (F:=Fence.wide) (n:=0) trivial ?_⟩
  have hfold:((recOf fn tmps ps asg b D).params.zip args).foldl (fun t (p,v)=>t.setIfInBounds p v) tmps=(ps.toList.zip args.toList).foldl (fun t (p,v)=>t.setIfInBounds p v) tmps:=by
    rw [←Array.foldl_toList,Array.toList_zip]
  obtain ⟨h1,h2⟩:=foldl_put (ps.toList.zip args.toList) tmps fr hz hf (fun x hx=>by
    have:=List.all_eq_true.1 hpn x.1 (List.of_mem_zip hx).1
    simpa [Nat.blt_eq] using this)
  have hc:=(code_sound hP fuel (r:=some l)).1 asg k _ _ R { tmps:=_,defers:= [] } w h ⟨h1,h2,rfl⟩ hw
  rw [hfold]
  refine wpIn_mono hc ?_
  rintro e a1 w1 ⟨s1,⟨k1,hk⟩,hr1,ho1,he1⟩
  cases e with
  | normal =>
    obtain ⟨hl1,hk⟩:=hk
    have hb1:=ho1.block hl1
    refine ⟨_,run_beginRound hb1 rfl,?_⟩
    have hc2:=(code_sound hP fuel (r:=some l)).1 b k1 _ _ R a1 _ hk ⟨hr1.size,hr1.at_,hr1.df⟩ (own_put ho1 hl1)
    refine wpIn_mono hc2 ?_
    rintro e a2 w2 ⟨s2,⟨k2,hk2⟩,hr2,ho2,he2⟩
    cases e with
    | normal =>
      obtain ⟨hl2,x,hx,hout⟩:=hk2
      have hb2:=ho2.block hl2
      refine ⟨_,_,run_endRound none hb2,x,hx,rfl,?_,((he1.trans (ext_put _ _ _)).trans he2).trans (ext_put _ _ _)⟩
      have ho3:=own_put (o' := .loop (recOf fn tmps ps asg b D)) ho2 hl2
      have hq : outW (0 :: outs) (loopB l (recOf fn tmps ps asg b D) :: us x) (upd s2.H 0 (loopB l (recOf fn tmps ps asg b D))) True := by
        refine ⟨rfl,?_⟩
        have h0:0∉outs:=by
          have:=(nodB_iff.1 ho)
          exact (List.nodup_cons.1 this).1
        clear ho
        have step: ∀ (outs:List Nat) (ss:List Slot),0∉outs->outW outs ss s2.H True->outW outs ss (upd s2.H 0 (loopB l (recOf fn tmps ps asg b D))) True:=by
          intro outs ss
          induction ss generalizing outs with
          | nil=>intro _ _;unfold outW;trivial
          | cons s ss ih =>
            intro h0 h
            cases outs with
            | nil=>exact h.elim
            | cons i outs =>
              obtain ⟨ha,hb⟩:=h
              exact ⟨(upd_other _ _ (fun e=>h0 (by subst e;exact List.mem_cons_self ..))).trans ha,ih outs (fun hm=>h0 (List.mem_cons_of_mem _ hm)) hb⟩
        exact step outs _ h0 hout
      obtain ⟨_,hk⟩:=outW_use hq
      exact (own_sub (nodB_iff.1 ho) ho3).weaken fun k=>(hk k).symm
    | _=>exact hk2.elim
  | _=>exact hk.elim
theorem range_of {P : Program} {n : Nat} {g : Operand} {ps : Array Tmp} {asg b : Code} {fr : Nat -> Value} {Hs : List Slot} {X : Type} {val : X -> Value} {us : X -> List Slot} {Φ : X -> Prop} {gf : FuncId} {cap : Array Value}
    (hg:evalF fr g= .func (.func gf) #[] cap)
    (h: ∀ (l D:Nat) (fn:FuncId) (tmps:Array Value),tmps.size=n->(∀i,tmps.getD i undef=fr i)->
      CallT P gf (#[.func (.yield l) #[] #[]]++cap) (loopB l (recOf fn tmps ps asg b D)::Hs) X val (fun x=>loopB l (recOf fn tmps ps asg b D)::us x) Φ):
    RangeT P n g ps asg b fr Hs X us Φ:=by
  intro R w act hz hf hw
  refine wpIn_rangeFunc ?_
  intro fn _
  have hc:=(h (w.heap.size+1) w.heap.size fn act.tmps hz hf).frame [.blk w.heap.size (.deferred (some []))]
  have hev:act.eval g= .func (.func gf) #[] cap:=by
    rw [←hg]
    cases g with
    | tmp t=>exact hf t
    | _=>rfl
  obtain ⟨W1,hW1⟩: ∃W1,W1=(w.alloc (.deferred (some []))).alloc (.loop (recOf fn act.tmps ps asg b w.heap.size)):=⟨_,rfl⟩
  refine ⟨w.heap.size+1,[markOf w.heap.size],W1,{ target:= .fn (.func gf) cap,args:= #[.func (.yield (w.heap.size+1)) #[] #[]] },W1,gf,#[.func (.yield (w.heap.size+1)) #[] #[]]++cap,W1,by rw [hW1];exact run_enterLoop_outer _ _ _ _ _,?_,fun _ _=>trivial,?_,fun h=>by simp [FrR] at h,?_⟩
  · simp only [resolve,hev]
    simp [go_sem]
  · simp only [invoke]
    exact hc.enter _ _
  · subst hW1
    have o1:Own (ofList Hs) R w:=hw
    have o2 : Own (ofList (.blk w.heap.size (.deferred (some [])) :: Hs)) R (w.alloc (.deferred (some []))) := by
      have := own_alloc (H := fun i => match i with | 0 => .free | i + 1 => ofList Hs i) (R := R) (w := w) (by
        obtain ⟨p,q,hs,hq,hp,hqw,hd,hdq⟩:=o1
        refine ⟨fun i=>match i with | 0=>fun _=>none | i+1=>p i,q,fun i=> ?_,hq,fun i=> ?_,hqw,fun i j hij=> ?_,fun i=> ?_⟩
        · cases i with
          | zero=>exact fun _=>rfl
          | succ i=>exact hs i
        · cases i with
          | zero=>intro b o h;cases h
          | succ i=>exact hp i
        · cases i with
          | zero=>exact fun _=> .inl rfl
          | succ i =>
            cases j with
            | zero=>exact fun _=> .inr rfl
            | succ j=>exact hd i j (fun e=>hij (by rw [e]))
        · cases i with
          | zero=>exact fun _=> .inl rfl
          | succ i=>exact hdq i) 0 (.deferred (some []))
      refine this.weaken fun k=> ?_
      cases k with
      | zero=>exact .inl rfl
      | succ k=>exact .inl rfl
    have o3 : Own (ofList (.blk (w.heap.size + 1) (.loop (recOf fn act.tmps ps asg b w.heap.size)) :: .blk w.heap.size (.deferred (some [])) :: Hs)) R ((w.alloc (.deferred (some []))).alloc (.loop (recOf fn act.tmps ps asg b w.heap.size))) := by
      have o2' :Own (ofList (.free:: .blk w.heap.size (.deferred (some []))::Hs)) R (w.alloc (.deferred (some []))):=by
        obtain ⟨p,q,hs,hq,hp,hqw,hd,hdq⟩:=o2
        refine ⟨fun i=>match i with | 0=>fun _=>none | i+1=>p i,q,fun i=> ?_,hq,fun i=> ?_,hqw,fun i j hij=> ?_,fun i=> ?_⟩
        · cases i with
          | zero=>exact fun _=>rfl
          | succ i=>exact hs i
        · cases i with
          | zero=>intro b o h;cases h
          | succ i=>exact hp i
        · cases i with
          | zero=>exact fun _=> .inl rfl
          | succ i =>
            cases j with
            | zero=>exact fun _=> .inr rfl
            | succ j=>exact hd i j (fun e=>hij (by rw [e]))
        · cases i with
          | zero=>exact fun _=> .inl rfl
          | succ i=>exact hdq i
      have:=own_alloc o2' 0 (.loop (recOf fn act.tmps ps asg b w.heap.size))
      rw [World.size_alloc] at this
      refine this.weaken fun k=> ?_
      cases k with
      | zero=>exact .inl rfl
      | succ k=>exact .inl rfl
    have o4:=Imp.swap (.blk (w.heap.size+1) (.loop (recOf fn act.tmps ps asg b w.heap.size)):: []) (.blk w.heap.size (.deferred (some []))::Hs) R _ o3
    have o5:=Imp.swap [.blk w.heap.size (.deferred (some []))] (Hs++ [.blk (w.heap.size+1) (.loop (recOf fn act.tmps ps asg b w.heap.size))]) R _ o4
    have o6:Own (ofList ((loopB (w.heap.size+1) (recOf fn act.tmps ps asg b w.heap.size)::Hs)++ [.blk w.heap.size (.deferred (some []))])) R ((w.alloc (.deferred (some []))).alloc (.loop (recOf fn act.tmps ps asg b w.heap.size))):=by
      refine (Imp.same fun p hp=> ?_) R _ o5
      obtain ⟨p1,p2,ha,hb,d,rfl⟩:=(sep_append _ _).1 hp
      exact (sep_append _ _).2 ⟨p1,p2,sep_swap ha,hb,d,rfl⟩
    have hcalls:CallsIn (FrR none) 0 P gf (#[.func (.yield (w.heap.size+1)) #[] #[]]++cap) ((w.alloc (.deferred (some []))).alloc (.loop (recOf fn act.tmps ps asg b w.heap.size))) _:=callsIn_of_calls (hc.calls R _ o6)
    refine hcalls.mono ?_
    rintro e w3 ⟨x,hx,rfl,ho3,he3⟩
    have hb3:=ho3.block (i:=0) rfl
    refine ⟨none,_,run_endLoop hb3 (by simp),rfl,rfl,w.heap.size,x,rfl,hx,?_,(((ext_alloc _ _).trans (ext_alloc _ _)).trans he3).trans (ext_put _ _ _)⟩
    have o7:=own_put (o' := .loop { recOf fn act.tmps ps asg b w.heap.size with state:= .exhausted }) ho3 (i:=0) rfl
    have o8:Own (ofList (us x++ [.blk w.heap.size (.deferred (some []))])) R (w3.putObj (w.heap.size+1) (.loop { recOf fn act.tmps ps asg b w.heap.size with state:= .exhausted })):=by
      have o9:Own (ofList (.blk (w.heap.size+1) (.loop { recOf fn act.tmps ps asg b w.heap.size with state:= .exhausted })::(us x++ [.blk w.heap.size (.deferred (some []))]))) R (w3.putObj (w.heap.size+1) (.loop { recOf fn act.tmps ps asg b w.heap.size with state:= .exhausted })):=o7.weaken fun k=>by
        cases k with
        | zero=>exact .inl rfl
        | succ k=>exact .inl rfl
      exact Imp.drop _ [_] R _ (Imp.swap [_] _ R _ o9)
    exact Imp.swap (us x) [.blk w.heap.size (.deferred (some []))] R _ o8
end Go.Sx
namespace Go.Sx
open Go.RowKit
theorem upd_known {f:Nat->Value} {t:Nat} {v:Value} (h:f t=v):f=upd f t v:=by
  funext i
  by_cases e:i=t
  · subst e;rw [upd_same];exact h
  · rw [upd_other _ _ e]
theorem CallT.imp {P:Program} {f:FuncId} {args:Array Value} {Hs Ks:List Slot} {X Y:Type} {val:X->Value} {us:X->List Slot} {Φ:X->Prop} {val' :Y->Value} {us' :Y->List Slot} {Ψ:Y->Prop} (h:CallT P f args Hs X val us Φ) (hp:Imp Ks Hs)
    (hq: ∀x R w,Φ x->Own (ofList (us x)) R w-> ∃y,Ψ y/\val x=val' y/\Own (ofList (us' y)) R w):CallT P f args Ks Y val' us' Ψ:=
  ⟨h.enter,fun R w hw=>(h.calls R w (hp R w hw)).mono fun _ w' ⟨x,hx,he,ho,hext⟩=>let ⟨y,hy,hv,ho'⟩:=hq x R w' hx ho;⟨y,hy,hv▸he,ho',hext⟩⟩
end Go.Sx
namespace Go.Sx
open Go.RowKit
structure Sl (w:World) (n:Nat) (v:Value) (es:List (List Value)):Prop where
  len:vlen v=es.length
  form:v= .slice none 0 0∨ ∃a len cap,v= .slice (some a) len cap
  get: ∀i e,es[i]? =some e-> ∃a len cap,v= .slice (some a) len cap/\a.spot=none/\e.length=n/\ ∀j c,e[j]? =some c->w.cell? ⟨a.block,a.off+i*n+j,none⟩=some c
def swld (s:Slot):World:=match s with | .par _ (.wld w) _=>w | _=>default
theorem old_inj {w w' :World} (h:old w=old w'):w=w' :=by
  unfold old at h;injection h with _ h _;injection h
theorem heap_of_old {w w' :World} (h:old w=old w'): ∀i:Nat,w.heap[i]? =w'.heap[i]? :=by rw [old_inj h];exact fun _=>rfl
theorem cell_of_heap {w w' :World} (h: ∀i:Nat,w.heap[i]? =w'.heap[i]?) (a:Addr):w.cell? a=w'.cell? a:=by
  simp only [World.cell?,h]
def At (w:World) (p:Value) (cs:List Value):Prop:= ∃a,p= .pointer (some a)/\ ∀j c,cs[j]? =some c->w.cell? ⟨a.block,a.off+j,none⟩=some c
def F_old {X:Type} (val:X->Value) (Ok:X->Prop):List Value->List Slot->Ctr:=fun vs hs=>⟨X,val,fun _=>hs,fun zx=>Ok zx/\ ∃w,sarg hs 0=old w/\At w (varg vs 0) (val zx).cells.toList⟩
def f_oidx (n:Nat):List Value->Value:=fun vs=> .pointer (some ⟨vblk (varg vs 0),voff (varg vs 0)+(ci (varg vs 1)).toNat*n,none⟩)
structure ElT (P:Program) (t e:TypeId) (n:Nat):Prop where
  und:P.underlying t=some (.slice e)
  size: ∀w,(sizeOf e).run P w= .ok n w
theorem xolen {P:Program} {t e:TypeId} {n m:Nat} (h:ElT P t e n) {w:World} {v:Value} {es:List (List Value)} (hs:Sl w m v es) (ty:TypeId):PureRun P (do pure (.value (←Builtin.len_ #[t] ty #[v]))) (.int .i64 ((vlen v:Nat):Int)):=by
  intro w
  rcases hs.form with rfl | ⟨a,len,cap,rfl⟩<;>simp [Builtin.len_,run_underlying h.und,vlen,goInt]
theorem xoidx {P:Program} {t e:TypeId} {n:Nat} (h:ElT P t e n) {w:World} {v:Value} {es:List (List Value)} (hs:Sl w n v es) (k:IntKind) (i:Int) (h0:0<=i) (h1:i<(es.length:Nat)):
    PureRun P (do pure (.value (←Instr.indexAt t v (.int k i)))) (.pointer (some ⟨vblk v,voff v+i.toNat*n,none⟩)):=by
  intro w
  have hx: ∃x,es[i.toNat]? =some x:=⟨es[i.toNat]'(by omega),List.getElem?_eq_getElem (by omega)⟩
  obtain ⟨x,hx⟩:=hx
  obtain ⟨a,len,cap,rfl,hsp,_⟩:=hs.get _ _ hx
  have hl:=hs.len
  simp only [vlen] at hl
  have hc:0<=i/\i<(len:Int):=⟨h0,by omega⟩
  obtain ⟨b,off,sp⟩:=a
  simp only at hsp;subst hsp
  simp [Instr.indexAt,run_underlying h.und,asIntOf,hc,h.size w,vblk,voff,Addr.add]
structure ElK (P:Program) (t:TypeId) (n:Nat) {X:Type} (val:X->Value) (Ok:X->Prop):Prop where
  agg:((∀w,(isAgg t).run P w= .ok true w)/\ ∀x,∃cs,val x= .agg cs)∨((∀w,(isAgg t).run P w= .ok false w)/\ ∀x,(val x).cells= #[val x])
  size: ∀w,(sizeOf t).run P w= .ok n w
  len: ∀x,(val x).cells.toList.length=n
  inj: ∀x y,Ok x->Ok y->(val x).cells.toList=(val y).cells.toList->x=y
structure SlX {X:Type} (w:World) (n:Nat) (val:X->Value) (Ok:X->Prop) (v:Value) (xs:List X):Prop where
  sl:Sl w n v (xs.map fun x=>(val x).cells.toList)
  ok: ∀x∈xs,Ok x
theorem SlX.at {X:Type} {w:World} {n:Nat} {val:X->Value} {Ok:X->Prop} {v:Value} {xs:List X} (h:SlX w n val Ok v xs) {i:Nat} {x:X} (hx:xs[i]? =some x):
    Ok x/\ ∃a len cap,v= .slice (some a) len cap/\a.spot=none/\ ∀j c,(val x).cells.toList[j]? =some c->w.cell? ⟨a.block,a.off+i*n+j,none⟩=some c:=by
  refine ⟨h.ok x (List.mem_of_getElem? hx),?_⟩
  obtain ⟨a,len,cap,hv,hsp,_,hc⟩:=h.sl.get i ((val x).cells.toList) (by rw [List.getElem?_map,hx];rfl)
  exact ⟨a,len,cap,hv,hsp,hc⟩
theorem SlX.vlen {X:Type} {w:World} {n:Nat} {val:X->Value} {Ok:X->Prop} {v:Value} {xs:List X} (h:SlX w n val Ok v xs):vlen v=xs.length:=by rw [h.sl.len,List.length_map]
theorem own_cell {w0 w:World} {R:HP} (h:Own (ofList [old w0]) R w) {a:Addr} {c:Value} (hc:w0.cell? a=some c):w.cell? a=some c:=by
  obtain ⟨p,q,hs,_,hp,_⟩:=h
  have h0:=hs 0
  simp only [ofList,old,List.getD_cons_zero,Slot.sat] at h0
  unfold World.cell? at hc ⊢
  cases ho:w0.heap[a.block]? with
  | none=>rw [ho] at hc;cases hc
  | some o=>rw [ho] at hc;rw [hp 0 a.block o (by rw [h0,ho])];exact hc
theorem xold {P:Program} {t:TypeId} {n:Nat} {X:Type} {val:X->Value} {Ok:X->Prop} (K:ElK P t n val Ok) {w0:World} {v:Value} {xs:List X} (h:SlX w0 n val Ok v xs) (i:Nat) {x:X} (hx:xs[i]? =some x):
    OpT P (do pure (.value (←Instr.loadAt t (.pointer (some ⟨vblk v,voff v+i*n,none⟩))))) [old w0] X val (fun _=> [old w0])
      (fun zx=>Ok zx/\ ∃w,old w0=old w/\At w (.pointer (some ⟨vblk v,voff v+i*n,none⟩)) (val zx).cells.toList):=by
  intro R w ho
  obtain ⟨hok,a,len,cap,rfl,hsp,hc⟩:=h.at hx
  refine ⟨x,w,⟨hok,w0,rfl,⟨_,rfl,fun j c hj=>hc j c hj⟩⟩, .inl ?_,ho,Ext.refl w⟩
  have hcell: ∀j c,(val x).cells.toList[j]? =some c->w.cell? ((⟨a.block,a.off+i*n,none⟩:Addr).add j)=some c:=fun j c hj=>by
    have:=own_cell ho (hc j c hj)
    rcases Nat.eq_zero_or_pos j with rfl | hj0
    · simpa [Addr.add] using this
    · simpa [Addr.add,Nat.ne_of_gt hj0] using this
  simp only [vblk,voff]
  rcases K.agg with ⟨ha,hv⟩ | ⟨ha,hv⟩
  · obtain ⟨cs,hcs⟩:=hv x
    have hr:=run_loadCells_list (P:=P) w ⟨a.block,a.off+i*n,none⟩ (val x).cells.toList hcell
    rw [K.len x] at hr
    simp [Instr.loadAt,Instr.sureAddr,loadVar,Sem.run_bind,ha,K.size w,hr,hcs,Value.cells]
  · have h0:w.cell? ⟨a.block,a.off+i*n,none⟩=some (val x):=by
      have:=hcell 0 (val x) (by rw [hv x];rfl)
      simpa [Addr.add] using this
    simp [Instr.loadAt,Instr.sureAddr,loadVar,Sem.run_bind,ha,h0]
theorem wold {X:Type} {val:X->Value} {Ok:X->Prop} {n:Nat} {w0:World} {v:Value} {xs:List X} (h:SlX w0 n val Ok v xs) (i:Nat) {x:X} (hx:xs[i]? =some x):
    ∃zx,(fun zx=>Ok zx/\ ∃w,old w0=old w/\At w (.pointer (some ⟨vblk v,voff v+i*n,none⟩)) (val zx).cells.toList) zx:=by
  obtain ⟨hok,a,len,cap,rfl,hsp,hc⟩:=h.at hx
  exact ⟨x,hok,w0,rfl,⟨_,rfl,fun j c hj=>hc j c hj⟩⟩
theorem eold {P:Program} {t:TypeId} {X:Type} {val:X->Value} {Ok:X->Prop} {n:Nat} (K:ElK P t n val Ok) {w0:World} {v:Value} {xs:List X} (h:SlX w0 n val Ok v xs) (i:Nat) {x:X} (hx:xs[i]? =some x) {zx:X}
    (hz:Ok zx/\ ∃w,old w0=old w/\At w (.pointer (some ⟨vblk v,voff v+i*n,none⟩)) (val zx).cells.toList):zx=x:=by
  obtain ⟨hok,a,len,cap,rfl,hsp,hc⟩:=h.at hx
  obtain ⟨hok',w,hw,⟨a',ha',hc'⟩⟩:=hz
  refine K.inj _ _ hok' hok ?_
  have hp:=heap_of_old hw
  simp only [vblk,voff,Value.pointer.injEq,Option.some.injEq] at ha'
  subst ha'
  have e1:=K.len zx
  have e2:=K.len x
  apply List.ext_getElem?
  intro j
  rcases Nat.lt_or_ge j n with hj | hj
  · have k1:=hc' j _ (List.getElem?_eq_getElem (by omega))
    have k2:=hc j _ (List.getElem?_eq_getElem (by omega))
    rw [←cell_of_heap hp] at k1
    simp only at k1
    rw [k2] at k1
    rw [List.getElem?_eq_getElem (by omega),List.getElem?_eq_getElem (by omega)]
    exact k1.symm
  · rw [List.getElem?_eq_none (by omega),List.getElem?_eq_none (by omega)]
def gx {X:Type} [Inhabited X] (xs:List X) (i:Nat):X:=xs.getD i default
theorem gx_some {X:Type} [Inhabited X] {xs:List X} {i:Nat} (h:i<xs.length):xs[i]? =some (gx xs i):=by
  unfold gx;rw [List.getD_eq_getElem?_getD,List.getElem?_eq_getElem h];rfl
end Go.Sx
namespace Go.Sx
open Go.RowKit
def srcv (x:Value) (s:Slot):List Value:=((scells s).toList.drop (voff x)).take (vlen x)
def F_appN (e:TypeId):List Value->List Slot->Ctr:=fun vs hs=>⟨Row,fun y=>sv y,fun y=> [ss e y,sarg hs 1],fun y=>vals y=rvals (varg vs 0) (sarg hs 0)++srcv (varg vs 1) (sarg hs 1)⟩
theorem upd_two (s t u:Slot):upd (ofList [t,u]) 0 s=ofList [s,u]:=by
  funext i
  cases i with
  | zero=>rfl
  | succ i=>cases i<;>rfl
theorem zl_of {z:Value} (hz:z.cells= #[z]) (n:Nat): ∃ex:List Value,Builtin.zeroCells z.cells n=ex.toArray/\ex.length=n:=by
  refine ⟨(Builtin.zeroCells z.cells n).toList,by simp,?_⟩
  rw [Array.length_toList,size_zeroCells,hz];simp
theorem own_setCells {e:TypeId} {b:Nat} {R:HP}: ∀ (news:List Value) (pre olds post:List Value) (H:Hp) (w:World) (i:Nat),Own H R w->H i= .blk b (.cells (pre++olds++post).toArray e (0,0))->olds.length=news.length->
    Own (upd H i (.blk b (.cells (pre++news++post).toArray e (0,0)))) R (w.setCells b pre.length news)/\Ext w (w.setCells b pre.length news)
  | [], pre, olds, post, H, w, i, ho, hi, hl => by
    have h0:olds= []:=List.length_eq_zero_iff.1 hl
    subst h0
    refine ⟨?_,Ext.refl w⟩
    rw [←hi]
    have:upd H i (H i)=H:=by funext j;unfold upd;cases h:Nat.beq j i<;>simp;rw [Nat.beq_eq] at h;rw [h]
    rw [this];exact ho
  | v::r,pre,[],post,H,w,i,ho,hi,hl=>by simp at hl
  | v :: r, pre, o :: olds, post, H, w, i, ho, hi, hl => by
    have hb:=ho.block hi
    have hh:=heap_setCell_same w b pre.length _ e v hb
    have hset:((pre++o::olds++post).toArray.setIfInBounds pre.length v)=((pre++ [v])++olds++post).toArray:=by simp
    rw [hset] at hh
    have h1:=ho.set (i:=i) (b:=b) hi hh (fun c hc=>heap_setCell_other w _ c v hc)
    have h2:=own_setCells r (pre++ [v]) olds post (upd H i (.blk b (.cells ((pre++ [v])++olds++post).toArray e (0,0)))) (w.setCell ⟨b,pre.length,none⟩ v) i h1 (by unfold upd;rw [Nat.beq_refl];rfl) (by simpa using hl)
    have e1:(pre++ [v]).length=pre.length+1:=by simp
    have e2: ∀s,upd (upd H i (.blk b (.cells ((pre++ [v])++olds++post).toArray e (0,0)))) i s=upd H i s:=by
      intro s;funext j;unfold upd;cases Nat.beq j i<;>rfl
    rw [e1,e2,List.append_assoc pre [v] r] at h2
    have h3:Ext w (w.setCell ⟨b,pre.length,none⟩ v):=⟨rfl,rfl,rfl,by simp,by first | exact Nat.le_refl _ | exact Nat.le_succ _ | simp⟩
    have h4:w.setCells b pre.length (v::r)=(w.setCell ⟨b,pre.length,none⟩ v).setCells b (pre.length+1) r:=by rw [World.setCells]
    rw [h4]
    exact ⟨h2.1,h3.trans h2.2⟩
theorem xappN {P : Program} {fz : Nat × Nat} {t e : TypeId} {z : Value} (h : SlT P t e z) (ty : TypeId) (r : Row) (hl : (vals r).length <= 1073741824) {c o m cap : Nat} {cs : Array Value} {te : TypeId} {news : List Value} (hm : news.length = m) (hm1 : m <= 1073741824)
    (hc: ∀j u,news[j]? =some u->cs[o+j]? =some u) (h2: ∀u∈news,u.oneCell' =true):
    OpT P (do pure (.value (←Builtin.append_ #[t,t] ty #[sv r, .slice (some ⟨c,o,none⟩) m cap]))) [ss e r, .blk c (.cells cs te fz)] Row sv (fun y=> [ss e y, .blk c (.cells cs te fz)]) (fun y=>vals y=vals r++news):=by
  intro R w h0
  obtain ⟨i,hi,hz,hs,hby⟩:=h.info
  have hcb:=h0.block (i:=1) rfl
  have hnews: ∀j u,news[j]? =some u->w.cell? ((⟨c,o,none⟩:Addr).add j)=some u:=by
    intro j u hu
    have:(⟨c,o,none⟩:Addr).add j=⟨c,o+j,none⟩:=Addr.add_lit ..
    rw [this,cell_of_block hcb rfl]
    exact hc j u hu
  rcases Nat.eq_zero_or_pos m with hm0 | hm0
  · subst hm0
    have hn:news= []:=List.length_eq_zero_iff.1 hm
    subst hn
    refine ⟨r,w,by simp, .inl ?_,h0,Ext.refl w⟩
    have hlc:(loadCells ⟨c,o,none⟩ 0).run P w= .ok #[] w:=by simpa using run_loadCells_list (P:=P) w ⟨c,o,none⟩ [] (by simp)
    cases r with
    | nil=>simp [sv,Builtin.append_,run_underlying h.und,sizeOf,typeInfo,hi,Builtin.lenOf,Builtin.firstCells,hs,hlc,Result.andThen]
    | mk b vs ex =>
      have hr0:=run_firstCells_some (P:=P) w 1 0 ⟨c,o,none⟩ 0 cap [] rfl (by simp)
      simp [sv,Builtin.append_,run_underlying h.und,sizeOf,typeInfo,hi,Builtin.lenOf,hs,hr0,storeCells]
  have fresh: ∀ (o' :Obj),Own (ofList [.blk w.heap.size o', .blk c (.cells cs te fz)]) R (w.drew.alloc o'):=by
    intro o'
    have:=h0.new (w' :=w.drew.alloc o') (i:=0) (o:=o') (heap_alloc_new w.drew o') (fun c hc=>heap_alloc_old w.drew o' c hc)
    rw [upd_two] at this
    exact this
  have ext: ∀ (o:Obj),Ext w (w.drew.alloc o):=fun o=>⟨rfl,rfl,rfl,by simp,by first | exact Nat.le_refl _ | exact Nat.le_succ _ | simp⟩
  cases r with
  | nil =>
    have hr:=run_append_nil (P:=P) w t ty e i z h.und hi hz ⟨c,o,none⟩ m cap news (by simp [hs,hm]) hnews hm0 (by omega) (by
      have:m*i.bytes<=1073741824*4096:=Nat.mul_le_mul hm1 hby
      omega)
    obtain ⟨ex,he,hx⟩:=zl_of h.zc (grownCap w m 0 e - m)
    have hge:=grownCap_ge w m 0 e
    rw [he] at hr
    refine ⟨.mk w.heap.size news ex,w.drew.alloc (.cells (news.toArray++ex.toArray) e),by simp [vals], .inl ?_,?_,ext _⟩
    · simp only [sv]
      show (Sem.run P (Builtin.append_ _ _ _>>=_) w)=_
      rw [Sem.run_bind,hr]
      have:news.length+ex.length=grownCap w m 0 e:=by omega
      rw [this,hm];rfl
    · have:=fresh (.cells (news.toArray++ex.toArray) e)
      simpa [ss] using this
  | mk b vs ex =>
    simp only [vals] at hl
    have hb:=h0.block (i:=0) rfl
    by_cases hroom:vs.length+m<=vs.length+ex.length
    · have hcell: ∀j,j<news.length->(w.cell? ⟨b,0+vs.length*i.size+j,none⟩).isSome=true:=by
        intro j hj
        rw [hs]
        have:0+vs.length*1+j<(vs++ex).length:=by simp;omega
        simp [World.cell?,hb,List.getElem?_eq_getElem this]
        omega
      have hr:=run_append_room_cells (P:=P) w t ty e i h.und hi b 0 vs.length (vs.length+ex.length) ⟨c,o,none⟩ m cap news (by simp [hs,hm]) hnews h2 hroom hcell (fun j hj=>frozen_of_row w b _ _ e hb)
      rw [hs,Nat.mul_one,Nat.zero_add] at hr
      obtain ⟨olds,ex',hex,hol⟩: ∃olds ex',ex=olds++ex' /\olds.length=news.length:=⟨ex.take m,ex.drop m,(List.take_append_drop m ex).symm,by simp;omega⟩
      subst hex
      have hset:=own_setCells (e:=e) (b:=b) (R:=R) news vs olds ex' _ w 0 h0 (by simp [ofList,ss]) hol
      refine ⟨.mk b (vs++news) ex',w.setCells b vs.length news,rfl, .inl ?_,?_,hset.2⟩
      · simp only [sv]
        rw [Sem.run_bind,hr]
        have e1:(vs++news).length=vs.length+m:=by simp [hm]
        have e2:(vs++news).length+ex'.length=vs.length+(olds++ex').length:=by simp;omega
        rw [e2,e1];rfl
      · have:=hset.1
        rw [upd_two] at this
        exact this
    · have holds: ∀j u,vs[j]? =some u->w.cell? ((⟨b,0,none⟩:Addr).add j)=some u:=by
        intro j u hu
        have hj:j<vs.length:=by
          rcases Nat.lt_or_ge j vs.length with h | h
          · exact h
          · simp [List.getElem?_eq_none h] at hu
        have:(⟨b,0,none⟩:Addr).add j=⟨b,0+j,none⟩:=Addr.add_lit ..
        rw [this]
        simp [World.cell?,hb,hu,List.getElem?_append_left hj]
      have hfit:Builtin.nextslicecap (vs.length+m) (vs.length+ex.length)*i.bytes<=281474976710656:=by
        refine growslice_fits (by omega) ?_
        have:(vs.length+m)*i.bytes<=2147483648*4096:=Nat.mul_le_mul (by omega) hby
        omega
      have hr:=run_append_grow (P:=P) w t ty e i z h.und hi hz ⟨b,0,none⟩ vs.length (vs.length+ex.length) vs (by simp [hs]) holds ⟨c,o,none⟩ m cap news (by simp [hs,hm]) hnews (by omega) (by omega) hfit
      obtain ⟨ex',he,hx⟩:=zl_of h.zc (grownCap w (vs.length+m) (vs.length+ex.length) e - (vs.length+m))
      have hge:=grownCap_ge w (vs.length+m) (vs.length+ex.length) e
      rw [he] at hr
      refine ⟨.mk w.heap.size (vs++news) ex',w.drew.alloc (.cells (vs.toArray++news.toArray++ex'.toArray) e),rfl, .inl ?_,?_,ext _⟩
      · simp only [sv]
        rw [Sem.run_bind,hr]
        have e1:(vs++news).length=vs.length+m:=by simp [hm]
        have e2:(vs++news).length+ex'.length=grownCap w (vs.length+m) (vs.length+ex.length) e:=by rw [e1];omega
        rw [e2,e1];rfl
      · have:=fresh (.cells (vs.toArray++news.toArray++ex'.toArray) e)
        have e3:vs.toArray++news.toArray++ex'.toArray=(vs++news++ex').toArray:=by simp
        rw [e3] at this ⊢
        exact this
end Go.Sx
namespace Go.Sx
open Go.RowKit
def vnil:Value->Bool
  | .slice none _ _=>true
  | _=>false
def f_nil:List Value->Value:=fun vs=> .bool (vnil (varg vs 0))
theorem xnilq {P:Program} {t e:TypeId} {z:Value} (h:SlT P t e z) (r:Row):PureRun P (xBin .eql t (sv r) (.slice none 0 0)) (.bool (vnil (sv r))):=by
  intro w
  have key: ∀ (a:Option Addr) (n c:Nat),(xBin .eql t (.slice a n c) (.slice none 0 0)).run P w= .ok (.value (.bool a.isNone)) w:=by
    intro a n c
    have h1:=Go.Lib.run_eql_slice_nil (P:=P) w t e a n c 0 0 h.und
    have h3:(eqGuard .eql t (.const (.slice a n c)) (.const (.slice none 0 0)) (.slice a n c) (.slice none 0 0)).run P w= .ok () w:=by
      unfold eqGuard;rfl
    rw [xBin,Sem.run_bind,Sem.run_bind,h3]
    simp only [Result.andThen]
    rw [h1];rfl
  cases r with
  | nil=>exact key none 0 0
  | mk b vs ex=>exact key _ _ _
theorem vnil_row {r:Row} (h:vnil (sv r)=true):r= .nil:=by
  cases r with
  | nil=>rfl
  | mk b vs ex=>cases h
end Go.Sx
namespace Go.Sx
def xor32 (a b:Int):Int:=IntKind.u32.wrap (((BitVec.ofInt 32 a^^^BitVec.ofInt 32 b:BitVec 32).toNat:Nat):Int)
def and32 (a b:Int):Int:=IntKind.u32.wrap (((BitVec.ofInt 32 a &&& BitVec.ofInt 32 b:BitVec 32).toNat:Nat):Int)
def or32 (a b:Int):Int:=IntKind.u32.wrap (((BitVec.ofInt 32 a ||| BitVec.ofInt 32 b:BitVec 32).toNat:Nat):Int)
def not32 (a:Int):Int:=IntKind.u32.wrap (((BitVec.ofInt 32 4294967295^^^BitVec.ofInt 32 a:BitVec 32).toNat:Nat):Int)
def add32 (a b:Int):Int:=IntKind.u32.wrap (a+b)
def shr32 (n:Nat) (a:Int):Int:=Int.fdiv a (2^n)
def rotl (s:Nat) (x:Int):Int:=or32 (IntKind.u32.wrap (x*2^s)) (Int.fdiv x (2^(32 - s)))
def rotr (n:Nat) (x:Int):Int:=rotl (32 - n) x
def tur (a b c:Nat) (x:Int):Int:=xor32 (xor32 (rotr a x) (rotr b x)) (rotr c x)
def sg0 (x:Int):Int:=xor32 (xor32 (rotr 7 x) (rotr 18 x)) (shr32 3 x)
def sg1 (x:Int):Int:=xor32 (xor32 (rotr 17 x) (rotr 19 x)) (shr32 10 x)
def nx0 (l:List Int) (i:Nat):Int:=add32 (l.getD (i - 16) 0) (l.getD (i - 7) 0)
def nx (l:List Int) (i:Nat):Int:=add32 (add32 (nx0 l i) (sg0 (l.getD (i - 15) 0))) (sg1 (l.getD (i - 2) 0))
structure S8 where
  (a b c d e f g h:Int)
def S8.ch (s:S8):Int:=xor32 (and32 s.e s.f) (and32 (not32 s.e) s.g)
def S8.mj (s:S8):Int:=xor32 (xor32 (and32 s.a s.b) (and32 s.a s.c)) (and32 s.b s.c)
def S8.t1 (s:S8) (k w:Int):Int:=add32 (add32 (add32 (add32 s.h (tur 6 11 25 s.e)) s.ch) k) w
def S8.t2 (s:S8):Int:=add32 (tur 2 13 22 s.a) s.mj
def qf (cs:Array Value) (off:Nat):Nat->Int:=fun k=>ci (cs.getD (off+k) undef)
end Go.Sx
namespace Go.Sx
end Go.Sx
namespace Go.Sx
end Go.Sx
namespace Go.Sx
open Go.RowKit
def bv (l:List Int):List Value:=l.map (Value.int .u8)
structure BOK (r:Row):Prop where
  eq:vals r=bv (dg r)
theorem vals_len (r:Row):(vals r).length=(dg r).length:=by simp [dg]
theorem bv_ci (l:List Int):(bv l).map ci=l:=by
  induction l with
  | nil=>rfl
  | cons a l ih =>
    simp only [bv,List.map_cons] at ih ⊢
    rw [ih];rfl
theorem bok_of {r:Row} {l:List Int} (h:vals r=bv l):BOK r/\dg r=l:=by
  have e:dg r=l:=by rw [dg,h,bv_ci]
  exact ⟨⟨by rw [e,h]⟩,e⟩
theorem rdv_nil:rdv (sv Row.nil) .free=dg Row.nil:=rfl
theorem bok_nil:BOK Row.nil:=⟨rfl⟩
theorem bok_mk0 (b:Nat) (ex:List Value):BOK (Row.mk b [] ex):=⟨rfl⟩
theorem bok_lit (b:Nat) (l:List Int) (ex:List Value):BOK (Row.mk b (bv l) ex):=⟨by show bv l=bv ((bv l).map ci);rw [bv_ci]⟩
theorem bok_app {r y:Row} {l:List Int} (hr:BOK r) (h:vals y=vals r++bv l):BOK y/\(dg y).length=(dg r).length+l.length/\dg y=dg r++l:=by
  have e:vals y=bv (dg r++l):=by rw [h,hr.eq,bv,bv,bv,List.map_append]
  obtain ⟨h1,h2⟩:=bok_of e
  exact ⟨h1,by rw [h2,List.length_append],h2⟩
theorem srcv_row (r:Row) (e:TypeId):srcv (sv r) (ss e r)=vals r:=by
  cases r with
  | nil=>rfl
  | mk b vs ex=>simp [srcv,sv,ss,vals,vlen,voff,scells]
theorem oneAll {l:List Value} (h:l.all (·.oneCell')=true): ∀u∈l,u.oneCell' =true:=List.all_eq_true.1 h
theorem bv_one (l:List Int): ∀u∈bv l,u.oneCell' =true:=by
  intro u hu
  obtain ⟨n,_,rfl⟩:=List.mem_map.1 hu
  rfl
theorem xappNR {P:Program} {fz:Nat×Nat} {t e:TypeId} {z:Value} (h:SlT P t e z) (ty:TypeId) (r:Row) (hl:(vals r).length<=1073741824) {c o m cap:Nat} {cs:Array Value} {te:TypeId} (hm:o+m<=cs.size) (hm1:m<=1073741824)
    (h2:(srcv (.slice (some ⟨c,o,none⟩) m cap) (.blk c (.cells cs te fz))).all (·.oneCell')=true):
    OpT P (do pure (.value (←Builtin.append_ #[t,t] ty #[sv r, .slice (some ⟨c,o,none⟩) m cap]))) [ss e r, .blk c (.cells cs te fz)] Row sv (fun y=> [ss e y, .blk c (.cells cs te fz)])
      (fun y=>vals y=rvals (sv r) (ss e r)++srcv (.slice (some ⟨c,o,none⟩) m cap) (.blk c (.cells cs te fz))):=by
  rw [rvals_eq]
  refine xappN h ty r hl ?_ hm1 ?_ (oneAll h2)
  · simp [srcv,vlen,voff,scells];omega
  · intro j u hu
    simp only [srcv,vlen,voff,scells] at hu
    rw [List.getElem?_take] at hu
    split at hu
    · rw [List.getElem?_drop] at hu;simpa using hu
    · cases hu
theorem xappRow {P:Program} {t e:TypeId} {z:Value} (h:SlT P t e z) (ty:TypeId) (r:Row) (hl:(vals r).length<=1073741824) (q:Row) (hq:(vals q).length<=1073741824) (h2: ∀u∈vals q,u.oneCell' =true):
    OpT P (do pure (.value (←Builtin.append_ #[t,t] ty #[sv r,sv q]))) [ss e r,ss e q] Row sv (fun y=> [ss e y,ss e q])
      (fun y=>vals y=rvals (sv r) (ss e r)++srcv (sv q) (ss e q)):=by
  rw [rvals_eq,srcv_row]
  cases q with
  | nil =>
    intro R w ho
    obtain ⟨i,hi,hz,hs,hby⟩:=h.info
    refine ⟨r,w,by simp [vals], .inl ?_,ho,Ext.refl w⟩
    cases r with
    | nil=>simp [sv,Builtin.append_,run_underlying h.und,sizeOf,typeInfo,hi,Builtin.lenOf,Builtin.firstCells]
    | mk b vs ex=>simp [sv,Builtin.append_,run_underlying h.und,sizeOf,typeInfo,hi,Builtin.lenOf,Builtin.firstCells,storeCells]
  | mk b vs ex =>
    simp only [vals] at hq h2 ⊢
    refine xappN h ty r hl (news:=vs) rfl hq ?_ h2
    intro j u hu
    have hj:j<vs.length:=by
      rcases Nat.lt_or_ge j vs.length with h | h
      · exact h
      · simp [List.getElem?_eq_none h] at hu
    simp [List.getElem?_append_left hj,hu]
theorem wit_appN (l:List Value): ∃y:Row,(fun zx=>vals zx=l) y:=⟨.mk 0 l [],rfl⟩
def hV (f:Nat->Int):Value:= .agg #[.int .u8 (f 0), .int .u8 (f 1), .int .u8 (f 2), .int .u8 (f 3), .int .u8 (f 4), .int .u8 (f 5), .int .u8 (f 6), .int .u8 (f 7), .int .u8 (f 8), .int .u8 (f 9), .int .u8 (f 10), .int .u8 (f 11), .int .u8 (f 12), .int .u8 (f 13), .int .u8 (f 14), .int .u8 (f 15), .int .u8 (f 16), .int .u8 (f 17), .int .u8 (f 18), .int .u8 (f 19), .int .u8 (f 20), .int .u8 (f 21), .int .u8 (f 22), .int .u8 (f 23), .int .u8 (f 24), .int .u8 (f 25), .int .u8 (f 26), .int .u8 (f 27), .int .u8 (f 28), .int .u8 (f 29), .int .u8 (f 30), .int .u8 (f 31)]
def ib4 (m0 m1 m2 m3:Int) (i:Nat):Int:=IntKind.u8.wrap (Int.fdiv (match (31 - i)/8 with | 0=>m0 | 1=>m1 | 2=>m2 | _=>m3) (2^(8*((31 - i)%8))))
def nb1 (x:Int):List Int:= [IntKind.u8.wrap (Int.fdiv x (2^0))]
def nb4 (x:Int):List Int:= [IntKind.u8.wrap (Int.fdiv x (2^24)),IntKind.u8.wrap (Int.fdiv x (2^16)),IntKind.u8.wrap (Int.fdiv x (2^8)),IntKind.u8.wrap (Int.fdiv x (2^0))]
def l32 (f:Nat->Int):List Int:= [f 0,f 1,f 2,f 3,f 4,f 5,f 6,f 7,f 8,f 9,f 10,f 11,f 12,f 13,f 14,f 15,f 16,f 17,f 18,f 19,f 20,f 21,f 22,f 23,f 24,f 25,f 26,f 27,f 28,f 29,f 30,f 31]
theorem wit_bok {r L:List Int} {n:Nat} (h:L.length=n): ∃x:Row,(fun zx=>BOK zx/\(dg zx).length=r.length+n/\dg zx=r++L) x:=
  ⟨.mk 0 (bv (r++L)) [],bok_lit _ _ _,by show ((bv (r++L)).map ci).length=_;rw [bv_ci,List.length_append,h],by show (bv (r++L)).map ci=_;rw [bv_ci]⟩
theorem wit_bok0 {r:List Int}: ∃x:Row,(fun zx=>BOK zx/\(dg zx).length=r.length/\dg zx=r) x:=
  ⟨.mk 0 (bv r) [],bok_lit _ _ _,by show ((bv r).map ci).length=_;rw [bv_ci],by show (bv r).map ci=_;rw [bv_ci]⟩
theorem l32_length (f:Nat->Int):(l32 f).length=32:=rfl
end Go.Sx
namespace Go.Sx
end Go.Sx
namespace Go.Sx
open Go.RowKit
end Go.Sx
namespace Go.Sx
open Go.RowKit
def tV (v:Int×Int):Value:= .agg #[.int .u8 v.1, .int .u8 v.2]
end Go.Sx
namespace Go.Sx
open Go.RowKit
end Go.Sx
namespace Go.Sx
open Go.RowKit
noncomputable def slast (s:Slot):Value:=match s with | .par _ (.vals ks) _=>ks.getLast?.getD undef | _=>undef
theorem xfirst' {P:Program} (m:KV) (x:Option Value):PureRun P (do pure (.value (←Instr.extract (nxv m x) 0))) (.bool (cb (cell (nxv m x) 0))):=by
  have h:=xfirst (P:=P) m x
  have e:cb (cell (nxv m x) 0)=x.isSome:=by cases x<;>rfl
  rw [e];exact h
theorem nx_some {m:KV} {x:Option Value} (h:cb (cell (nxv m x) 0)=true):x.isSome=true:=by
  cases x with
  | none=>cases h
  | some k=>rfl
theorem nx_none {m:KV} {x:Option Value} (h:cb (cell (nxv m x) 0)=false):x.isSome=false:=by
  cases x with
  | none=>rfl
  | some k=>cases h
theorem slast_some {r it:Nat} {m:KV} {ks:List Value} {x:Option Value} (h:x.isSome=true):slast (mitE r it m ks x)=x.getD undef:=by
  cases x with
  | none=>cases h
  | some k=>simp [mitE,mit,bun,slast]
theorem xentry' {P:Program} {r it:Nat} {m:KV} {ks:List Value} (hm:MOK m) {x:Option Value} (hx:x.isSome=true):
    OpT P (do pure (.value (←Instr.entry (.pointer (some ⟨it,0,none⟩))))) [mitE r it m ks x] Unit (fun _=> .tuple #[slast (mitE r it m ks x),(mget m (slast (mitE r it m ks x))).getD undef]) (fun _=> [mitE r it m ks x]) (fun _=>True):=by
  rw [slast_some hx];exact xentry hm hx
theorem wit_next {m:KV} (hm:MOK m) {ks:List Value} (hN:ks.Nodup/\ ∀k∈ks,k∈m.map (·.1)): ∃x:Option Value,(fun zx=>nxP m ks zx) x:=by
  by_cases h: ∃k,k∉ks/\k∈m.map (·.1)
  · obtain ⟨k,hk⟩:=h;exact ⟨some k,hk⟩
  · refine ⟨none,?_⟩
    show ks.Perm (m.map (·.1))
    refine (List.perm_ext_iff_of_nodup hN.1 hm).2 fun a=>⟨hN.2 a,fun ha=> ?_⟩
    by_cases hk:a∈ks
    · exact hk
    · exact absurd ⟨a,hk,ha⟩ h
theorem keys_step {m:KV} {ks:List Value} {k:Value} (h:ks.Nodup/\ ∀k∈ks,k∈m.map (·.1)) (hk:k∉ks/\k∈m.map (·.1)):(ks++ [k]).Nodup/\ ∀j∈ks++ [k],j∈m.map (·.1):=by
  refine ⟨?_,fun j hj=> ?_⟩
  · rw [List.nodup_append]
    exact ⟨h.1,by simp,fun a ha b hb=>by simp at hb;subst hb;exact fun e=>hk.1 (e▸ha)⟩
  · rcases List.mem_append.1 hj with hj | hj
    · exact h.2 j hj
    · simp at hj;subst hj;exact hk.2
theorem sub_len: ∀ (ks L:List Value),ks.Nodup->(∀k∈ks,k∈L)->ks.length<=L.length
  | [],_,_,_=>Nat.zero_le _
  | k :: ks, L, hn, hs => by
    rw [List.nodup_cons] at hn
    have hk:k∈L:=hs k (List.mem_cons_self ..)
    have h1:=sub_len ks (L.erase k) hn.2 (fun j hj=>(List.mem_erase_of_ne (fun e=>hn.1 (by rw [←e];exact hj))).2 (hs j (List.mem_cons_of_mem _ hj)))
    rw [List.length_erase_of_mem hk] at h1
    have:0<L.length:=List.length_pos_of_mem hk
    simp only [List.length_cons]
    omega
theorem keys_len {m:KV} {ks:List Value} (h:ks.Nodup/\ ∀k∈ks,k∈m.map (·.1)):ks.length<=m.length:=by
  have:=sub_len ks _ h.1 h.2
  simpa using this
theorem keys_mu {m:KV} {ks:List Value} {k:Value} (h:ks.Nodup/\ ∀k∈ks,k∈m.map (·.1)) (hk:k∉ks/\k∈m.map (·.1)):m.length - (ks++ [k]).length<m.length - ks.length:=by
  have:=keys_len (keys_step h hk)
  simp at this ⊢
  omega
end Go.Sx
namespace Go.Sx
open Go.RowKit Go.Sort Go.Proofs Go.Shelf
theorem own_more {H:Hp} {R:HP} {w w' :World} (h:Own H R w) (hx: ∀ (i:Nat) (o:Obj),w.heap[i]? =some o->w'.heap[i]? =some o):Own H R w' :=by
  obtain ⟨p,q,hs,hq,hp,hqw,hd,hdq⟩:=h
  exact ⟨p,q,hs,hq,fun i b o hb=>hx b o (hp i b o hb),fun b o hb=>hx b o (hqw b o hb),hd,hdq⟩
theorem calls_grow {P:Program} {f:FuncId} {args:Array Value} {w:World} {v:Value} (h:CallT P f args [old w] Unit (fun _=>v) (fun _=> [old w]) (fun _=>True)):
    Calls P f args w fun e w' =>e= .returned v/\ ∃q os',w' =grow (w.drewN q) os' :=by
  refine (h.calls _ w (own_old w)).mono ?_
  rintro e w' ⟨_,_,he,⟨p,q,hs,_,hp,_⟩,hext⟩
  have h0:=hs 0
  simp only [ofList,old,List.getD_cons_zero,Slot.sat] at h0
  refine ⟨he,w'.drawn - w.drawn,w'.heap.extract w.heap.size w'.heap.size,?_⟩
  have hh:w'.heap=w.heap++w'.heap.extract w.heap.size w'.heap.size:=by
    have hsz:=hext.size
    apply Array.ext_getElem?
    intro i
    rw [Array.getElem?_append]
    by_cases hi:i<w.heap.size
    · rw [if_pos hi]
      have:=hp 0 i w.heap[i] (by rw [h0 i];simp [hi])
      rw [this];simp [hi]
    · rw [if_neg hi,Array.getElem?_extract]
      split
      · rw [show w.heap.size+(i - w.heap.size)=i by omega]
      · rw [Array.getElem?_eq_none (by omega)]
  have e1:=hext.os
  have e2:=hext.tape
  have e3:=hext.output
  have e4:=hext.drawn
  obtain ⟨hp',tp,dr,os,ou⟩:=w'
  obtain ⟨hp0,tp0,dr0,os0,ou0⟩:=w
  simp only at e1 e2 e3 e4 hh ⊢
  subst e1 e2 e3
  unfold grow World.drewN
  simp only
  rw [←hh,show dr0+(dr - dr0)=dr by omega]
theorem sortWorld_other {α:Type} [Inhabited α] (enc:α->Value) (w:World) (blk off m:Nat) (dk:Array α) (os:Array Obj) {i:Nat} {o:Obj} (hi:i≠blk) (h:w.heap[i]? =some o):(sortWorld enc w blk off m dk os).heap[i]? =some o:=by
  unfold sortWorld grow putRow mapBlock Go.Sort.ahead
  simp only
  have hlt:i<w.heap.size:=(Array.getElem?_eq_some_iff.1 h).1
  rw [Array.getElem?_append_left (by simpa using hlt),Array.getElem?_modify,if_neg (Ne.symm hi)]
  exact h
theorem sortWorld_row {α:Type} [Inhabited α] (enc:α->Value) (w:World) (blk m:Nat) (d' :Array α) (os:Array Obj) {vs ex:List Value} {e:TypeId} (hd:d'.size=vs.length) (h:w.heap[blk]? =some (.cells (vs++ex).toArray e (0,0))):
    (sortWorld enc w blk 0 m d' os).heap[blk]? =some (.cells ((d'.toList.map enc)++ex).toArray e (0,0)):=by
  unfold sortWorld grow putRow mapBlock Go.Sort.ahead
  simp only
  have hlt:blk<w.heap.size:=(Array.getElem?_eq_some_iff.1 h).1
  rw [Array.getElem?_append_left (by simpa using hlt),Array.getElem?_modify,if_pos rfl,h]
  simp only [Option.map_some,onCells,Option.some.injEq,Obj.cells.injEq,and_true]
  apply Array.ext_getElem?
  intro k
  simp only [putCells,Array.getElem?_mapIdx,List.getElem?_toArray,Nat.zero_le,true_and,Nat.zero_add,Nat.sub_zero]
  by_cases hk:k<d'.size
  · rw [List.getElem?_append_left (by omega),List.getElem?_append_left (by simpa using hk)]
    rw [List.getElem?_eq_getElem (by omega),Option.map_some,if_pos hk,List.getElem?_map]
    simp [hk]
  · rw [List.getElem?_append_right (by omega),List.getElem?_append_right (by simpa using Nat.le_of_not_lt hk)]
    simp only [List.length_map,Array.length_toList,hd]
    cases ex[k - vs.length]? with
    | none=>rfl
    | some y=>simp only [Option.map_some,Option.some.injEq];rw [if_neg (by omega)]
theorem own_ne2 {a b:Nat} {o o' :Obj} {s:List Slot} {R:HP} {w:World} {i j:Nat} {H:Hp} (h:Own H R w) (hij:i≠j) (ha:H i= .blk a o) (hb:H j= .blk b o'):a≠b:=by
  obtain ⟨p,q,hs,_,_,_,hd,_⟩:=h
  intro e
  subst e
  have h1:=hs i
  have h2:=hs j
  rw [ha] at h1
  rw [hb] at h2
  rcases hd i j hij a with h | h
  · rw [h1.1] at h;cases h
  · rw [h2.1] at h;cases h
def SortedBy (cf:Int->Int->Int) (l:List Value):Prop:=l.Pairwise fun a b=>ltOf cf (ci b) (ci a)=false
end Go.Sx
namespace Go.Sx
open Go.RowKit Go.Sort Go.Proofs Go.Shelf
theorem xold1 {P:Program} {t:TypeId} (ha: ∀w,(isAgg t).run P w= .ok false w) {w0:World} {a:Addr} {v:Value} (h:w0.cell? a=some v):
    OpT P (do pure (.value (←Instr.loadAt t (.pointer (some a))))) [old w0] Unit (fun _=>v) (fun _=> [old w0]) (fun _=>True):=by
  intro R w ho
  have hc:=own_cell ho h
  exact ⟨(),w,trivial, .inl (by simp [Instr.loadAt,Instr.sureAddr,loadVar,Sem.run_bind,ha,hc]),ho,Ext.refl w⟩
def cmpI (x y:Int):Int:=if x<y then -1 else if y<x then 1 else 0
theorem ltI (x y:Int):ltOf cmpI x y=decide (x<y):=by
  unfold ltOf cmpI
  by_cases h1:x<y
  · simp [h1]
  · by_cases h2:y<x<;>simp [h1,h2]
theorem sort_wit {e:TypeId} (y:Row): ∃z:Row,(fun z=>sv z=sv y/\(vals z).Perm (rvals (sv y) (ss e y))/\SortedBy cmpI (vals z)) z:=by
  rw [rvals_eq]
  have hp:=List.mergeSort_perm (vals y) (fun a b=> !(ltOf cmpI (ci b) (ci a)))
  have hs:SortedBy cmpI ((vals y).mergeSort fun a b=> !(ltOf cmpI (ci b) (ci a))):=by
    have:=List.pairwise_mergeSort (le:=fun a b:Value=> !(ltOf cmpI (ci b) (ci a))) (fun a b c h1 h2=>by simp only [ltI,Bool.not_eq_true',decide_eq_false_iff_not] at *;omega) (fun a b=>by simp only [ltI,Bool.or_eq_true,Bool.not_eq_true',decide_eq_false_iff_not];omega) (vals y)
    exact this.imp fun h=>by simpa using h
  cases y with
  | nil=>exact ⟨.nil,rfl,List.Perm.refl _,List.Pairwise.nil⟩
  | mk b vs ex=>exact ⟨.mk b (vs.mergeSort fun a b=> !(ltOf cmpI (ci b) (ci a))) ex,by simp [sv],hp,hs⟩
def Rise (l:List Value):Prop:=l.Pairwise fun a b=>ci a<ci b
theorem rise_of {kk:IntKind} {l:List Value} (h:SortedBy cmpI l) (hn:l.Nodup) (hi: ∀v∈l,∃n:Int,v= .int kk n):Rise l:=by
  induction l with
  | nil=>exact List.Pairwise.nil
  | cons a l ih =>
    unfold SortedBy at h
    rw [List.pairwise_cons] at h
    rw [List.nodup_cons] at hn
    refine List.pairwise_cons.2 ⟨fun b hb=> ?_,ih h.2 hn.2 fun v hv=>hi v (List.mem_cons_of_mem _ hv)⟩
    have h1:=h.1 b hb
    rw [ltI] at h1
    simp at h1
    obtain ⟨n,rfl⟩:=hi a (List.mem_cons_self ..)
    obtain ⟨k,rfl⟩:=hi b (List.mem_cons_of_mem _ hb)
    simp only [ci] at h1 ⊢
    have:n≠k:=fun e=>hn.1 (by rw [e];exact hb)
    omega
def KeysOf (kk:IntKind) (m:KV) (l:List Value):Prop:=l.Perm (m.map (·.1))/\Rise l/\ ∀v∈l,∃n:Int,v= .int kk n
theorem rise_unique {kk : IntKind} : ∀ {l l' : List Value}, Rise l -> Rise l' -> (∀ v ∈ l, ∃ n : Int, v = .int kk n) -> (∀ v ∈ l', ∃ n : Int, v = .int kk n) -> (∀ v, v ∈ l ↔ v ∈ l') -> l = l'
  | [],[],_,_,_,_,_=>rfl
  | [],b::l',_,_,_,_,h=>absurd ((h b).2 (List.mem_cons_self ..)) (by simp)
  | a::l,[],_,_,_,_,h=>absurd ((h a).1 (List.mem_cons_self ..)) (by simp)
  | a :: l, b :: l', h1, h2, i1, i2, h => by
    unfold Rise at h1 h2
    rw [List.pairwise_cons] at h1 h2
    obtain ⟨n,rfl⟩:=i1 a (List.mem_cons_self ..)
    obtain ⟨k,rfl⟩:=i2 b (List.mem_cons_self ..)
    have e:n=k:=by
      rcases List.mem_cons.1 ((h (.int kk n)).1 (List.mem_cons_self ..)) with e | hm
      · injection e
      · rcases List.mem_cons.1 ((h (.int kk k)).2 (List.mem_cons_self ..)) with e | hm'
        · injection e with _ e;exact e.symm
        · have:=h2.1 _ hm
          have:=h1.1 _ hm'
          simp only [ci] at *
          omega
    subst e
    have hm: ∀v,v∈l↔v∈l' :=fun v=>by
      constructor
      · intro hv
        rcases List.mem_cons.1 ((h v).1 (List.mem_cons_of_mem _ hv)) with e | hm
        · subst e;have:=h1.1 _ hv;exact absurd this (by simp)
        · exact hm
      · intro hv
        rcases List.mem_cons.1 ((h v).2 (List.mem_cons_of_mem _ hv)) with e | hm
        · subst e;have:=h2.1 _ hv;exact absurd this (by simp)
        · exact hm
    rw [rise_unique h1.2 h2.2 (fun v hv=>i1 v (List.mem_cons_of_mem _ hv)) (fun v hv=>i2 v (List.mem_cons_of_mem _ hv)) hm]
theorem keysOf_of {kk:IntKind} {m:KV} (hm:MOK m) (hi: ∀v∈m.map (·.1),∃n:Int,v= .int kk n) {l:List Value} (hp:l.Perm (m.map (·.1))) (hs:SortedBy cmpI l):KeysOf kk m l:=
  ⟨hp,rise_of hs (hp.nodup_iff.2 hm) (fun v hv=>hi v (hp.mem_iff.1 hv)),fun v hv=>hi v (hp.mem_iff.1 hv)⟩
def IntKeys (kk:IntKind) (m:KV):Prop:=(∀v∈m.map (·.1),∃n:Int,v= .int kk n)/\MOK m
theorem keysOf_wit {kk:IntKind} {m:KV} (hi: ∀v∈m.map (·.1),∃n:Int,v= .int kk n) (hm:MOK m): ∃z:Row,(fun z=>KeysOf kk m (vals z)) z:=by
  obtain ⟨z,_,hp,hs⟩:=sort_wit (e:=0) (.mk 0 (m.map (·.1)) [])
  rw [rvals_eq] at hp
  exact ⟨z,keysOf_of hm hi hp hs⟩
end Go.Sx
namespace Go.Sx
open Go.RowKit
def fl (l:List Value):List Value:=l.flatMap fun v=>v.cells.toList
theorem fl_append (a b:List Value):fl (a++b)=fl a++fl b:=by simp [fl]
def Ag (k:Nat) (v:Value):Prop:= ∃cs,v= .agg cs/\cs.size=k
theorem fl_cons (v:Value) (l:List Value):fl (v::l)=v.cells.toList++fl l:=by simp [fl]
theorem Ag.len {k:Nat} {v:Value} (h:Ag k v):v.cells.toList.length=k:=by obtain ⟨cs,rfl,h⟩:=h;simpa [Value.cells] using h
theorem Ag.eq {k:Nat} {v:Value} (h:Ag k v):v= .agg v.cells:=by obtain ⟨cs,rfl,h⟩:=h;rfl
theorem fl_length {k:Nat}: ∀ {l:List Value},(∀v∈l,Ag k v)->(fl l).length=l.length*k
  | [],_=>by simp [fl]
  | v :: l, h => by
    rw [fl_cons,List.length_append,(h v (List.mem_cons_self ..)).len,fl_length fun v hv=>h v (List.mem_cons_of_mem _ hv),List.length_cons,Nat.succ_mul,Nat.add_comm]
theorem fl_get {k : Nat} : ∀ {l : List Value} (_ : ∀ v ∈ l, Ag k v) {n : Nat} {x : Value} (_ : l[n]? = some x) {j : Nat} {c : Value} (_ : x.cells.toList[j]? = some c), (fl l)[n * k + j]? = some c
  | [],_,n,x,hn,_,_,_=>by simp at hn
  | v :: l, h, n, x, hn, j, c, hj => by
    have hv:=(h v (List.mem_cons_self ..)).len
    rw [fl_cons]
    cases n with
    | zero =>
      simp at hn;subst hn
      have:j<v.cells.toList.length:=by
        rcases Nat.lt_or_ge j v.cells.toList.length with q | q
        · exact q
        · rw [List.getElem?_eq_none q] at hj;cases hj
      rw [Nat.zero_mul,Nat.zero_add,List.getElem?_append_left this,hj]
    | succ n =>
      rw [List.getElem?_append_right (by rw [hv,Nat.succ_mul];omega),hv,show (n+1)*k+j - k=n*k+j by rw [Nat.succ_mul];omega]
      exact fl_get (fun v hv=>h v (List.mem_cons_of_mem _ hv)) (by simpa using hn) hj
theorem fl_chunk {k:Nat}: ∀ (n:Nat) (l:List Value),l.length=n*k-> ∃ex:List Value,ex.length=n/\fl ex=l/\ ∀v∈ex,Ag k v
  | 0, l, h => ⟨[], rfl, by cases l with
    | nil=>rfl
    | cons a l=>simp at h,fun v hv=>by cases hv⟩
  | n + 1, l, h => by
    rw [Nat.succ_mul] at h
    obtain ⟨ex,h1,h2,h3⟩:=fl_chunk (k:=k) n (l.drop k) (by rw [List.length_drop];omega)
    refine ⟨.agg (l.take k).toArray::ex,by simp [h1],?_,fun v hv=> ?_⟩
    · rw [fl_cons,h2];simp [Value.cells]
    · rcases List.mem_cons.1 hv with rfl | hv
      · exact ⟨_,rfl,by simp;omega⟩
      · exact h3 v hv
def Row.Ag (k:Nat):Row->Prop | .nil=>True | .mk _ vs ex=> ∀v∈vs++ex,Sx.Ag k v
def RK (k:Nat):= { r:Row//r.Ag k }
def RK.nil (k:Nat):RK k:=⟨.nil,trivial⟩
def sk (e:TypeId):Row->Slot
  | .nil=> .free
  | .mk b vs ex=> .blk b (.cells (fl (vs++ex)).toArray e (0,0))
structure SkT (P:Program) (t e:TypeId) (k:Nat) (z:Value):Prop where
  und:P.underlying t=some (.slice e)
  info: ∃i,P.info? e=some i/\i.zero=some z/\i.size=k/\i.bytes<=4096
  zc:z.cells.size=k
  agg: ∀w,(isAgg e).run P w= .ok true w
theorem SkT.of {P:Program} {t e:TypeId} {k:Nat} {z:Value} (h1:P.underlying t=some (.slice e)) (h3:(P.info? e).bind (·.zero)=some z) (h4:(P.info? e).map (fun i=>(i.size,Nat.ble i.bytes 4096))=some (k,true)) (h5:z.cells.size=k) (h6: ∀w,(isAgg e).run P w= .ok true w):SkT P t e k z:=by
  refine ⟨h1,?_,h5,h6⟩
  cases hi:P.info? e with
  | none=>rw [hi] at h3;cases h3
  | some i =>
    rw [hi] at h3 h4
    simp at h3 h4
    exact ⟨i,rfl,h3,h4.1,h4.2⟩
theorem SkT.size {P:Program} {t e:TypeId} {k:Nat} {z:Value} (h:SkT P t e k z) (w:World):(sizeOf e).run P w= .ok k w:=by
  obtain ⟨i,hi,hz,hs,hb⟩:=h.info
  simp [sizeOf,typeInfo,hi,hs]
theorem xlenK {P:Program} {t e:TypeId} {k:Nat} {z:Value} (h:SkT P t e k z) (ty:TypeId) (r:Row):PureRun P (do pure (.value (←Builtin.len_ #[t] ty #[sv r]))) (.int .i64 ((vlen (sv r):Nat):Int)):=by
  intro w
  cases r<;>simp [Builtin.len_,run_underlying h.und,sv,vlen,goInt]
def f_idxK (k:Nat):List Value->Value:=fun vs=> .pointer (some ⟨vblk (varg vs 0),(ci (varg vs 1)).toNat*k,none⟩)
theorem xidxK {P:Program} {t e:TypeId} {n:Nat} {z:Value} (h:SkT P t e n z) (r:Row) (k:IntKind) (i:Int) (h0:0<=i) (h1:i<((vals r).length:Nat)):
    PureRun P (do pure (.value (←Instr.indexAt t (sv r) (.int k i)))) (.pointer (some ⟨vblk (sv r),i.toNat*n,none⟩)):=by
  intro w
  cases r with
  | nil=>simp [vals] at h1;omega
  | mk b vs ex =>
    have hc:0<=i/\i<(vs.length:Int):=⟨h0,h1⟩
    simp [Instr.indexAt,run_underlying h.und,sv,asIntOf,hc,h.size w,vblk,Addr.add]
    omega
theorem xgetK {P:Program} {t e:TypeId} {k:Nat} {z:Value} (h:SkT P t e k z) (r:RK k) (n:Nat) (x:Value) (hx:(vals r.1)[n]? =some x):
    OpT P (do pure (.value (←Instr.loadAt e (.pointer (some ⟨vblk (sv r.1),n*k,none⟩))))) [sk e r.1] Unit (fun _=>x) (fun _=> [sk e r.1]) (fun _=>True):=by
  obtain ⟨r,hr⟩:=r
  intro R w ho
  cases r with
  | nil=>simp [vals] at hx
  | mk b vs ex =>
    have hb:=ho.block (i:=0) rfl
    simp only [vals] at hx
    have hn:n<vs.length:=by
      rcases Nat.lt_or_ge n vs.length with q | q
      · exact q
      · rw [List.getElem?_eq_none q] at hx;cases hx
    have hx' :(vs++ex)[n]? =some x:=by rw [List.getElem?_append_left hn,hx]
    have hA:=hr x (List.mem_of_getElem? hx')
    have hcell: ∀j c,x.cells.toList[j]? =some c->w.cell? ((⟨b,n*k,none⟩:Addr).add j)=some c:=fun j c hj=>by
      have e1:(⟨b,n*k,none⟩:Addr).add j=⟨b,n*k+j,none⟩:=Addr.add_lit ..
      rw [e1]
      have:=fl_get hr hx' hj
      simp [World.cell?,hb,this]
    have hrun:=run_loadCells_list (P:=P) w ⟨b,n*k,none⟩ x.cells.toList hcell
    rw [hA.len] at hrun
    refine ⟨(),w,trivial, .inl ?_,ho,Ext.refl w⟩
    obtain ⟨cs,rfl,hcs⟩:=hA
    simp [Instr.loadAt,Instr.sureAddr,vblk,sv,loadVar,Sem.run_bind,h.agg,h.size w,hrun,Value.cells]
def putAll (cs:Array Value) (o:Nat):List Value->Array Value
  | []=>cs
  | v::vs=>putAll (cs.setIfInBounds o v) (o+1) vs
theorem heap_setCells_same (b:Nat) (t:TypeId): ∀ (vs:List Value) (o:Nat) (w:World) (cs:Array Value),w.heap[b]? =some (.cells cs t (0,0))->(w.setCells b o vs).heap[b]? =some (.cells (putAll cs o vs) t (0,0))
  | [],_,_,_,h=>h
  | v::vs,o,w,cs,h=>heap_setCells_same b t vs (o+1) _ _ (heap_setCell_same w b o cs t v h)
theorem putAll_eq: ∀ (vs a m c:List Value),m.length=vs.length->putAll (a++m++c).toArray a.length vs=(a++vs++c).toArray
  | [], a, m, c, h => by
    have:m= []:=List.eq_nil_of_length_eq_zero h
    subst this;rfl
  | v :: vs, a, m, c, h => by
    cases m with
    | nil=>simp at h
    | cons x m =>
      simp only [putAll]
      have e:((a++x::m++c).toArray.setIfInBounds a.length v)=((a++ [v])++m++c).toArray:=by simp
      rw [e]
      have:=putAll_eq vs (a++ [v]) m c (by simpa using h)
      simp only [List.length_append,List.length_singleton] at this
      rw [this];simp
theorem heap_setCells_other' (b:Nat): ∀ (vs:List Value) (o:Nat) (w:World) (c:Nat),c≠b->(w.setCells b o vs).heap[c]? =w.heap[c]?
  | [],_,_,_,_=>rfl
  | v::vs,o,w,c,h=>(heap_setCells_other' b vs (o+1) _ c h).trans (heap_setCell_other w _ c v h)
theorem ext_setCells (b:Nat): ∀ (vs:List Value) (o:Nat) (w:World),Ext w (w.setCells b o vs)
  | [],_,w=>Ext.refl w
  | v::vs,o,w=>Ext.trans (b:=w.setCell ⟨b,o,none⟩ v) ⟨rfl,rfl,rfl,by simp,by first | exact Nat.le_refl _ | exact Nat.le_succ _ | simp⟩ (ext_setCells b vs (o+1) _)
theorem xappK {P : Program} {t e : TypeId} {k : Nat} {z : Value} (h : SkT P t e k z) (ty : TypeId) (r : RK k) (hl : (vals r.1).length <= 1073741824) (c m : Nat) (x : Value) (hx : Ag k x) (h2 : ∀ u ∈ x.cells.toList, u.oneCell' = true) :
    OpT P (do pure (.value (←Builtin.append_ #[t,t] ty #[sv r.1, .slice (some ⟨c,0,none⟩) 1 m]))) [sk e r.1, .blk c (.cells x.cells e (0,0))] (RK k) (fun y=>sv y.1) (fun y=> [sk e y.1, .blk c (.cells x.cells e (0,0))]) (fun y=>vals y.1=vals r.1++ [x]):=by
  obtain ⟨r,hr⟩:=r
  intro R w h0
  obtain ⟨i,hi,hz,hs,hby⟩:=h.info
  have hc:=h0.block (i:=1) rfl
  have hxl:=hx.len
  have hnews: ∀j u,x.cells.toList[j]? =some u->w.cell? ((⟨c,0,none⟩:Addr).add j)=some u:=by
    intro j u hu
    have e1:(⟨c,0,none⟩:Addr).add j=⟨c,0+j,none⟩:=Addr.add_lit ..
    rw [e1,Nat.zero_add]
    simpa [World.cell?,hc] using hu
  have upd1: ∀ (s:Slot),upd (ofList [sk e r, .blk c (.cells x.cells e (0,0))]) 0 s=ofList [s, .blk c (.cells x.cells e (0,0))]:=by
    intro s;funext i
    cases i with
    | zero=>rfl
    | succ i=>cases i<;>rfl
  have fresh: ∀ (o:Obj),Own (ofList [.blk w.heap.size o, .blk c (.cells x.cells e (0,0))]) R (w.drew.alloc o):=by
    intro o
    have:=h0.new (w' :=w.drew.alloc o) (i:=0) (o:=o) (heap_alloc_new w.drew o) (fun c hc=>heap_alloc_old w.drew o c hc)
    rw [upd1] at this
    exact this
  have ext: ∀ (o:Obj),Ext w (w.drew.alloc o):=fun o=>⟨rfl,rfl,rfl,by simp,by first | exact Nat.le_refl _ | exact Nat.le_succ _ | simp⟩
  have zl: ∀n,∃ex:List Value,ex.length=n/\fl ex=(Builtin.zeroCells z.cells n).toList/\ ∀v∈ex,Ag k v:=by
    intro n
    exact fl_chunk n _ (by rw [Array.length_toList,size_zeroCells,h.zc])
  cases r with
  | nil =>
    have hrn:=run_append_nil (P:=P) w t ty e i z h.und hi hz ⟨c,0,none⟩ 1 m x.cells.toList (by rw [hs,hxl,Nat.one_mul]) hnews (by decide) (by decide) (by omega)
    obtain ⟨ex,he,hf,hA⟩:=zl (grownCap w 1 0 e - 1)
    have hge:=grownCap_ge w 1 0 e
    have ef:fl ([x]++ex)=x.cells.toList++(Builtin.zeroCells z.cells (grownCap w 1 0 e - 1)).toList:=by rw [fl_append,hf,fl_cons];simp [fl]
    refine ⟨⟨.mk w.heap.size [x] ex,fun v hv=>by
      rcases List.mem_append.1 hv with hv | hv
      · simp at hv;subst hv;exact hx
      · exact hA v hv⟩,_,rfl, .inl ?_,?_,ext (.cells (fl ([x]++ex)).toArray e)⟩
    · simp only [sv]
      show (Sem.run P (Builtin.append_ _ _ _>>=_) w)=_
      rw [Sem.run_bind,hrn]
      have:1+ex.length=grownCap w 1 0 e:=by omega
      have e2:(x.cells.toList.toArray++Builtin.zeroCells z.cells (grownCap w 1 0 e - 1))=(fl ([x]++ex)).toArray:=by rw [ef];apply Array.ext';simp
      rw [e2]
      simp [this,Result.andThen]
    · exact fresh (.cells (fl ([x]++ex)).toArray e)
  | mk b vs ex =>
    simp only [vals] at hl
    have hb:=h0.block (i:=0) rfl
    have hA: ∀v∈vs++ex,Ag k v:=hr
    have hv1: ∀v∈vs,Ag k v:=fun v hv=>hA v (List.mem_append_left _ hv)
    have hv2: ∀v∈ex,Ag k v:=fun v hv=>hA v (List.mem_append_right _ hv)
    have hbb:w.heap[b]? =some (.cells (fl (vs++ex)).toArray e (0,0)):=hb
    by_cases hroom:vs.length+1<=vs.length+ex.length
    · cases ex with
      | nil=>exact absurd hroom (by simp)
      | cons e0 ex =>
        have he0:=(hv2 e0 (List.mem_cons_self ..)).len
        have hcell: ∀j,j<x.cells.toList.length->(w.cell? ⟨b,0+vs.length*i.size+j,none⟩).isSome=true:=by
          intro j hj
          rw [hs,Nat.zero_add]
          have hlen:vs.length*k+j<(fl (vs++e0::ex)).length:=by
            rw [fl_length hA,List.length_append,List.length_cons,Nat.add_mul,Nat.succ_mul];omega
          simp [World.cell?,hbb,List.getElem?_eq_getElem hlen]
        have hrn:=run_append_room_cells (P:=P) w t ty e i h.und hi b 0 vs.length (vs.length+(e0::ex).length) ⟨c,0,none⟩ 1 m x.cells.toList (by rw [hs,hxl,Nat.one_mul]) hnews h2 hroom hcell (fun j hj=>frozen_of_row w b _ _ e hbb)
        rw [hs,Nat.zero_add] at hrn
        have hh:=heap_setCells_same b e x.cells.toList (vs.length*k) w _ hbb
        have hset:putAll (fl (vs++e0::ex)).toArray (vs.length*k) x.cells.toList=(fl (vs++ [x]++ex)).toArray:=by
          have:=putAll_eq x.cells.toList (fl vs) e0.cells.toList (fl ex) (by rw [he0,hxl])
          rw [fl_length hv1] at this
          rw [show fl (vs++e0::ex)=fl vs++e0.cells.toList++fl ex by rw [fl_append,fl_cons,List.append_assoc],this,fl_append,fl_append]
          simp [fl]
        rw [hset] at hh
        refine ⟨⟨.mk b (vs++ [x]) ex,fun v hv=>by
          rcases List.mem_append.1 hv with hv | hv
          · rcases List.mem_append.1 hv with hv | hv
            · exact hv1 v hv
            · simp at hv;subst hv;exact hx
          · exact hv2 v (List.mem_cons_of_mem _ hv)⟩,w.setCells b (vs.length*k) x.cells.toList,rfl, .inl ?_,?_,ext_setCells b _ _ w⟩
        · simp only [sv]
          rw [Sem.run_bind,hrn]
          simp [Nat.add_comm,Nat.add_left_comm,Result.andThen]
        · have:=h0.set (i:=0) (b:=b) rfl hh (fun c hc=>heap_setCells_other' b _ _ w c hc)
          rw [upd1] at this
          exact this
    · have hex:ex= []:=by cases ex with
        | nil=>rfl
        | cons a l=>simp at hroom
      subst hex
      have holds: ∀j u,(fl vs)[j]? =some u->w.cell? ((⟨b,0,none⟩:Addr).add j)=some u:=by
        intro j u hu
        have:(⟨b,0,none⟩:Addr).add j=⟨b,0+j,none⟩:=Addr.add_lit ..
        rw [this]
        simp only [List.append_nil] at hbb
        simp [World.cell?,hbb,hu]
      have hfit:Builtin.nextslicecap (vs.length+1) (vs.length+([]:List Value).length)*i.bytes<=281474976710656:=by
        refine growslice_fits (by simp) ?_
        have:(vs.length+1)*i.bytes<=1073741825*4096:=Nat.mul_le_mul (by omega) hby
        omega
      have hrn:=run_append_grow (P:=P) w t ty e i z h.und hi hz ⟨b,0,none⟩ vs.length (vs.length+([]:List Value).length) (fl vs) (by rw [hs,fl_length hv1]) holds ⟨c,0,none⟩ 1 m x.cells.toList (by rw [hs,hxl,Nat.one_mul]) hnews (by simp) (by omega) hfit
      obtain ⟨ex,he,hf,hA2⟩:=zl (grownCap w (vs.length+1) (vs.length+([]:List Value).length) e - (vs.length+1))
      have hge:=grownCap_ge w (vs.length+1) (vs.length+([]:List Value).length) e
      have ef:(fl vs).toArray++x.cells.toList.toArray++Builtin.zeroCells z.cells (grownCap w (vs.length+1) (vs.length+([]:List Value).length) e - (vs.length+1))=(fl (vs++ [x]++ex)).toArray:=by
        rw [fl_append,fl_append,hf];apply Array.ext';simp [fl]
      rw [ef] at hrn
      refine ⟨⟨.mk w.heap.size (vs++ [x]) ex,fun v hv=>by
          rcases List.mem_append.1 hv with hv | hv
          · rcases List.mem_append.1 hv with hv | hv
            · exact hv1 v hv
            · simp at hv;subst hv;exact hx
          · exact hA2 v hv⟩,w.drew.alloc (.cells (fl (vs++ [x]++ex)).toArray e),rfl, .inl ?_,fresh _,ext _⟩
      simp only [sv]
      rw [Sem.run_bind,hrn]
      have e1:(vs++ [x]).length=vs.length+1:=by simp
      have e2:(vs++ [x]).length+ex.length=grownCap w (vs.length+1) (vs.length+([]:List Value).length) e:=by rw [e1];omega
      rw [e2,e1];rfl
end Go.Sx
namespace Go.Sx
open Go.RowKit Go.Proofs Go.Shelf
theorem clone_map {P:Program} {ρ:Ren} (L:SlLaysW.n5 P ρ) {f:FuncId} (hf:ρ.f 5=f) (he:EnterOK P f) {r:Nat} {m:KV}:
    CallT P f #[.map (some r)] [mo r m] Nat (fun n=> .map (some n)) (fun n=> [mo r m,mo n m]) (fun _=>True):=by
  refine ⟨he,fun R w ho=> ?_⟩
  obtain ⟨es,clock,⟨e,hb⟩,ho'⟩:=mo_open (l:= []) ho
  have hc:=AnyW.maps_Clone L r es clock w (ho'.block (i:=0) rfl)
  rw [hf] at hc
  refine hc.mono ?_
  rintro e' w' ⟨rfl,rfl⟩
  refine ⟨w.heap.size,trivial,rfl,?_,⟨rfl,rfl,rfl,by simp,Nat.le_refl _⟩⟩
  have o1:=ho'.new (w' :=w.alloc (.map es clock)) (i:=1) (o:= .map es clock) (heap_alloc_new w _) (fun c hc=>by show (w.heap.push _)[c]? =_;rw [Array.getElem?_push_lt hc,Array.getElem?_eq_getElem hc])
  have o2:Own (ofList [.blk r (.map es clock), .blk w.heap.size (.map es clock)]) R (w.alloc (.map es clock)):=by
    refine (congrArg (fun H=>Own H R (w.alloc (.map es clock))) ?_).mp o1
    funext j
    cases j with
    | zero=>rfl
    | succ j=>cases j<;>rfl
  have o3:=mo_shut e hb o2
  have o4:Own (ofList ([.blk w.heap.size (.map es clock)]++ [mo r m])) R (w.alloc (.map es clock)):=Imp.swap [mo r m] [.blk w.heap.size (.map es clock)] R _ o3
  exact Imp.swap [mo w.heap.size m] [mo r m] R _ (mo_shut e hb o4)
end Go.Sx
namespace Go.Sx
open Go.RowKit
def vdrop (v:Value) (m:Nat):Value:=match v with | .slice a l c=>sliced a m l c 1 | v=>v
theorem vlen_drop (r:Row) (m:Nat):vlen (vdrop (sv r) m)=(vals r).length - m:=by cases r<;>simp [vdrop,sv,sliced,vlen,vals]
theorem xdrop {P:Program} {t e:TypeId} {z:Value} (h:SlT P t e z) (r:Row) (k:IntKind) (n:Int) (h0:0<=n) (h1:n<=((vals r).length:Nat)):
    PureRun P (do pure (.value (←Instr.sliceAt t (sv r) (some (.int k n)) none none))) (vdrop (sv r) n.toNat):=by
  intro w
  have hu:P.underlying t=some (.slice (P.elem t)):=by rw [h.elem];exact h.und
  have hs:=h.size w
  rw [←h.elem] at hs
  have key: ∀ (a:Option Addr) (l c:Nat),sv r= .slice a l c->n<=(l:Int)->(Instr.sliceAt t (sv r) (some (.int k n)) none none).run P w= .ok (vdrop (sv r) n.toNat) w:=by
    intro a l c hv hc
    rw [hv,run_sliceAt_slice w t _ _ _ _ hu,run_slice_l w t a l c hu k n h0 hc,hs]
    rfl
  have hk:(Instr.sliceAt t (sv r) (some (.int k n)) none none).run P w= .ok (vdrop (sv r) n.toNat) w:=by
    cases r with
    | nil=>exact key none 0 0 rfl h1
    | mk b vs ex=>exact key _ _ _ rfl h1
  rw [Sem.run_bind,hk];rfl
theorem xdlen {P:Program} {t e:TypeId} {z:Value} (h:SlT P t e z) (ty:TypeId) (r:Row) (m:Nat):PureRun P (do pure (.value (←Builtin.len_ #[t] ty #[vdrop (sv r) m]))) (.int .i64 ((vlen (vdrop (sv r) m):Nat):Int)):=by
  intro w
  cases r<;>simp [Builtin.len_,run_underlying h.und,sv,vdrop,sliced,vlen,goInt]
theorem xdidx {P:Program} {t e:TypeId} {z:Value} (h:SlT P t e z) (r:Row) (m:Nat) (k:IntKind) (i:Int) (h0:0<=i) (h1:i<((vlen (vdrop (sv r) m):Nat):Int)):
    PureRun P (do pure (.value (←Instr.indexAt t (vdrop (sv r) m) (.int k i)))) (.pointer (some ⟨vblk (sv r),m+i.toNat,none⟩)):=by
  intro w
  rw [vlen_drop] at h1
  cases r with
  | nil=>simp [vals] at h1;omega
  | mk b vs ex =>
    simp only [vals] at h1
    have hm:vs.length+ex.length≠m:=by omega
    have hc:0<=i/\i<((vs.length - m:Nat):Int):=⟨h0,h1⟩
    simp [Instr.indexAt,run_underlying h.und,sv,vdrop,sliced,hm,asIntOf,hc,h.size w,vblk,Addr.add]
    by_cases hm0:m=0<;>by_cases hi:i<=0<;>simp [hm0,hi]<;>omega
theorem cells_vdrop (r:Row) (m:Nat):(vdrop (sv r) m).cells= #[vdrop (sv r) m]:=by cases r<;>rfl
theorem cells_vtake (r:Row) (m:Nat):(vtake (sv r) m).cells= #[vtake (sv r) m]:=by cases r<;>rfl
theorem one_vtake (r:Row) (m:Nat):(vtake (sv r) m).oneCell' =true:=by cases r<;>rfl
theorem getD_some {l:List Value} {n:Nat} (h:n<l.length):l[n]? =some (l.getD n undef):=by
  rw [List.getD_eq_getElem?_getD,List.getElem?_eq_getElem h];rfl
def bunL (l:List Slot):Slot:=bun [] .none (fun _:Unit=>l)
theorem bunL_shut (l k:List Slot):Imp (l++k) (bunL l::k):=bun_shut (F:=fun _:Unit=>l) () k
theorem bunL_open (l k:List Slot):Imp (bunL l::k) (l++k):=fun _ _ h=>(bun_open h).choose_spec
theorem sep_perm {a b:List Slot} (h:a.Perm b): ∀p,SepL a p->SepL b p:=by
  induction h with
  | nil=>exact fun _ h=>h
  | cons x _ ih=>exact fun _ ⟨p,q,hs,hl,d,e⟩=>⟨p,q,hs,ih q hl,d,e⟩
  | swap x y l =>
    intro h hs
    have h1:SepL ([y]++([x]++l)) h:=hs
    have h2:=sep_mid (a:= [x]) (b:= [y]) (c:=l) |>.2 h1
    exact h2
  | trans _ _ ih1 ih2=>exact fun p h=>ih2 p (ih1 p h)
theorem Imp.perm {a b:List Slot} (h:a.Perm b):Imp a b:= .same (sep_perm h)
abbrev MS3:=MK×Nat×KV
def mSs (bj:Nat) (Ms:List MS3):List Slot:=Ms.map fun x=>mS x.1 x.2.1 bj x.2.2
noncomputable def Ent.undo (e:Ent) (m:KV):KV:=match e.was with | some v=>mset m e.key v | none=>mdel m e.key
noncomputable def undo1 (e:Ent) (Ms:List MS3):List MS3:=Ms.map fun x=>if x.2.1=e.b then (x.1,x.2.1,e.undo x.2.2) else x
noncomputable def undoAll (E:List Ent) (Ms:List MS3):List MS3:=E.foldr undo1 Ms
structure EOK (P:Program) (bj:Nat) (K:MK) (e:Ent):Prop where
  call: ∀ (a:N4) (m:KV),CallT P e.g #[ptr a.1,ptr a.2.1,ptr a.2.2.1,ptr a.2.2.2] (mS K e.b bj m::e.sl a) Unit (fun _=>undef) (fun _=>mS K e.b bj (e.undo m)::e.sl a) (fun _=>True)
theorem undo1_ks (e:Ent) (Ms:List MS3):(undo1 e Ms).map (fun x=>(x.1,x.2.1))=Ms.map (fun x=>(x.1,x.2.1)):=by
  unfold undo1
  rw [List.map_map]
  refine List.map_congr_left fun x _=> ?_
  simp only [Function.comp]
  split<;>rfl
theorem undoAll_ks (E:List Ent) (Ms:List MS3):(undoAll E Ms).map (fun x=>(x.1,x.2.1))=Ms.map (fun x=>(x.1,x.2.1)):=by
  unfold undoAll
  induction E with
  | nil=>rfl
  | cons e E ih=>rw [List.foldr_cons,undo1_ks];exact ih
theorem ks_blocks {Ms Ms' :List MS3} (h:Ms.map (fun x=>(x.1,x.2.1))=Ms'.map (fun x=>(x.1,x.2.1))):Ms.map (·.2.1)=Ms'.map (·.2.1):=by
  have:=congrArg (List.map (·.2)) h
  rw [List.map_map,List.map_map] at this
  exact this
theorem undo1_split {e:Ent} {p q:List MS3} {y:MS3} (hy:y.2.1=e.b) (hn:((p++y::q).map (·.2.1)).Nodup):undo1 e (p++y::q)=p++(y.1,e.b,e.undo y.2.2)::q:=by
  rw [List.map_append,List.map_cons,List.nodup_append] at hn
  obtain ⟨_,h2,h3⟩:=hn
  have h4:=(List.nodup_cons.1 h2).1
  unfold undo1
  rw [List.map_append,List.map_cons,if_pos hy,hy]
  congr 1
  · rw [List.map_congr_left (g:=id),List.map_id]
    intro x hx
    rw [if_neg];rfl
    intro he
    exact h3 x.2.1 (List.mem_map_of_mem hx) y.2.1 (List.mem_cons_self ..) (he.trans hy.symm)
  · congr 1
    rw [List.map_congr_left (g:=id),List.map_id]
    intro x hx
    rw [if_neg];rfl
    intro he
    exact h4 (by rw [hy,←he];exact List.mem_map_of_mem hx)
theorem zip_split: ∀ {E:List Ent} {A:List N4},A.length=E.length-> ∀ (x:Nat) (h:x<E.length) (h' :x<A.length),∃u v,ents E A=u++(E[x].sl A[x]++v)
  | e::E,a::A,hl,0,_,_=>⟨[],ents E A,by simp [ents]⟩
  | e :: E, a :: A, hl, x + 1, h, h' => by
    obtain ⟨u,v,huv⟩:=zip_split (E:=E) (A:=A) (by simpa using hl) x (by simpa using h) (by simpa using h')
    exact ⟨e.sl a++u,v,by
      have:ents (e::E) (a::A)=e.sl a++ents E A:=by simp [ents]
      rw [this,huv];simp⟩
noncomputable def stepT (bj:Nat) (Ms:List MS3) (E:List Ent) (A:List N4) (x:Nat):List Slot:=mSs bj (undoAll (E.drop x) Ms)++ents E A
theorem step_call {P:Program} {bj:Nat} {Ms:List MS3} {E:List Ent} {A:List N4} (hl:A.length=E.length) (hn:(Ms.map (·.2.1)).Nodup) (hE: ∀e∈E,∃y∈Ms,y.2.1=e.b/\EOK P bj y.1 e)
    {x:Nat} (h0:0<x) (hx:x<=E.length): ∃e a,E[x - 1]? =some e/\A[x - 1]? =some a/\
      CallT P e.g #[ptr a.1,ptr a.2.1,ptr a.2.2.1,ptr a.2.2.2] [bunL (stepT bj Ms E A x)] Unit (fun _=>undef) (fun _=> [bunL (stepT bj Ms E A (x - 1))]) (fun _=>True):=by
  have h1:x - 1<E.length:=by omega
  have h2:x - 1<A.length:=by omega
  refine ⟨E[x - 1],A[x - 1],List.getElem?_eq_getElem h1,List.getElem?_eq_getElem h2,?_⟩
  obtain ⟨y0,hy0,hb,hok⟩:=hE E[x - 1] (List.getElem_mem h1)
  have hks:=undoAll_ks (E.drop x) Ms
  have hmem:(y0.1,y0.2.1)∈(undoAll (E.drop x) Ms).map (fun x=>(x.1,x.2.1)):=by rw [hks];exact List.mem_map_of_mem hy0
  obtain ⟨y,hy,hyk⟩:=List.mem_map.1 hmem
  obtain ⟨hy1,hy2⟩:y.1=y0.1/\y.2.1=y0.2.1:=by simpa using hyk
  obtain ⟨p,q,hpq⟩:=List.append_of_mem hy
  have hnd:((p++y::q).map (·.2.1)).Nodup:=by rw [←hpq,ks_blocks hks];exact hn
  obtain ⟨u,v,huv⟩:=zip_split hl (x - 1) h1 h2
  have hyb:y.2.1=E[x - 1].b:=hy2.trans hb
  have hstep:undoAll (E.drop (x - 1)) Ms=p++(y.1,E[x - 1].b,E[x - 1].undo y.2.2)::q:=by
    have:E.drop (x - 1)=E[x - 1]::E.drop x:=by
      rw [List.drop_eq_getElem_cons h1];congr 2;omega
    rw [this]
    show undo1 _ (undoAll (E.drop x) Ms)=_
    rw [hpq];exact undo1_split hyb hnd
  have c:=((hok.call A[x - 1] y.2.2).frame (mSs bj p++mSs bj q++u++v))
  rw [←hy1] at c
  refine c.conv ?_ fun _ _=> ?_
  · refine (bunL_open _ []).trans (Imp.perm ?_)
    unfold stepT
    rw [hpq,huv]
    have:mSs bj (p++y::q)=mSs bj p++(mS y.1 E[x - 1].b bj y.2.2::mSs bj q):=by simp [mSs,hyb]
    rw [this,List.append_nil]
    classical
    rw [List.perm_iff_count]
    intro s
    simp only [List.count_append,List.count_cons]
    omega
  · refine Imp.trans (Imp.perm ?_) (bunL_shut _ [])
    unfold stepT
    rw [hstep,huv]
    have:mSs bj (p++(y.1,E[x - 1].b,E[x - 1].undo y.2.2)::q)=mSs bj p++(mS y.1 E[x - 1].b bj (E[x - 1].undo y.2.2)::mSs bj q):=by simp [mSs]
    rw [this,List.append_nil]
    classical
    rw [List.perm_iff_count]
    intro s
    simp only [List.count_append,List.count_cons]
    omega
theorem mS_block {K:MK} {b bj:Nat} {m:KV} {h:Hl} (hs:(mS K b bj m).sat h):h b≠none:=by
  obtain ⟨r,hr⟩:=hs
  obtain ⟨p,q,⟨hp,_⟩,_,_,rfl⟩:=hr
  rw [un_left hp];simp
theorem mSs_nodup {bj:Nat}: ∀ {Ms:List MS3} {h:Hl},SepL (mSs bj Ms) h->(Ms.map (·.2.1)).Nodup/\ ∀x∈Ms,h x.2.1≠none
  | [],_,_=>⟨List.nodup_nil,fun _ h=>by cases h⟩
  | y :: Ms, h, ⟨p, q, hs, hl, d, e⟩ => by
    obtain ⟨h1,h2⟩:=mSs_nodup hl
    have hp:=mS_block hs
    subst e
    refine ⟨?_,fun x hx=> ?_⟩
    · rw [List.map_cons,List.nodup_cons]
      refine ⟨fun hm=> ?_,h1⟩
      obtain ⟨x,hx,hb⟩:=List.mem_map.1 hm
      rcases d y.2.1 with k | k
      · exact hp k
      · exact h2 x hx (by rw [hb];exact k)
    · intro hnone
      obtain ⟨k1,k2⟩:=un_none_iff.1 hnone
      rcases List.mem_cons.1 hx with rfl | hx
      · exact hp k1
      · exact h2 x hx k2
theorem own_nodup {bj:Nat} {Ms:List MS3} {R:HP} {w:World} (h:Own (ofList (mSs bj Ms)) R w):(Ms.map (·.2.1)).Nodup:=by
  obtain ⟨p,q,hp,_⟩:=own_sep.1 h
  exact (mSs_nodup hp).1
end Go.Sx
namespace Go.Sx
open Go.RowKit
def pk {Y:Type} (G:Y->List Slot) (ok:Y->Prop):Slot:=bun [] .none (fun y=>G y++ [pur (ok y)])
theorem pk_shut {Y:Type} {G:Y->List Slot} {ok:Y->Prop} {y:Y} (h:ok y) (l:List Slot):Imp (G y++l) (pk G ok::l):=by
  refine Imp.trans (.same fun p hp=> ?_) (bun_shut (F:=fun y=>G y++ [pur (ok y)]) y l)
  obtain ⟨p1,p2,ha,hb,d,rfl⟩:=(sep_append _ _).1 hp
  exact (sep_append _ _).2 ⟨p1,p2,sep_pur.2 ⟨ha,h⟩,hb,d,rfl⟩
theorem pk_open {Y:Type} {G:Y->List Slot} {ok:Y->Prop} {l:List Slot} {R:HP} {w:World} (h:Own (ofList (pk G ok::l)) R w): ∃y,ok y/\Own (ofList (G y++l)) R w:=by
  obtain ⟨y,hr⟩:=bun_open h
  obtain ⟨p,q,hp,hq,hw,hqw,d⟩:=own_sep.1 hr
  obtain ⟨p1,p2,ha,hb,d2,rfl⟩:=(sep_append _ _).1 hp
  obtain ⟨ha',hk⟩:=sep_pur.1 ha
  exact ⟨y,hk,own_sep.2 ⟨_,q,(sep_append _ _).2 ⟨p1,p2,ha',hb,d2,rfl⟩,hq,hw,hqw,d⟩⟩
theorem round_pk {P:Program} {l:Nat} {args:Array Value} {S:Slot} {Y:Type} {G:Y->List Slot} {ok ok' :Y->Prop}
    (h: ∀y,ok y->RoundT P l args (S::G y) Y (fun _=> .bool true) (fun z=>S::G z) ok'):RoundT P l args [S,pk G ok] Unit (fun _=> .bool true) (fun _=> [S,pk G ok']) (fun _=>True):=by
  intro R w ho
  obtain ⟨y,hy,ho2⟩:=pk_open (Imp.swap [S] [pk G ok] R w ho)
  obtain ⟨fn,tmps,asg,bd,hr,hk⟩:=h y hy R w (Imp.swap (G y) [S] R w ho2)
  refine ⟨fn,tmps,asg,bd,hr,hk.mono ?_⟩
  rintro e' w' ⟨z,hz,he,ho4,hx⟩
  exact ⟨(),trivial,he,Imp.swap [pk G ok'] [S] R w' (pk_shut hz [S] R w' (Imp.swap [S] (G z) R w' ho4)),hx⟩
theorem imp_tails: ∀ (Hs:List Slot) {a b:List Slot},Imp a b->Imp (Hs++a) (Hs++b)
  | [],_,_,h=>h
  | _::Hs,_,_,h=>Imp.tail _ (imp_tails Hs h)
theorem range_all {P:Program} {n:Nat} {g:Operand} {ps:Array Tmp} {A B:Code} {fr:Nat->Value} {gf:FuncId} {cap:Array Value} (Hs:List Slot) {len:Nat} (kv:Nat->Array Value) (hg:evalF fr g= .func (.func gf) #[] cap)
    (hit: ∀ (l:Nat) (rec:Loop) (T:Nat->Slot),(∀i,i<len->RoundT P l (kv i) [loopB l rec,T i] Unit (fun _=> .bool true) (fun _=> [loopB l rec,T (i+1)]) (fun _=>True))->
      CallT P gf (#[.func (.yield l) #[] #[]]++cap) (loopB l rec::(Hs++ [T 0])) Unit (fun _=>undef) (fun _=>loopB l rec::(Hs++ [T len])) (fun _=>True))
    {Y:Type} (G:Y->List Slot) (ok:Nat->Y->Prop)
    (hround: ∀ (l D:Nat) (fn:FuncId) (tmps:Array Value) (i:Nat) (y:Y),i<len->ok i y->tmps.size=n->(∀j,tmps.getD j undef=fr j)->
      RoundT P l (kv i) (loopB l (recOf fn tmps ps A B D)::G y) Y (fun _=> .bool true) (fun z=>loopB l (recOf fn tmps ps A B D)::G z) (ok (i+1)))
    (y0:Y) (h0:ok 0 y0) {G0:List Slot} (hi:Imp G0 (G y0)):
    RangeT P n g ps A B fr (Hs++G0) Y (fun y=>Hs++G y) (ok len):=by
  refine range_of (val:=fun _=>undef) hg fun l D fn tmps hz hf=> ?_
  refine (hit l (recOf fn tmps ps A B D) (fun i=>pk G (ok i)) fun i hi=>round_pk fun y hy=>hround l D fn tmps i y hi hy hz hf).imp ?_ ?_
  · refine Imp.tail _ (imp_tails Hs ?_)
    have h1:=pk_shut (G:=G) (ok:=ok 0) h0 []
    rw [List.append_nil] at h1
    exact hi.trans h1
  · intro _ R w _ ho
    have h1:Own (ofList ((loopB l (recOf fn tmps ps A B D)::Hs)++ [pk G (ok len)])) R w:=ho
    obtain ⟨y,hy,h2⟩:=pk_open (Imp.swap _ [pk G (ok len)] R w h1)
    exact ⟨y,hy,rfl,Imp.swap (G y) (loopB l (recOf fn tmps ps A B D)::Hs) R w h2⟩
theorem xlookup1 {P:Program} {t kt vt:TypeId} {Ok:Value->Prop} {z:Value} (T:TM P t kt vt Ok z) {r:Nat} {m:KV} (hm:KeysOk Ok m) {k:Value} (hk:Ok k):
    OpT P (do pure (.value (←Instr.lookup t (.map (some r)) k false))) [mo r m] Unit (fun _=>(mget m k).getD z) (fun _=> [mo r m]) (fun _=>True):=by
  intro R w ho
  obtain ⟨es,clock,⟨e,hbn⟩,ho'⟩:=mo_open ho
  have hb:=ho'.block (i:=0) rfl
  obtain ⟨o,hf,hspec⟩:=T.key.find k es.toList w hk (kvs_keys e hm)
  refine ⟨(),w,trivial, .inl ?_,ho,Ext.refl w⟩
  have hg:mget m k=o.map (·.2):=by
    rw [←e]
    cases o with
    | none=>exact hspec
    | some iv =>
      obtain ⟨x,h1,h2,h3,h4⟩:=hspec
      exact (mget_found h1 h2 h4).trans (by rw [h3];rfl)
  rw [hg]
  simp only [Instr.lookup,Sem.run_bind,run_underlying T.und,Result.andThen_ok,run_getMap hb,Sem.run_pure,T.key.check _ _ _ hk,hf]
  cases o with
  | none=>simp [T.zero w]
  | some iv=>simp
theorem getD_mem {l:List Value} {i:Nat} {d:Value} (h:i<l.length):l.getD i d∈l:=by
  rw [List.getD_eq_getElem?_getD,List.getElem?_eq_getElem h];exact List.getElem_mem h
theorem ilt_of {r:Row} (hl:vlen (sv r)=(vals r).length) {i:Nat} (h:decide (((i:Nat):Int)<((vlen (sv r):Nat):Int))=true):i<(vals r).length:=by
  simp only [decide_eq_true_eq] at h;omega
theorem wrap_succ {n N:Nat} (h:n<N) (hN:N<=1048576∨n<9223372036854775807):IntKind.i64.wrap (((n:Nat):Int)+1)=(((n+1:Nat):Nat):Int):=by
  unfold IntKind.wrap
  have:(n:Int)<9223372036854775807:=by omega
  simp [IntKind.bits,IntKind.signed]
  omega
end Go.Sx
namespace Go.Sx
open Go.RowKit
def rdK (k:Nat) (cs:Array Value) (o:Nat):Value:= .agg ((cs.toList.drop o).take k).toArray
theorem fl_drop {k:Nat}: ∀ {l:List Value} (_: ∀v∈l,Ag k v) (n:Nat),(fl l).drop (n*k)=fl (l.drop n)
  | [],_,n=>by simp [fl]
  | v::l,h,0=>by simp
  | v :: l, h, n + 1 => by
    rw [fl_cons,List.drop_succ_cons,←fl_drop (fun v hv=>h v (List.mem_cons_of_mem _ hv)) n,List.drop_append,(h v (List.mem_cons_self ..)).len]
    have h1:v.cells.toList.drop ((n+1)*k)= []:=List.drop_eq_nil_of_le (by rw [(h v (List.mem_cons_self ..)).len,Nat.succ_mul];omega)
    rw [h1,List.nil_append,Nat.succ_mul,Nat.add_sub_cancel]
theorem rdK_fl {k:Nat} {l:List Value} (h: ∀v∈l,Ag k v) {n:Nat} {x:Value} (hx:l[n]? =some x):rdK k (fl l).toArray (n*k)=x:=by
  have hd:l.drop n=x::l.drop (n+1):=by
    have hlt:n<l.length:=by
      rcases Nat.lt_or_ge n l.length with q | q
      · exact q
      · rw [List.getElem?_eq_none q] at hx;cases hx
    rw [List.getElem?_eq_getElem hlt] at hx
    injection hx with hx
    rw [←hx];exact List.drop_eq_getElem_cons hlt
  have hA:=h x (List.mem_of_getElem? hx)
  unfold rdK
  rw [List.toList_toArray,fl_drop h,hd,fl_cons,List.take_append_of_le_length (by rw [hA.len];exact Nat.le_refl _)]
  obtain ⟨cs,rfl,hcs⟩:=hA
  have:(cs.toList).length<=k:=by simp [hcs]
  simp only [Value.cells]
  rw [List.take_of_length_le this]
def kvals (k:Nat) (v:Value) (s:Slot):List Value:=(List.range (vlen v)).map fun i=>rdK k (scells s) (i*k)
theorem kvals_eq {k:Nat} (r:RK k) (e:TypeId):kvals k (sv r.1) (sk e r.1)=vals r.1:=by
  obtain ⟨r,hr⟩:=r
  cases r with
  | nil=>rfl
  | mk b vs ex =>
    unfold kvals
    apply List.ext_getElem?
    intro i
    simp only [sv,vlen,sk,scells,vals]
    rcases Nat.lt_or_ge i vs.length with q | q
    · have hx:(vs++ex)[i]? =some vs[i]:=by rw [List.getElem?_append_left q,List.getElem?_eq_getElem q]
      rw [List.getElem?_map,List.getElem?_range q,Option.map_some,rdK_fl hr hx,List.getElem?_eq_getElem q]
    · rw [List.getElem?_eq_none (by simpa using q),List.getElem?_eq_none q]
def F_appK (k:Nat) (e:TypeId):List Value->List Slot->Ctr:=fun vs hs=>⟨RK k,fun y=>sv y.1,fun y=> [sk e y.1,sarg hs 1],fun y=>vals y.1=kvals k (varg vs 0) (sarg hs 0)++ [.agg (scells (sarg hs 1))]⟩
theorem xappendK {P:Program} {t e:TypeId} {k:Nat} {z:Value} (h:SkT P t e k z) (ty:TypeId) (r:RK k) (hl:(vals r.1).length<=1073741824) (c m:Nat) (cs:Array Value) (hx:cs.size=k) (h2: ∀u∈cs.toList,u.oneCell' =true):
    OpT P (do pure (.value (←Builtin.append_ #[t,t] ty #[sv r.1, .slice (some ⟨c,0,none⟩) 1 m]))) [sk e r.1, .blk c (.cells cs e (0,0))] (RK k) (fun y=>sv y.1) (fun y=> [sk e y.1, .blk c (.cells cs e (0,0))]) (fun y=>vals y.1=kvals k (sv r.1) (sk e r.1)++ [.agg cs]):=by
  rw [kvals_eq]
  exact xappK h ty r hl c m (.agg cs) ⟨cs,rfl,hx⟩ h2
theorem wit_appK {k:Nat} {l:List Value} {cs:Array Value} (hl: ∀v∈l,Ag k v) (hx:cs.size=k): ∃y:RK k,(fun y:RK k=>vals y.1=l++ [.agg cs]) y:=
  ⟨⟨.mk 0 (l ++ [.agg cs]) [], fun v hv => by
    simp only [List.append_nil] at hv
    rcases List.mem_append.1 hv with h | h
    · exact hl v h
    · simp at h;subst h;exact ⟨cs,rfl,hx⟩⟩,rfl⟩
theorem RK.all {k:Nat} (r:RK k): ∀v∈vals r.1,Ag k v:=by
  obtain ⟨r,hr⟩:=r
  cases r with
  | nil=>intro v hv;cases hv
  | mk b vs ex=>exact fun v hv=>hr v (List.mem_append_left _ hv)
theorem kvals_all {k:Nat} (r:RK k) (e:TypeId): ∀v∈kvals k (sv r.1) (sk e r.1),Ag k v:=by rw [kvals_eq];exact r.all
def F_getK (k:Nat) {X:Type} (val:X->Value):List Value->List Slot->Ctr:=fun vs hs=>⟨X,val,fun _=>hs,fun zx=>rdK k (scells (sarg hs 0)) (voff (varg vs 0))=val zx⟩
theorem rdK_row {k:Nat} (r:RK k) (e:TypeId) {n:Nat} {x:Value} (hx:(vals r.1)[n]? =some x):rdK k (scells (sk e r.1)) (n*k)=x:=by
  obtain ⟨r,hr⟩:=r
  cases r with
  | nil=>simp [vals] at hx
  | mk b vs ex =>
    simp only [vals] at hx
    have hn:n<vs.length:=by
      rcases Nat.lt_or_ge n vs.length with q | q
      · exact q
      · rw [List.getElem?_eq_none q] at hx;cases hx
    exact rdK_fl hr (by rw [List.getElem?_append_left hn,hx])
theorem xgetKV {P:Program} {t e:TypeId} {k:Nat} {z:Value} (h:SkT P t e k z) {X:Type} (val:X->Value) (r:RK k) (n:Nat) (hx: ∃x0,(vals r.1)[n]? =some (val x0)):
    OpT P (do pure (.value (←Instr.loadAt e (.pointer (some ⟨vblk (sv r.1),n*k,none⟩))))) [sk e r.1] X val (fun _=> [sk e r.1]) (fun x=>rdK k (scells (sk e r.1)) (n*k)=val x):=by
  obtain ⟨x0,hx⟩:=hx
  intro R w ho
  obtain ⟨_,w',_,hr,ho',he⟩:=xgetK h r n (val x0) hx R w ho
  exact ⟨x0,w',rdK_row r e hx,hr,ho',he⟩
theorem wgetKV {e:TypeId} {k:Nat} {X:Type} {val:X->Value} {r:RK k} {n:Nat} (hx: ∃x0,(vals r.1)[n]? =some (val x0)): ∃x,(fun x=>rdK k (scells (sk e r.1)) (n*k)=val x) x:=
  let ⟨x0,h⟩:=hx;⟨x0,rdK_row r e h⟩
theorem egetKV {e:TypeId} {k:Nat} {X:Type} {val:X->Value} {r:RK k} {n:Nat} (hx: ∃x0,(vals r.1)[n]? =some (val x0)) {x:X} (h:rdK k (scells (sk e r.1)) (n*k)=val x):(vals r.1)[n]? =some (val x):=by
  obtain ⟨x0,h0⟩:=hx
  rw [←h,rdK_row r e h0];exact h0
theorem int_at {kk:IntKind} {l:List Value} (h: ∀v∈l,∃n:Int,v= .int kk n) {n:Nat} (hn:n<l.length): ∃x:Int,l[n]? =some (.int kk x):=by
  obtain ⟨x,hx⟩:=h _ (List.getElem_mem hn)
  exact ⟨x,by rw [List.getElem?_eq_getElem hn,hx]⟩
abbrev p2V (x:Int×Int):Value:= .agg #[.int .i64 x.1, .int .i64 x.2]
noncomputable def pairsOf (z:Value) (m:KV) (l:List Value):List Value:=l.map fun k=> .agg #[k,(mget m k).getD z]
theorem round_conv {P:Program} {l:Nat} {a b:Array Value} {Hs:List Slot} {X:Type} {val:X->Value} {us:X->List Slot} {Φ Ψ:X->Prop} (h:RoundT P l b Hs X val us Φ) (e:a=b) (hp: ∀x,Φ x->Ψ x):RoundT P l a Hs X val us Ψ:=by
  subst e
  intro R w ho
  obtain ⟨fn,tmps,asg,bd,hr,hk⟩:=h R w ho
  exact ⟨fn,tmps,asg,bd,hr,hk.mono fun _ _ ⟨x,hx,he,ho',hext⟩=>⟨x,hp x hx,he,ho',hext⟩⟩
theorem kok_val {K:MK} {m:KV} (hk:KOK K m) {z:Value} (hz:K.OkV z) (k:Value):K.OkV ((mget m k).getD z):=by
  cases hg:mget m k with
  | none=>exact hz
  | some v=>exact (hk.ok _ (mget_mem hg)).2
theorem imp_free2 {a b:Slot}:Imp [a,b] [a,b, .free]:= .same fun p hp=>(sep_free (a:= [a,b])).2 hp
end Go.Sx
namespace Go.Sx
abbrev M256:Int:=115792089237316195423570985008687907853269984665640564039457584007913129639936
def kk (t p:Int):Value:= .agg #[.int .u8 t, .int .u8 p]
theorem kk_inj {t p t' p' :Int}:kk t p=kk t' p' ↔t=t' /\p=p' :=by
  unfold kk;constructor
  · intro h;simp at h;exact h
  · rintro ⟨rfl,rfl⟩;rfl
noncomputable def bal (m:KV) (t p:Int):Int:=num ((mget m (kk t p)).getD (vI 0))
noncomputable def sup (m:KV) (t:Int):Int:=num ((mget m (.int .u8 t)).getD (vI 0))
noncomputable def mput (m:KV) (k:Value) (n:Int):KV:=if n=0 then mdel m k else mset m k (vI n)
abbrev BS:=KV×KV×List Ent
noncomputable def putL (e:Ent) (m:KV) (k:Value) (n:Int) (L:List Ent):List Ent:=if n=0 then (if (mget m k).isSome then L++ [e] else L) else L++ [e]
noncomputable def bPut (eb:KV->Value->Ent) (s:BS) (k:Value) (n:Int):BS:=(mput s.1 k n,s.2.1,putL (eb s.1 k) s.1 k n s.2.2)
noncomputable def bSup (es:KV->Value->Ent) (s:BS) (t n:Int):BS:=(s.1,mset s.2.1 (.int .u8 t) (vI n),s.2.2++ [es s.2.1 (.int .u8 t)])
def bw1 (t p n:Int):Int:=if 4<=t∨18<=p then 1 else if n=0 then 3 else 0
def bw2 (t p q n:Int):Int:=if 4<=t∨18<=p∨18<=q then 1 else if n=0 then 3 else 0
noncomputable def bMint (eb es:KV->Value->Ent) (s:BS) (t p n:Int):Int×BS:=
  if bw1 t p n≠0 then (bw1 t p n,s) else if M256<=sup s.2.1 t+n then (2,s) else
  (0,bPut eb (bSup es s t (sup s.2.1 t+n)) (kk t p) (hAdd (bal s.1 t p) n).1)
noncomputable def bBurn (eb es:KV->Value->Ent) (s:BS) (t p n:Int):Int×BS:=
  if bw1 t p n≠0 then (bw1 t p n,s) else if bal s.1 t p<n then (8,s) else
  (0,bPut eb (bSup es s t (hSub (sup s.2.1 t) n).1) (kk t p) (bal s.1 t p - n))
noncomputable def bMove (eb:KV->Value->Ent) (s:BS) (t p q n:Int):Int×BS:=
  if bw2 t p q n≠0 then (bw2 t p q n,s) else if bal s.1 t p<n then (8,s) else
  (0,bPut eb (bPut eb s (kk t p) (bal s.1 t p - n)) (kk t q) (hAdd (bal (bPut eb s (kk t p) (bal s.1 t p - n)).1 t q) n).1)
theorem putL_len (e:Ent) (m:KV) (k:Value) (n:Int) (L:List Ent):L.length<=(putL e m k n L).length/\(putL e m k n L).length<=L.length+1:=by
  unfold putL;split
  · split<;>simp
  · simp
theorem bPut_len (eb:KV->Value->Ent) (s:BS) (k:Value) (n:Int):s.2.2.length<=(bPut eb s k n).2.2.length/\(bPut eb s k n).2.2.length<=s.2.2.length+1:=putL_len _ _ _ _ _
theorem bSup_len (es:KV->Value->Ent) (s:BS) (t n:Int):(bSup es s t n).2.2.length=s.2.2.length+1:=by simp [bSup]
theorem mget_put {m:KV} (h:MOK m) (k:Value) (n:Int) (k' :Value):mget (mput m k n) k' =if k' =k then (if n=0 then none else some (vI n)) else mget m k' :=by
  unfold mput
  by_cases hn:n=0
  · rw [if_pos hn,mget_del h];simp [hn]
  · rw [if_neg hn,mget_set];simp [hn]
theorem bal_put {m:KV} (h:MOK m) {t p n:Int} (hn:R4 n) (t' p' :Int):bal (mput m (kk t p) n) t' p' =if t' =t/\p' =p then n else bal m t' p' :=by
  unfold bal
  rw [mget_put h]
  by_cases e:t' =t/\p' =p
  · rw [if_pos (kk_inj.2 e),if_pos e]
    by_cases hz:n=0
    · subst hz;simp [num_vI R4_zero]
    · simp [hz,num_vI hn]
  · rw [if_neg (fun x=>e (kk_inj.1 x)),if_neg e]
theorem sup_set (m:KV) {t n:Int} (hn:R4 n) (t' :Int):sup (mset m (.int .u8 t) (vI n)) t' =if t' =t then n else sup m t' :=by
  unfold sup
  rw [mget_set]
  by_cases e:t' =t
  · rw [if_pos (by rw [e]),if_pos e];exact num_vI hn
  · rw [if_neg (by intro x;injection x with _ x;exact e x),if_neg e]
def NumK (K:MK):Prop:= ∀x,K.OkV x↔ ∃v,R4 v/\x=vI v
theorem KOK.R4v {K:MK} (hK:NumK K) {m:KV} (h:KOK K m) (k:Value):R4 (num ((mget m k).getD (vI 0))):=by
  cases hg:mget m k with
  | none=>rw [Option.getD_none,num_vI R4_zero];exact R4_zero
  | some x =>
    obtain ⟨v,hv,rfl⟩:=(hK x).1 (h.val hg)
    rw [Option.getD_some,num_vI hv];exact hv
theorem KOK.put {K:MK} (hK:NumK K) {m:KV} (h:KOK K m) {k:Value} (hk:K.OkK k) {n:Int} (hn:R4 n):KOK K (mput m k n):=by
  unfold mput;split
  · exact h.del k
  · exact h.set hk ((hK _).2 ⟨n,hn,rfl⟩)
end Go.Sx
namespace Go.Sx
theorem dgt_out {l:List Int} {n:Nat} (h:l.length<=n):dgt l n=0:=by
  rw [dgt,List.getD_eq_getElem?_getD,List.getElem?_eq_none h];rfl
structure TrimR (l m:List Int):Prop where
  eq:nv m=nv l
  canon:Canon m
  len:m.length<=l.length
structure TrimI (l:List Int) (n:Nat):Prop where
  le:n<=l.length
  eq:nv (l.take n)=nv l
theorem trim_start (l:List Int):TrimI l l.length:=⟨Nat.le_refl _,by rw [List.take_length]⟩
theorem trim_step {l:List Int} {n:Nat} (h:TrimI l n) (h0:0<n) (hd:dgt l (n - 1)=0):TrimI l (n - 1):=by
  refine ⟨by have:=h.le;omega,?_⟩
  have e:=nv_take_succ l (n - 1)
  rw [show n - 1+1=n from by omega,hd,Int.mul_zero,Int.add_zero] at e
  rw [←e];exact h.eq
theorem trim_end {l:List Int} {n:Nat} (h:TrimI l n) (hd:n=0∨dgt l (n - 1)≠0):TrimR l (l.take n):=by
  refine ⟨h.eq,?_,by simp;have:=h.le;omega⟩
  unfold Canon
  rcases hd with rfl | hd
  · simp
  · rcases Nat.eq_zero_or_pos n with rfl | hp
    · simp
    · have hl:=h.le
      rw [List.getLast?_eq_getElem?,List.length_take,Nat.min_eq_left hl,List.getElem?_take_of_lt (by omega)]
      intro hx
      exact hd (by rw [dgt,List.getD_eq_getElem?_getD,hx];rfl)
theorem wit_trim (a:Row) (h:RowOK a): ∃x:Row,(fun zx=>RowOK zx/\ss 3 zx=ss 3 a/\TrimR (rdv (sv a) (ss 3 a)) (dg zx)) x:=by
  rw [rdv_eq]
  have key: ∀n,TrimI (dg a) n-> ∃m,TrimI (dg a) m/\(m=0∨dgt (dg a) (m - 1)≠0):=by
    intro n
    induction n with
    | zero=>exact fun h=>⟨0,h, .inl rfl⟩
    | succ n ih =>
      intro h
      rcases Classical.em (dgt (dg a) n=0) with h' | h'
      · exact ih (trim_step h (by omega) h')
      · exact ⟨n+1,h, .inr h'⟩
  obtain ⟨m,hm,he⟩:=key _ (trim_start _)
  refine ⟨a.take m,(h.take m).1,ss_take _ _ _,?_⟩
  rw [(h.take m).2]
  exact trim_end hm he
structure CmpI (a b:List Int) (n:Nat):Prop where
  le:n<=max a.length b.length
  eq:nv (a.drop n)=nv (b.drop n)
theorem cmp_start (a b:List Int):CmpI a b (max a.length b.length):=
  ⟨Nat.le_refl _,by rw [List.drop_of_length_le (by omega),List.drop_of_length_le (by omega)]⟩
theorem nv_split' (l:List Int) (n:Nat):nv l=nv (l.take n)+P16 n*nv (l.drop n):=by
  rcases Nat.lt_or_ge l.length n with h | h
  · rw [List.take_of_length_le (by omega),List.drop_of_length_le (by omega)];simp [nv]
  · exact nv_split l n h
theorem nv_take_lt {l:List Int} (h:Dig l) (n:Nat):0<=nv (l.take n)/\nv (l.take n)<P16 n:=
  ⟨nv_nonneg (h.take n),Int.lt_of_lt_of_le (nv_lt (h.take n)) (P16_mono (by simp;omega))⟩
theorem cmp_step {a b:List Int} {n:Nat} (h:CmpI a b n) (h0:0<n) (hd:dgt a (n - 1)=dgt b (n - 1)):CmpI a b (n - 1):=by
  refine ⟨by have:=h.le;omega,?_⟩
  rw [nv_drop_dgt a,nv_drop_dgt b,hd,show n - 1+1=n from by omega,h.eq]
theorem cmp_lt {a b:List Int} (ha:Dig a) (hb:Dig b) {n:Nat} (h:CmpI a b n) (h0:0<n) (hd:dgt a (n - 1)<dgt b (n - 1)):nv a<nv b:=by
  have e1:=nv_split' a (n - 1);have e2:=nv_split' b (n - 1)
  rw [nv_drop_dgt a,show n - 1+1=n from by omega] at e1
  rw [nv_drop_dgt b,show n - 1+1=n from by omega,←h.eq] at e2
  have t1:=nv_take_lt ha (n - 1);have t2:=nv_take_lt hb (n - 1)
  have hp:=P16_pos (n - 1)
  have:=Int.mul_le_mul_of_nonneg_left (show dgt a (n - 1)+65536*nv (a.drop n)+1<=dgt b (n - 1)+65536*nv (a.drop n) by omega) (Int.le_of_lt hp)
  rw [Int.mul_add] at this
  omega
theorem cmp_end {a b:List Int} (h:CmpI a b 0):nv a=nv b:=by simpa using h.eq
theorem CmpI.symm {a b:List Int} {n:Nat} (h:CmpI a b n):CmpI b a n:=⟨by have:=h.le;omega,h.eq.symm⟩
theorem hCmp_lt {a b:Int} (h:a<b): -1=hCmp a b:=by unfold hCmp;rw [if_pos h]
theorem hCmp_gt {a b:Int} (h:b<a):1=hCmp a b:=by unfold hCmp;rw [if_neg (by omega),if_pos h]
theorem hCmp_eq {a b:Int} (h:a=b):0=hCmp a b:=by unfold hCmp;rw [if_neg (by omega),if_neg (by omega)]
structure AddI (a b:List Int) (i:Nat) (c:Int) (o:List Int):Prop where
  le:i<=max a.length b.length+1
  len:o.length=i
  c0:0<=c
  c1:c<=1
  ends:max a.length b.length<i->c=0
  eq:nv o+P16 i*c=nv (a.take i)+nv (b.take i)
theorem add_start (a b:List Int):AddI a b 0 0 []:=⟨by omega,rfl,by omega,by omega,by omega,by simp [nv]⟩
theorem add_step {a b o:List Int} {i:Nat} {c x:Int} (ha:Dig a) (hb:Dig b) (h:AddI a b i c o) (hx:x=dgt a i+dgt b i+c) (hlt:(i<max a.length b.length)∨0<c):
    AddI a b (i+1) (x/65536) (o++ [x%65536])/\0<=x%65536/\x%65536<65536:=by
  obtain ⟨h1,h2,h3,h4,h5,h6⟩:=h
  have da:=ha.dgt i;have db:=hb.dgt i
  refine ⟨⟨?_,by simp [h2],by omega,by omega,?_,?_⟩,by omega,by omega⟩
  · rcases Nat.lt_or_ge (max a.length b.length) i with h' | h'
    · have:=h5 h';omega
    · omega
  · intro h'
    have e1:dgt a i=0:=dgt_out (by omega)
    have e2:dgt b i=0:=dgt_out (by omega)
    omega
  · rw [nv_snoc,h2,nv_take_succ,nv_take_succ,P16_succ,Int.mul_comm 65536,Int.mul_assoc]
    have e:P16 i*(dgt a i+dgt b i+c)=P16 i*(x%65536)+P16 i*(65536*(x/65536)):=by rw [←Int.mul_add,←hx];congr 1;omega
    rw [Int.mul_add,Int.mul_add] at e
    omega
theorem add_end {a b o:List Int} {i:Nat} {c:Int} (h:AddI a b i c o) (hi:max a.length b.length<=i) (hc:c<=0):nv o=nv a+nv b:=by
  have e:=h.eq
  have:c=0:=by have:=h.c0;omega
  rw [this,Int.mul_zero,Int.add_zero,nv_take_all a i (by omega),nv_take_all b i (by omega)] at e
  exact e
structure SubI (a b:List Int) (i:Nat) (c:Int) (o:List Int):Prop where
  le:i<=a.length
  len:o.length=i
  c0:0<=c
  c1:c<=1
  eq:nv o=nv (a.take i) - nv (b.take i)+P16 i*c
theorem sub_start (a b:List Int):SubI a b 0 0 []:=⟨by omega,rfl,by omega,by omega,by simp [nv]⟩
theorem sub_go {a b o:List Int} {i:Nat} {c x c' :Int} (ha:Dig a) (hb:Dig b) (h:SubI a b i c o) (hi:i<a.length) (hx:x=dgt a i - dgt b i - c+65536*c') (h0:0<=x) (h1:x<65536) (c0:0<=c') (c1:c' <=1):
    SubI a b (i+1) c' (o++ [x]):=by
  obtain ⟨h1,h2,h3,h4,h6⟩:=h
  refine ⟨by omega,by simp [h2],by omega,by omega,?_⟩
  rw [nv_snoc,h2,nv_take_succ,nv_take_succ,P16_succ,h6,hx,Int.mul_add,Int.mul_sub,Int.mul_sub,Int.mul_comm 65536 (P16 i),Int.mul_assoc]
  omega
theorem sub_end {a b o:List Int} {c:Int} (ha:Dig a) (hb:Dig b) (ho:Dig o) (h:SubI a b a.length c o) (hle:nv b<=nv a):nv o=nv a - nv b:=by
  have e:=h.eq
  rw [nv_take_all a _ (Nat.le_refl _)] at e
  have e2:=nv_split' b a.length
  have la:=nv_lt ha
  have lb:=nv_take_lt hb a.length
  have lo:=nv_lt ho
  rw [h.len] at lo
  have d0:=nv_nonneg (hb.drop a.length)
  have n0:=nv_nonneg ho
  have hp:=P16_pos a.length
  have hd:nv (b.drop a.length)=0:=by
    rcases Int.lt_or_le 0 (nv (b.drop a.length)) with h' | h'
    · have:=Int.mul_le_mul_of_nonneg_left (Int.add_one_le_of_lt h') (Int.le_of_lt hp)
      simp at this;omega
    · omega
  rw [hd] at e2
  have c0:=h.c0;have c1:=h.c1
  have hc:c=0:=by
    rcases Int.lt_or_le 0 c with h' | h'
    · have:c=1:=by omega
      subst this;omega
    · omega
  subst hc;omega
end Go.Sx
namespace Go.Sx
theorem ex_digits : ∀ (k n : Nat), n <= k -> ∃ l : List Int, Dig l /\ nv l = (n : Int) /\ Canon l
  | k,0,_=>⟨[],Dig.nil,rfl,by simp [Canon]⟩
  | 0,n+1,h=>by omega
  | k + 1, n + 1, h => by
    obtain ⟨l,hd,hv,hc⟩:=ex_digits k ((n+1)/65536) (by omega)
    refine ⟨(((n+1)%65536:Nat):Int)::l,?_,?_,?_⟩
    · intro d hd'
      rcases List.mem_cons.1 hd' with rfl | h'
      · omega
      · exact hd d h'
    · simp only [nv,hv];omega
    · cases l with
      | nil =>
        simp only [nv] at hv
        intro h0
        simp at h0
        omega
      | cons x l=>simpa [Canon] using hc
theorem wit_row {n:Int} (h:0<=n): ∃x:Row,(fun zx=>RowOK zx/\nv (dg zx)=n/\Canon (dg zx)) x:=by
  obtain ⟨l,hd,hv,hc⟩:=ex_digits n.toNat n.toNat (Nat.le_refl _)
  obtain ⟨h1,h2⟩:=RowOK.of (r:= .mk 0 (l.map (.int .i64)) []) rfl hd
  exact ⟨_,h1,by rw [h2,hv];omega,by rw [h2];exact hc⟩
theorem quo_i64 {x:Int} (h0:0<=x) (h1:x<=9223372036854775807):IntKind.i64.wrap (Int.tdiv x 65536)=x/65536:=by
  rw [Int.tdiv_eq_ediv_of_nonneg h0,wrap_i64 _ (by omega) (by omega)]
end Go.Sx
namespace Go.Sx
structure MulO (a b:List Int) (i:Nat) (o:List Int):Prop where
  le:i<=a.length
  len:o.length=a.length+b.length
  eq:nv o=nv (a.take i)*nv b
  z:nv (o.drop (i+b.length))=0
structure MulN (a b:List Int) (i k:Nat) (c:Int) (o:List Int):Prop where
  le:k<=b.length
  len:o.length=a.length+b.length
  c0:0<=c
  c1:c<65536
  eq:nv o+P16 (i+k)*c=nv (a.take i)*nv b+P16 i*(dgt a i*nv (b.take k))
  z:nv (o.drop (i+b.length))=0
end Go.Sx
namespace Go.Sx
theorem snoc3 {r y:Row} {k:Nat} {n x p:Int} (h:RowOK r/\(dg r).length=k/\nv (dg r)=n) (hp:P16 k=p) (hy:vals y=vals r++ [.int .i64 x]) (h0:0<=x) (h1:x<65536):
    RowOK y/\(dg y).length=k+1/\nv (dg y)=n+p*x:=by
  obtain ⟨q1,q2⟩:=h.1.snoc h0 h1 hy
  refine ⟨q1,by rw [q2];simp [h.2.1],?_⟩
  rw [q2,nv_snoc,h.2.1,h.2.2,hp]
theorem nil3:RowOK .nil/\(dg .nil).length=0/\nv (dg .nil)=0:=⟨RowOK.nil,rfl,rfl⟩
theorem quo_u16 {x:Int} (h:W x):IntKind.u64.wrap (Int.tdiv x 65536)=x/65536:=by
  rw [Int.tdiv_eq_ediv_of_nonneg h.1,wrap_u64];unfold W at h;omega
theorem W_div {x:Int} (h:W x):W (x/65536):=by unfold W at *;omega
theorem wit_num {n:Int} (h:R4 n): ∃x:Row,(fun zx=>RowOK zx/\nv (dg zx)=n/\Canon (dg zx)/\(dg zx).length<=16) x:=by
  obtain ⟨x,h1,h2,h3⟩:=wit_row h.1
  refine ⟨x,h1,h2,h3,canon_len h1.dig h3 ?_⟩
  rw [h2,show P16 16=115792089237316195423570985008687907853269984665640564039457584007913129639936 from rfl];exact h.2
theorem num_len {l:List Int} {n:Int} (hd:Dig l) (hc:Canon l) (hn:nv l=n) (h:R4 n):l.length<=16:=by
  refine canon_len hd hc ?_
  rw [hn,show P16 16=115792089237316195423570985008687907853269984665640564039457584007913129639936 from rfl];exact h.2
theorem conv16 (x:Int):IntKind.i64.wrap (x%65536)=x%65536:=wrap_i64 _ (by omega) (by omega)
theorem m16_0 (x:Int):0<=x%65536:=by omega
theorem m16_1 (x:Int):x%65536<65536:=by omega
theorem limb_digits {x:Int} (h:W x):x%65536+65536*(x/65536%65536)+4294967296*(x/65536/65536%65536)+281474976710656*(x/65536/65536/65536%65536)=x:=by
  unfold W at h;omega
end Go.Sx
namespace Go.Sx
theorem OpT.ofPure {P:Program} {m:Sem Next} {v v' :Value} (h:PureRun P m v) (e:v=v'):OpT P m [] Unit (fun _=>v') (fun _=> []) (fun _=>True):=
  fun _ w hO=>⟨(),w,trivial, .inl (by rw [h w,e]),hO,Ext.refl w⟩
theorem len40 {l:List Int} {n:Int} (hd:Dig l) (hc:Canon l) (hn:nv l=n) (h:n<179769313486231590772930519078902473361797697894230657273430081157732675805500963132708477322407536021120113879871393357658789768814416622492847430639474124377767893424865485276302219601246094119453082952085005768838150682342462881473913110540827237163350510684586298239947245938479716304835356329624224137216):l.length<=64:=by
  refine canon_len hd hc ?_
  rw [hn,show P16 64=179769313486231590772930519078902473361797697894230657273430081157732675805500963132708477322407536021120113879871393357658789768814416622492847430639474124377767893424865485276302219601246094119453082952085005768838150682342462881473913110540827237163350510684586298239947245938479716304835356329624224137216 from rfl]
  exact h
theorem wide_num {n:Int} (h:R8 n):n<179769313486231590772930519078902473361797697894230657273430081157732675805500963132708477322407536021120113879871393357658789768814416622492847430639474124377767893424865485276302219601246094119453082952085005768838150682342462881473913110540827237163350510684586298239947245938479716304835356329624224137216:=Int.lt_trans h.2 (by decide)
end Go.Sx
namespace Go.Sx
open Go.RowKit Go.ChangeShapes Go.WideShapes
section
variable {H:Type} {enc:TypeId×Value->H} {P:Program}
theorem list4 {α:Type} {l:List α} (h:l.length=4): ∃a b c d,l= [a,b,c,d]:=by
  match l,h with
  | [a,b,c,d],_=>exact ⟨a,b,c,d,rfl⟩
theorem wf_W {n:Int} (h:(Lit.int .u64 n).wf=true):W n:=by
  simp [Lit.wf,IntKind.min,IntKind.max,IntKind.signed,IntKind.bits] at h
  unfold W;omega
end
end Go.Sx
namespace Go.Sx
open Go.RowKit Go.ChangeShapes Go.WideShapes
section
variable {H:Type} {enc:TypeId×Value->H} {P:Program}
end
end Go.Sx
namespace Go.Sx
open Go.RowKit Go.ChangeShapes Go.WideShapes
section
variable {H:Type} {enc:TypeId×Value->H} {P:Program}
theorem cells_get {w:World} {base:Nat} {a:Addr} {n:Nat} {cs:List Value} (h:w.cells? base a n=some cs):cs.length=n/\ ∀j c,cs[j]? =some c->w.cell? (a.add j)=some c:=by
  unfold World.cells? at h
  split at h
  · have hl:=mapM_some_length h
    simp at hl
    refine ⟨hl,fun j c hj=> ?_⟩
    have hlt:j<n:=by
      have:=(List.getElem?_eq_some_iff.1 hj).1;omega
    have:=mapM_some_get h j j (by simp [hlt])
    rw [this];exact hj
  · cases h
def Opens (P : Program) (t : TypeId) (n : Nat) {X : Type} (val : X -> Value) (Ok : X -> Prop) : Prop :=
  ∀ (H : Type) (enc : TypeId × Value -> H) (W : World) (base : Nat) (sp : Nat -> Bool) (held : Bool) (fuel : Nat) (cs : List Value) (y : DataW H × List MemPlace),
    cs.length=n->DataW.trod enc P W base sp held fuel t cs=some y-> ∃x,cs=(val x).cells.toList/\Ok x
theorem add_add_spot {a:Addr} (hs:a.spot=none) (i j:Nat):(a.add i).add j=⟨a.block,a.off+i+j,none⟩:=by
  obtain ⟨b,o,s⟩:=a
  simp only at hs;subst hs
  unfold Addr.add
  by_cases hi:i=0<;>by_cases hj:j=0<;>simp [hi,hj]
theorem opens_int {t:TypeId} {k:IntKind} (hu:P.underlying t=some (.int k)):Opens P t 1 (Value.int k) (fun n=>(Lit.int k n).wf=true):=by
  intro H enc W base sp held fuel cs y hl h
  obtain ⟨n,rfl,_,hw⟩:=DataW.trod_int hu h
  exact ⟨n,rfl,hw⟩
theorem opens_num {t e:TypeId} (hu:P.underlying t=some (.array 4 e)) (he:P.underlying e=some (.int .u64)) (hc:P.cellsOf e=1) (hk:P.cellsOf t=4):Opens P t 4 vI R4:=by
  intro H enc W base sp held fuel cs y hl hf
  obtain ⟨a0,a1,a2,a3,rfl⟩:=list4 hl
  cases fuel with
  | zero=>simp [DataW.trod] at hf
  | succ m =>
    rw [DataW.trod_step] at hf
    unfold DataW.trodStep at hf
    have hr:List.range 4= [0,1,2,3]:=rfl
    simp only [hu,hc,hk,hr,List.mapM_cons,List.mapM_nil,bind,Option.bind_eq_some_iff,pure,Option.map_eq_some_iff] at hf
    simp only [List.length_cons,List.length_nil,List.drop_zero,Nat.zero_mul,Nat.one_mul,Nat.mul_one,List.drop_succ_cons,List.take_succ_cons,List.take_zero,if_true] at hf
    have one: ∀ (a:Value) (x:DataW H×List MemPlace),DataW.trod enc P W base sp held m e [a]=some x-> ∃n,a= .int .u64 n/\(Lit.int .u64 n).wf=true:=by
      intro a x hx
      obtain ⟨n,h1,h2,h3⟩:=DataW.trod_int he hx
      exact ⟨n,by simpa using h1,h3⟩
    cases h0:DataW.trod enc P W base sp held m e [a0] with
    | none=>rw [h0] at hf;cases hf
    | some y0=>
    cases h1:DataW.trod enc P W base sp held m e [a1] with
    | none=>rw [h0,h1] at hf;cases hf
    | some y1=>
    cases h2:DataW.trod enc P W base sp held m e [a2] with
    | none=>rw [h0,h1,h2] at hf;cases hf
    | some y2=>
    cases h3:DataW.trod enc P W base sp held m e [a3] with
    | none=>rw [h0,h1,h2,h3] at hf;cases hf
    | some y3=>
    obtain ⟨n0,rfl,w0⟩:=one _ _ h0
    obtain ⟨n1,rfl,w1⟩:=one _ _ h1
    obtain ⟨n2,rfl,w2⟩:=one _ _ h2
    obtain ⟨n3,rfl,w3⟩:=one _ _ h3
    refine ⟨num (.agg #[.int .u64 n0, .int .u64 n1, .int .u64 n2, .int .u64 n3]),?_,R4_num4 (wf_W w0) (wf_W w1) (wf_W w2) (wf_W w3)⟩
    rw [vI_num4 (wf_W w0) (wf_W w1) (wf_W w2) (wf_W w3)];rfl
end
end Go.Sx
namespace Go.Sx
noncomputable def nz (m:KV) (k:Int):Int:=ci ((mget m (.int .u8 k)).getD (.int .u64 0))
theorem nz_nil (k:Int):nz [] k=0:=rfl
theorem nz_set (m:KV) (k v k' :Int):nz (mset m (.int .u8 k) (.int .u64 v)) k' =if k' =k then v else nz m k' :=by
  unfold nz
  rw [mget_set]
  by_cases h:k' =k
  · rw [if_pos (by rw [h]),if_pos h];rfl
  · rw [if_neg (by intro e;injection e with _ e;exact h e),if_neg h]
noncomputable def tryOk (m:KV) (k n:Int):Int×KV:=if 16<=k then (1,m) else if n≠nz m k then (9,m) else (0,mset m (.int .u8 k) (.int .u64 (IntKind.u64.wrap (n+1))))
theorem tryOk_arg {m:KV} {k n:Int} (h:16<=k):tryOk m k n=(1,m):=if_pos h
theorem tryOk_nonce {m:KV} {k n:Int} (h: ¬16<=k) (h2:n≠nz m k):tryOk m k n=(9,m):=by unfold tryOk;rw [if_neg h,if_pos h2]
theorem tryOk_ok {m:KV} {k n:Int} (h: ¬16<=k) (h2:n=nz m k):tryOk m k n=(0,mset m (.int .u8 k) (.int .u64 (IntKind.u64.wrap (n+1)))):=by unfold tryOk;rw [if_neg h,if_neg (by simp [h2])]
theorem wf_wrapu (n:Int):(Lit.int .u64 (IntKind.u64.wrap n)).wf=true:=by
  have:=W_wrap n
  unfold W at this
  simp [Lit.wf,IntKind.min,IntKind.max,IntKind.signed,IntKind.bits];omega
theorem wf8 {n:Int} (h:(Lit.int .u8 n).wf=true):0<=n/\n<=255:=by
  simp [Lit.wf,IntKind.min,IntKind.max,IntKind.signed,IntKind.bits] at h;omega
theorem wf64 {n:Int} (h:(Lit.int .u64 n).wf=true):0<=n/\n<=18446744073709551615:=by
  simp [Lit.wf,IntKind.min,IntKind.max,IntKind.signed,IntKind.bits] at h;omega
theorem wrap_u8 (n:Int) (h0:0<=n) (h1:n<=255):IntKind.u8.wrap n=n:=by
  have:IntKind.u8.wrap n=n%256:=by simp [IntKind.wrap,IntKind.bits,IntKind.signed]
  rw [this];omega
structure NxI (i:Nat) (ns:List Int) (m:KV):Prop where
  len:ns.length=16
  eq: ∀k:Nat,k<16->nz m k=ns.getD k 0
  lo: ∀k:Nat,k<16->0<=ns.getD k 0
  hi: ∀k:Nat,k<16->ns.getD k 0<=i
theorem NxI.no {i:Nat} {ns:List Int} {m:KV} (h:NxI i ns m):NxI (i+1) ns m:=⟨h.len,h.eq,h.lo,fun k hk=>by have:=h.hi k hk;omega⟩
theorem getD_set (ns:List Int) (a:Nat) (v:Int) (k:Nat) (ha:a<ns.length):(ns.set a v).getD k 0=if k=a then v else ns.getD k 0:=by
  rw [List.getD_eq_getElem?_getD,List.getD_eq_getElem?_getD,List.getElem?_set]
  by_cases h:a=k
  · subst h;simp [ha]
  · rw [if_neg h,if_neg (fun e=>h e.symm)]
theorem NxI.yes {i:Nat} {ns:List Int} {m:KV} (h:NxI i ns m) {a:Nat} (ha:a<16) {v:Int} (hv:v=ns.getD a 0+1):NxI (i+1) (ns.set a v) (mset m (.int .u8 a) (.int .u64 v)):=by
  have hl:a<ns.length:=by rw [h.len];exact ha
  refine ⟨by simp [h.len],fun k hk=> ?_,fun k hk=> ?_,fun k hk=> ?_⟩
  · rw [nz_set,getD_set _ _ _ _ hl]
    by_cases e:k=a
    · rw [if_pos (by omega),if_pos e]
    · rw [if_neg (by omega),if_neg e,h.eq k hk]
  · rw [getD_set _ _ _ _ hl];split
    · have:=h.lo a ha;omega
    · exact h.lo k hk
  · rw [getD_set _ _ _ _ hl];split
    · have:=h.hi a ha;omega
    · have:=h.hi k hk;omega
end Go.Sx
namespace Go.Sx
theorem wf8' {n:Int} (h:(Lit.int .u8 n).wf=true):0<=n/\n<=255:=wf8 h
theorem hAdd_cases' {a b:Int} {x:Int×Int} (h:x=hAdd a b):(x.2=0/\x.1=a+b/\a+b<115792089237316195423570985008687907853269984665640564039457584007913129639936)∨(x.2=2/\x.1=0/\115792089237316195423570985008687907853269984665640564039457584007913129639936<=a+b):=by
  subst h;unfold hAdd;split
  · exact .inl ⟨rfl,rfl,by assumption⟩
  · exact .inr ⟨rfl,rfl,by omega⟩
theorem hSub_cases' {a b:Int} {x:Int×Int} (h:x=hSub a b):(x.2=0/\x.1=a - b/\b<=a)∨(x.2=2/\x.1=0/\a<b):=by
  subst h;unfold hSub;split
  · exact .inl ⟨rfl,rfl,by assumption⟩
  · exact .inr ⟨rfl,rfl,by omega⟩
theorem bal_nil (t p:Int):bal [] t p=0:=num_vI R4_zero
theorem sup_nil (t:Int):sup [] t=0:=num_vI R4_zero
section
variable {eb es:KV->Value->Ent} {s:BS} {t p q n e:Int}
theorem bMint_w (hw:e=bw1 t p n) (h:e≠0):bMint eb es s t p n=(e,s):=by unfold bMint;rw [←hw,if_pos h]
theorem bMint_ov (hw:0=bw1 t p n) (h:M256<=sup s.2.1 t+n):bMint eb es s t p n=(2,s):=by unfold bMint;rw [←hw,if_neg (by decide),if_pos h]
theorem bMint_ok (hw:0=bw1 t p n) (h: ¬M256<=sup s.2.1 t+n) {a:Int} (ha:a=sup s.2.1 t+n) {m1:KV} {L1:List Ent} (h1:m1=mset s.2.1 (.int .u8 t) (vI a)) (h2:L1=s.2.2++ [es s.2.1 (.int .u8 t)]) {y:Int} (hy:y=(hAdd (bal s.1 t p) n).1)
    {x:BS} (hx:x=bPut eb (s.1,m1,L1) (kk t p) y):bMint eb es s t p n=(0,x):=by
  unfold bMint;rw [←hw,if_neg (by decide),if_neg h,hx,h1,h2,hy,ha];rfl
theorem bBurn_w (hw:e=bw1 t p n) (h:e≠0):bBurn eb es s t p n=(e,s):=by unfold bBurn;rw [←hw,if_pos h]
theorem bBurn_no (hw:0=bw1 t p n) (h:bal s.1 t p<n):bBurn eb es s t p n=(8,s):=by unfold bBurn;rw [←hw,if_neg (by decide),if_pos h]
theorem bBurn_ok (hw:0=bw1 t p n) (h: ¬bal s.1 t p<n) {a:Int} (ha:a=(hSub (sup s.2.1 t) n).1) {m1:KV} {L1:List Ent} (h1:m1=mset s.2.1 (.int .u8 t) (vI a)) (h2:L1=s.2.2++ [es s.2.1 (.int .u8 t)]) {y:Int} (hy:y=bal s.1 t p - n)
    {x:BS} (hx:x=bPut eb (s.1,m1,L1) (kk t p) y):bBurn eb es s t p n=(0,x):=by
  unfold bBurn;rw [←hw,if_neg (by decide),if_neg h,hx,h1,h2,hy,ha];rfl
theorem bMove_w (hw:e=bw2 t p q n) (h:e≠0):bMove eb s t p q n=(e,s):=by unfold bMove;rw [←hw,if_pos h]
theorem bMove_no (hw:0=bw2 t p q n) (h:bal s.1 t p<n):bMove eb s t p q n=(8,s):=by unfold bMove;rw [←hw,if_neg (by decide),if_pos h]
theorem bMove_ok (hw:0=bw2 t p q n) (h: ¬bal s.1 t p<n) {a:Int} (ha:a=bal s.1 t p - n) {x1:BS} (h1:x1=bPut eb s (kk t p) a) {y:Int} (hy:y=(hAdd (bal x1.1 t q) n).1)
    {x:BS} (hx:x=bPut eb x1 (kk t q) y):bMove eb s t p q n=(0,x):=by
  unfold bMove;rw [←hw,if_neg (by decide),if_neg h,←ha,←h1,←hy,←hx]
theorem add_ok {a b:Int} {x:Int×Int} (h:x=hAdd a b) (h0:(x.2 !=0)=false):x.1=a+b/\a+b<M256:=by
  have:=bne_eq_false_iff_eq.1 h0;rcases hAdd_cases' h with ⟨h1,h2,h3⟩ | ⟨h1,h2,h3⟩
  · exact ⟨h2,h3⟩
  · omega
theorem add_ov {a b:Int} {x:Int×Int} (h:x=hAdd a b) (h0:(x.2 !=0)=true):x.2=2/\M256<=a+b:=by
  have:=bne_iff_ne.1 h0;rcases hAdd_cases' h with ⟨h1,h2,h3⟩ | ⟨h1,h2,h3⟩
  · omega
  · exact ⟨h1,h3⟩
theorem sub_ok {a b:Int} {x:Int×Int} (h:x=hSub a b) (h0:(x.2 !=0)=false):x.1=a - b/\b<=a:=by
  have:=bne_eq_false_iff_eq.1 h0;rcases hSub_cases' h with ⟨h1,h2,h3⟩ | ⟨h1,h2,h3⟩
  · exact ⟨h2,h3⟩
  · omega
theorem sub_no {a b:Int} {x:Int×Int} (h:x=hSub a b) (h0:(x.2 !=0)=true):x.2=2/\a<b:=by
  have:=bne_iff_ne.1 h0;rcases hSub_cases' h with ⟨h1,h2,h3⟩ | ⟨h1,h2,h3⟩
  · omega
  · exact ⟨h1,h3⟩
end
end Go.Sx
namespace Go.Sx
open Go.RowKit Go.Sort Go.Proofs Go.Shelf
def orI (a b:Int):Int:=if a=0 then b else a
def ahd (x y:Int×Int):Bool:=decide (orI (cmpI x.1 y.1) (cmpI x.2 y.2)<0)
def cmp2 (x y:Int×Int):Int:=if ahd x y=true then -1 else if ahd y x=true then 1 else 0
theorem ahd_iff (x y:Int×Int):ahd x y=true↔x.1<y.1∨(x.1=y.1/\x.2<y.2):=by
  unfold ahd orI cmpI
  rw [decide_eq_true_iff]
  by_cases h1:x.1<y.1
  · simp [h1]
  · by_cases h2:y.1<x.1
    · simp [h1,h2];omega
    · simp only [h1,h2,if_false,false_or]
      have e:x.1=y.1:=by omega
      by_cases h3:x.2<y.2
      · simp [h3,e]
      · by_cases h4:y.2<x.2<;>simp [h3,h4]
theorem lt2 (x y:Int×Int):ltOf cmp2 x y=ahd x y:=by
  unfold ltOf cmp2
  cases h1:ahd x y
  · cases h2:ahd y x<;>simp
  · simp
theorem swo2:SWO (ltOf cmp2) where
  irrefl x:=by rw [lt2];cases h:ahd x x with
    | false=>rfl
    | true=>have:=(ahd_iff _ _).1 h;omega
  trans x y z h1 h2:=by rw [lt2] at *;rw [ahd_iff] at *;omega
  ntrans x y z h1 h2:=by
    rw [lt2] at *
    cases h:ahd x z with
    | false=>rfl
    | true =>
      have a1: ¬ (x.1<y.1∨(x.1=y.1/\x.2<y.2)):=fun q=>by rw [(ahd_iff _ _).2 q] at h1;cases h1
      have a2: ¬ (y.1<z.1∨(y.1=z.1/\y.2<z.2)):=fun q=>by rw [(ahd_iff _ _).2 q] at h2;cases h2
      have:=(ahd_iff _ _).1 h;omega
noncomputable def c2 (v:Value):Int×Int:=(ci (cell v 0),ci (cell v 1))
theorem c2_kk (t p:Int):c2 (kk t p)=(t,p):=rfl
def enc2 (x:Int×Int):List Value:= [.int .u8 x.1, .int .u8 x.2]
def Sorted2 (l:List Value):Prop:=l.Pairwise fun a b=>ahd (c2 b) (c2 a)=false
def Pairs2 (l:List Value):Prop:= ∀v∈l,∃t p:Int,v=kk t p
theorem flat2 (d:Array (Int×Int)):(flatK enc2 2 d).toList=fl (d.toList.map fun x=>kk x.1 x.2):=by
  have hA: ∀v∈d.toList.map (fun x:Int×Int=>kk x.1 x.2),Ag 2 v:=fun v hv=>by
    obtain ⟨x,_,rfl⟩:=List.mem_map.1 hv;exact ⟨_,rfl,rfl⟩
  apply List.ext_getElem?
  intro i
  by_cases hi:i<d.size*2
  · have h2:i/2<d.size:=by omega
    have e1:(d.toList.map fun x:Int×Int=>kk x.1 x.2)[i/2]? =some (kk d[i/2]!.1 d[i/2]!.2):=by
      rw [List.getElem?_map,Array.getElem?_toList,Array.getElem?_eq_getElem h2,getElem!_pos d _ h2];rfl
    have e2:(kk d[i/2]!.1 d[i/2]!.2).cells.toList[i%2]? =some (enc2 d[i/2]!)[i%2]! :=by
      rcases Nat.mod_two_eq_zero_or_one i with q | q<;>rw [q]<;>rfl
    have h3:=fl_get hA e1 e2
    rw [Nat.div_add_mod' i 2] at h3
    rw [h3,Array.getElem?_toList,Array.getElem?_eq_getElem (by simpa using hi),←getElem!_pos (flatK enc2 2 d) i (by simpa using hi),get_flatK _ _ _ _ hi]
  · rw [List.getElem?_eq_none (by simp;omega),List.getElem?_eq_none (by rw [fl_length hA];simp;omega)]
theorem sort_call2 {P : Program} {ρ : Ren} (L : SlLaysF0.n6 P ρ) (aE : ∀ w, (isAgg (ρ.t 24)).run P w = .ok true w) (zE : ∀ w, (Go.sizeOf (ρ.t 24)).run P w = .ok 2 w) {f : FuncId} (hf : ρ.f 6 = f) (he : EnterOK P f) {g : FuncId} (heg : EnterOK P g) {c b r bj : Nat} {lv : Value} {e tc te : TypeId}
    (hcmp: ∀w:World,w.cell? ⟨c,0,none⟩=some (.pointer (some ⟨b,0,none⟩))->w.cell? ⟨b,2,none⟩=some lv-> ∀x0 x1 y0 y1:Int,CallT P g #[kk x0 x1,kk y0 y1, .pointer (some ⟨c,0,none⟩)] [old w] Unit (fun _=> .int .i64 (cmp2 (x0,x1) (y0,y1))) (fun _=> [old w]) (fun _=>True))
    {blk:Nat} {vs ex:List Value} (hint:Pairs2 vs) (hlen:vs.length<=1048576):
    CallT P f #[sv (.mk blk vs ex), .func (.func g) #[] #[.pointer (some ⟨c,0,none⟩)]]
      [sk e (.mk blk vs ex), .blk c (.cells #[.pointer (some ⟨b,0,none⟩)] tc (0,0)), .blk b (.cells #[.map (some r), .pointer (some ⟨bj,0,none⟩),lv] te (0,0))] (List Value) (fun _=>undef)
      (fun y=> [sk e (.mk blk y ex), .blk c (.cells #[.pointer (some ⟨b,0,none⟩)] tc (0,0)), .blk b (.cells #[.map (some r), .pointer (some ⟨bj,0,none⟩),lv] te (0,0))])
      (fun y=>y.Perm vs/\Sorted2 y):=by
  refine ⟨he,fun R w ho=> ?_⟩
  have hb0:w.heap[blk]? =some (.cells (fl vs++fl ex).toArray e (0,0)):=by have:=ho.block (i:=0) (b:=blk) rfl;rw [←fl_append];exact this
  have hb1:=ho.block (i:=1) rfl
  have hb2:=ho.block (i:=2) rfl
  have n1:c≠blk:=own_ne2 (s:= []) ho (i:=1) (j:=0) (by decide) rfl rfl
  have n2:b≠blk:=own_ne2 (s:= []) ho (i:=2) (j:=0) (by decide) rfl rfl
  obtain ⟨d,hd⟩: ∃d:Array (Int×Int),d=(vs.map c2).toArray:=⟨_,rfl⟩
  have hds:d.size=vs.length:=by rw [hd];simp
  have hback: ∀l:List Value,Pairs2 l->(l.map c2).map (fun x=>kk x.1 x.2)=l:=by
    intro l
    induction l with
    | nil=>intro _;rfl
    | cons a l ih =>
      intro h
      obtain ⟨t,p,rfl⟩:=h _ (List.mem_cons_self ..)
      rw [List.map_cons,List.map_cons,ih fun v hv=>h v (List.mem_cons_of_mem _ hv)];rfl
  have hdl:d.toList.map (fun x=>kk x.1 x.2)=vs:=by rw [hd];exact hback vs hint
  have hfl:(flatK enc2 2 d).toList=fl vs:=by rw [flat2,hdl]
  have hvl:(fl vs).length=vs.length*2:=by rw [←hfl];simp [hds]
  have hH:HoldsK enc2 2 w blk 0 d:=by
    intro j hj
    have hj' :j<(fl vs).length:=by rw [←hfl];simpa using hj
    have e1:(flatK enc2 2 d)[j]! =(fl vs)[j]:=by
      rw [getElem!_pos _ j hj];simp only [←hfl,Array.getElem_toList]
    refine ⟨?_,?_⟩
    · simp only [Nat.zero_add,id]
      rw [World.cell?,hb0,e1]
      simp [List.getElem?_append_left hj',List.getElem?_eq_getElem hj']
    · rw [frozen_of_block hb0];simp [frozenAt,frz]
  have hcm:CmpLays P g #[.pointer (some ⟨c,0,none⟩)] enc2 2 cmp2 blk 0 d.size w:=by
    intro m os dk hs x y
    have e0:sortWorldK enc2 2 w blk 0 m dk os=sortWorld id w blk 0 m (flatK enc2 2 dk) os:=rfl
    have h1:(sortWorldK enc2 2 w blk 0 m dk os).cell? ⟨c,0,none⟩=some (.pointer (some ⟨b,0,none⟩)):=by rw [e0,World.cell?,sortWorld_other _ _ _ _ _ _ _ n1 hb1];rfl
    have h2:(sortWorldK enc2 2 w blk 0 m dk os).cell? ⟨b,2,none⟩=some lv:=by rw [e0,World.cell?,sortWorld_other _ _ _ _ _ _ _ n2 hb2];rfl
    exact calls_grow (hcmp _ h1 h2 x.1 x.2 y.1 y.2)
  have hc:=AnyQ.slices_SortFunc L 2 aE zE enc2 (fun _=>rfl) (fun x v hv=>by simp [enc2] at hv;rcases hv with rfl | rfl<;>rfl) cmp2 swo2 g #[.pointer (some ⟨c,0,none⟩)] blk 0 (vs.length+ex.length) d w heg hcm hH (Array.getElem?_eq_some_iff.1 hb0).1 (by omega)
  rw [hf,hds] at hc
  refine hc.mono ?_
  rintro e' w' ⟨rfl,d',n,os,hp,hs,rfl⟩
  have hd's:d'.size=vs.length:=by rw [hp.1,hds]
  refine ⟨d'.toList.map (fun x=>kk x.1 x.2),⟨?_,?_⟩,rfl,?_,?_⟩
  · have h2:=hp.2.2
    have h3:d'.extract 0 vs.length=d' :=by rw [←hd's];simp
    have h4:d.extract 0 vs.length=d:=by rw [←hds];simp
    rw [h3,h4] at h2
    refine (h2.map (fun x=>kk x.1 x.2)).trans ?_
    rw [hdl]
  · unfold Sorted2
    rw [List.pairwise_map,List.pairwise_iff_getElem]
    intro i j hi hj hij
    have:=hs i j (Nat.zero_le _) hij (by rw [←hd's];simpa using hj)
    rw [getElem!_pos d' j (by simpa using hj),getElem!_pos d' i (by simpa using hi),lt2] at this
    simpa [c2_kk] using this
  · have e0: ∀ (m:Nat) (os:Array Obj),sortWorldK enc2 2 w blk 0 m d' os=sortWorld id w blk 0 m (flatK enc2 2 d') os:=fun _ _=>rfl
    rw [e0]
    have hsz:(flatK enc2 2 d').size=(fl vs).length:=by rw [hvl];simp [hd's]
    have hfl' :(flatK enc2 2 d').toList=fl (d'.toList.map fun x=>kk x.1 x.2):=flat2 d'
    have o1:=ho.set (i:=0) (b:=blk) (w' := { w with heap:=w.heap.modify blk (onCells (putCells id 0 (flatK enc2 2 d'))) }) (o' := .cells (((flatK enc2 2 d').toList.map id)++fl ex).toArray e (0,0)) rfl
      (by
        have:=sortWorld_row id w blk 0 (flatK enc2 2 d') #[] (ex:=fl ex) hsz hb0
        unfold sortWorld at this
        rw [grow_empty] at this
        exact this)
      (fun x hx=>by simp [Array.getElem?_modify,Ne.symm hx])
    have o2:=own_more (w' :=sortWorld id w blk 0 n (flatK enc2 2 d') os) o1 (fun i o hi=>by
      have hi' :(w.heap.modify blk (onCells (putCells id 0 (flatK enc2 2 d'))))[i]? =some o:=hi
      have hlt:=(Array.getElem?_eq_some_iff.1 hi').1
      show ((w.heap.modify blk (onCells (putCells id 0 (flatK enc2 2 d'))))++os)[i]? =some o
      rw [Array.getElem?_append_left hlt];exact hi')
    refine (congrArg (fun H=>Own H R _) ?_).mp o2
    funext j
    cases j with
    | zero =>
      show Slot.blk blk (.cells (((flatK enc2 2 d').toList.map id)++fl ex).toArray e (0,0))=Slot.blk blk (.cells (fl ((d'.toList.map fun x=>kk x.1 x.2)++ex)).toArray e (0,0))
      rw [List.map_id,hfl',fl_append]
    | succ j=>rfl
  · exact ⟨rfl,rfl,rfl,by unfold sortWorldK grow putRowK putRow mapBlock Go.Sort.ahead;simp,by show w.drawn<=w.drawn+n;omega⟩
def Rise2 (l:List Value):Prop:=l.Pairwise fun a b=>ahd (c2 a) (c2 b)=true
theorem rise2_of {l:List Value} (h:Sorted2 l) (hn:l.Nodup) (hi:Pairs2 l):Rise2 l:=by
  induction l with
  | nil=>exact List.Pairwise.nil
  | cons a l ih =>
    unfold Sorted2 at h
    rw [List.pairwise_cons] at h
    rw [List.nodup_cons] at hn
    refine List.pairwise_cons.2 ⟨fun b hb=> ?_,ih h.2 hn.2 fun v hv=>hi v (List.mem_cons_of_mem _ hv)⟩
    have h1:=h.1 b hb
    obtain ⟨t,p,rfl⟩:=hi a (List.mem_cons_self ..)
    obtain ⟨t',p',rfl⟩:=hi b (List.mem_cons_of_mem _ hb)
    rw [c2_kk,c2_kk] at *
    rw [ahd_iff]
    have h2: ¬ (t' <t∨(t' =t/\p' <p)):=fun q=>by rw [(ahd_iff (t',p') (t,p)).2 q] at h1;cases h1
    have: ¬ (t=t' /\p=p'):=fun q=>hn.1 (by obtain ⟨rfl,rfl⟩:=q;exact hb)
    show t<t' ∨(t=t' /\p<p')
    omega
def KeysOf2 (m:KV) (l:List Value):Prop:=l.Perm (m.map (·.1))/\Rise2 l/\Pairs2 l
theorem keysOf2_of {m:KV} (hm:MOK m) (hi:Pairs2 (m.map (·.1))) {l:List Value} (hp:l.Perm (m.map (·.1))) (hs:Sorted2 l):KeysOf2 m l:=
  ⟨hp,rise2_of hs (hp.nodup_iff.2 hm) (fun v hv=>hi v (hp.mem_iff.1 hv)),fun v hv=>hi v (hp.mem_iff.1 hv)⟩
theorem pairs2_ag {l:List Value} (h:Pairs2 l): ∀v∈l,Ag 2 v:=fun v hv=>by obtain ⟨t,p,rfl⟩:=h v hv;exact ⟨_,rfl,rfl⟩
def RK.of {k:Nat} (l:List Value) (h: ∀v∈l,Ag k v):RK k:=⟨.mk 0 l [],fun v hv=>h v (by simpa using hv)⟩
theorem sort2_wit {l:List Value} (hi:Pairs2 l): ∃y:List Value,y.Perm l/\Sorted2 y:=by
  refine ⟨l.mergeSort fun a b=> !(ahd (c2 b) (c2 a)),List.mergeSort_perm _ _,?_⟩
  have:=List.pairwise_mergeSort (le:=fun a b:Value=> !(ahd (c2 b) (c2 a))) (fun a b c h1 h2=>by
    simp only [Bool.not_eq_true'] at *
    have:=swo2.ntrans (c2 c) (c2 b) (c2 a)
    simp only [lt2] at this
    exact this h2 h1) (fun a b=>by
    cases h:ahd (c2 b) (c2 a) with
    | false=>rfl
    | true =>
      have h1:=(ahd_iff _ _).1 h
      cases h2:ahd (c2 a) (c2 b) with
      | false=>rfl
      | true=>have h3:=(ahd_iff _ _).1 h2;omega) l
  exact this.imp fun h=>by simpa using h
theorem keysOf2_wit {m:KV} (hi:Pairs2 (m.map (·.1))) (hm:MOK m): ∃z:RK 2,(fun z:RK 2=>KeysOf2 m (vals z.1)) z:=by
  obtain ⟨y,hp,hs⟩:=sort2_wit hi
  have hk:=keysOf2_of hm hi hp hs
  exact ⟨RK.of y (pairs2_ag hk.2.2),hk⟩
theorem keysOf2_wit4 {m:KV} (hi:Pairs2 (m.map (·.1))) (hm:MOK m): ∃z:Nat×Nat×Nat×RK 2,(fun z:Nat×Nat×Nat×RK 2=>KeysOf2 m (vals z.2.2.2.1)) z:=
  let ⟨z,hz⟩:=keysOf2_wit hi hm;⟨(0,0,0,z),hz⟩
theorem sort_row2 {P:Program} {ρ:Ren} (L:SlLaysF0.n6 P ρ) (aE: ∀w,(isAgg (ρ.t 24)).run P w= .ok true w) (zE: ∀w,(Go.sizeOf (ρ.t 24)).run P w= .ok 2 w) {f:FuncId} (hf:ρ.f 6=f) (he:EnterOK P f) {g:FuncId} (heg:EnterOK P g) {c b r bj:Nat} {lv:Value} {e tc te:TypeId}
    (hcmp: ∀w:World,w.cell? ⟨c,0,none⟩=some (.pointer (some ⟨b,0,none⟩))->w.cell? ⟨b,2,none⟩=some lv-> ∀x0 x1 y0 y1:Int,CallT P g #[kk x0 x1,kk y0 y1, .pointer (some ⟨c,0,none⟩)] [old w] Unit (fun _=> .int .i64 (cmp2 (x0,x1) (y0,y1))) (fun _=> [old w]) (fun _=>True))
    {y:RK 2} (hint:Pairs2 (vals y.1)) (hlen:(vals y.1).length<=1048576):
    CallT P f #[sv y.1, .func (.func g) #[] #[.pointer (some ⟨c,0,none⟩)]]
      [sk e y.1, .blk c (.cells #[.pointer (some ⟨b,0,none⟩)] tc (0,0)), .blk b (.cells #[.map (some r), .pointer (some ⟨bj,0,none⟩),lv] te (0,0))] (RK 2) (fun _=>undef)
      (fun z=> [sk e z.1, .blk c (.cells #[.pointer (some ⟨b,0,none⟩)] tc (0,0)), .blk b (.cells #[.map (some r), .pointer (some ⟨bj,0,none⟩),lv] te (0,0))])
      (fun z=>sv z.1=sv y.1/\(vals z.1).Perm (kvals 2 (sv y.1) (sk e y.1))/\Sorted2 (vals z.1)):=by
  rw [kvals_eq]
  obtain ⟨y,hy⟩:=y
  cases y with
  | mk blk vs ex =>
    exact (sort_call2 L aE zE hf he heg hcmp (blk:=blk) (ex:=ex) hint hlen).exists fun x hx=>⟨⟨.mk blk x ex,fun v hv=>by
      rcases List.mem_append.1 hv with hv | hv
      · exact hy v (List.mem_append_left _ (hx.1.mem_iff.1 hv))
      · exact hy v (List.mem_append_right _ hv)⟩,⟨by simp [sv,hx.1.length_eq,vals],hx.1,hx.2⟩,rfl,Imp.refl _⟩
  | nil =>
    refine ⟨he,fun R w ho=> ?_⟩
    have:=AnyF.slices_SortFunc_none L none 0 (.func (.func g) #[] #[.pointer (some ⟨c,0,none⟩)]) w
    rw [hf] at this
    refine this.mono ?_
    rintro e' w' ⟨rfl,rfl⟩
    exact ⟨⟨.nil,hy⟩,⟨rfl,List.Perm.refl _,List.Pairwise.nil⟩,rfl,ho,Ext.refl _⟩
theorem sort_wit2 {e:TypeId} (y:RK 2) (hi:Pairs2 (vals y.1)): ∃z:RK 2,(fun z:RK 2=>sv z.1=sv y.1/\(vals z.1).Perm (kvals 2 (sv y.1) (sk e y.1))/\Sorted2 (vals z.1)) z:=by
  rw [kvals_eq]
  obtain ⟨y,hy⟩:=y
  obtain ⟨l,hp,hs⟩:=sort2_wit hi
  cases y with
  | nil=>exact ⟨⟨.nil,hy⟩,rfl,List.Perm.refl _,List.Pairwise.nil⟩
  | mk b vs ex =>
    exact ⟨⟨.mk b l ex,fun v hv=>by
      rcases List.mem_append.1 hv with hv | hv
      · exact hy v (List.mem_append_left _ (hp.mem_iff.1 hv))
      · exact hy v (List.mem_append_right _ hv)⟩,by simp [sv,hp.length_eq,vals],hp,hs⟩
end Go.Sx
set_option linter.unusedVariables false
set_option linter.unusedSimpArgs false
namespace Go.Sx
open Go.RowKit
theorem swap3 (a:Slot) (b c:List Slot):Imp (a::(b++c)) (b++a::c):=fun R w ho=>by
  have h1:Own (ofList ((a::b)++c)) R w:=ho
  have h2:=Imp.swap (a::b) c R w h1
  have h3:Own (ofList ((c++ [a])++b)) R w:=by rw [List.append_assoc];exact h2
  have h4:=Imp.swap (c++ [a]) b R w h3
  have h5:Imp (b++(c++ [a])) (b++([a]++c)):=imp_tails b (Imp.swap _ _)
  exact h5 R w h4
def Iter (P : Program) (gf : FuncId) (cap : Array Value) (Hs : List Slot) (len : Nat) (kv : Nat -> Array Value) : Prop :=
  ∀ (l : Nat) (T : Nat -> Slot) (S : Slot), (∀ i, i < len -> RoundT P l (kv i) [T i] Bool (fun b => .bool b) (fun b => [bif b then T (i + 1) else S]) (fun _ => True)) ->
    CallT P gf (#[.func (.yield l) #[] #[]]++cap) (Hs++ [T 0]) Bool (fun _=>undef) (fun b=>Hs++ [bif b then T len else S]) (fun _=>True)
end Go.Sx
namespace Go.Sx
open Go.RowKit
def rowKF (k b:Nat) (ty e:TypeId) (vs:List Value):RK k->List Slot:=fun y=> [.blk b (.cells #[sv y.1] ty (0,0)),sk e y.1]++ [pur (vals y.1=vs)]
def rowKS (k b:Nat) (ty e:TypeId) (vs:List Value):Slot:=bun [b] .none (rowKF k b ty e vs)
theorem rowKS_shut {k b:Nat} {ty e:TypeId} {vs:List Value} {y:RK k} (h:vals y.1=vs) (l:List Slot):Imp (.blk b (.cells #[sv y.1] ty (0,0))::sk e y.1::l) (rowKS k b ty e vs::l):=by
  refine Imp.trans (.same fun p hp=> ?_) (bun_shut (F:=rowKF k b ty e vs) y l)
  have h2:SepL ([.blk b (.cells #[sv y.1] ty (0,0)),sk e y.1]++l) p:=hp
  obtain ⟨p1,p2,ha,hb,d,rfl⟩:=(sep_append _ _).1 h2
  exact (sep_append _ _).2 ⟨p1,p2,sep_pur.2 ⟨ha,h⟩,hb,d,rfl⟩
theorem rowKS_open {k b:Nat} {ty e:TypeId} {vs:List Value} {l:List Slot} {R:HP} {w:World} (h:Own (ofList (rowKS k b ty e vs::l)) R w):
    ∃y:RK k,vals y.1=vs/\Own (ofList (.blk b (.cells #[sv y.1] ty (0,0))::sk e y.1::l)) R w:=by
  obtain ⟨y,hr⟩:=bun_open h
  obtain ⟨p,q,hp,hq,hw,hqw,d⟩:=own_sep.1 hr
  obtain ⟨p1,p2,ha,hb,d2,rfl⟩:=(sep_append _ _).1 hp
  obtain ⟨ha',hk⟩:=sep_pur.1 ha
  exact ⟨y,hk,own_sep.2 ⟨_,q,(sep_append [_,_] l).2 ⟨p1,p2,ha',hb,d2,rfl⟩,hq,hw,hqw,d⟩⟩
theorem rowKS_nil {k b:Nat} {ty e:TypeId} (l:List Slot):Imp (.blk b (.cells #[.slice none 0 0] ty (0,0))::l) (rowKS k b ty e []::l):=by
  refine Imp.trans (.same fun p hp=> ?_) (rowKS_shut (y:=RK.nil k) rfl l)
  have h2:SepL ([.blk b (.cells #[.slice none 0 0] ty (0,0))]++l) p:=hp
  obtain ⟨p1,p2,ha,hb,d,rfl⟩:=(sep_append _ _).1 h2
  exact (sep_append [_,_] l).2 ⟨p1,p2,(sep_free (a:= [.blk b (.cells #[.slice none 0 0] ty (0,0))])).2 ha,hb,d,rfl⟩
theorem round_rowK {P:Program} {l:Nat} {args:Array Value} {S:Slot} {k b:Nat} {ty e:TypeId} {vs vs' :List Value}
    (h: ∀y:RK k,vals y.1=vs->RoundT P l args [S, .blk b (.cells #[sv y.1] ty (0,0)),sk e y.1] (RK k) (fun _=> .bool true) (fun z=> [S, .blk b (.cells #[sv z.1] ty (0,0)),sk e z.1]) (fun z=>vals z.1=vs')):
    RoundT P l args [S,rowKS k b ty e vs] Unit (fun _=> .bool true) (fun _=> [S,rowKS k b ty e vs']) (fun _=>True):=by
  intro R w ho
  have ho1:Own (ofList (rowKS k b ty e vs:: [S])) R w:=Imp.swap [S] [rowKS k b ty e vs] R w ho
  obtain ⟨y,hy,ho2⟩:=rowKS_open ho1
  have ho3:Own (ofList [S, .blk b (.cells #[sv y.1] ty (0,0)),sk e y.1]) R w:=Imp.swap [.blk b (.cells #[sv y.1] ty (0,0)),sk e y.1] [S] R w ho2
  obtain ⟨fn,tmps,asg,bd,hr,hk⟩:=h y hy R w ho3
  refine ⟨fn,tmps,asg,bd,hr,hk.mono ?_⟩
  rintro e' w' ⟨z,hz,he,ho4,hx⟩
  refine ⟨(),trivial,he,?_,hx⟩
  have ho5:Own (ofList ([.blk b (.cells #[sv z.1] ty (0,0)),sk e z.1]++ [S])) R w' :=Imp.swap [S] [.blk b (.cells #[sv z.1] ty (0,0)),sk e z.1] R w' ho4
  have ho6:=rowKS_shut hz [S] R w' ho5
  exact Imp.swap [rowKS k b ty e vs'] [S] R w' ho6
theorem range_keysK {P:Program} {n k0:Nat} {g:Operand} {ps:Array Tmp} {A B:Code} {fr:Nat->Value} {gf c r b2:Nat} {m:KV} {mt ty e:TypeId} (hg:evalF fr g= .func (.func gf) #[] #[.pointer (some ⟨c,0,none⟩)]) (hm:MOK m) (hl:m.length<=1048576)
    (hit: ∀ (l:Nat) (rec:Loop) (T:List Value->Slot),(∀ (ks:List Value) (k:Value),(ks.Nodup/\ ∀j∈ks,j∈m.map (·.1))->k∉ks->k∈m.map (·.1)->RoundT P l #[k] [loopB l rec,T ks] Unit (fun _=> .bool true) (fun _=> [loopB l rec,T (ks++ [k])]) (fun _=>True))->
      CallT P gf #[.func (.yield l) #[] #[], .pointer (some ⟨c,0,none⟩)] [loopB l rec, .blk c (.cells #[.map (some r)] mt (0,0)),mo r m,T []] (List Value) (fun _=>undef) (fun ks=> [loopB l rec, .blk c (.cells #[.map (some r)] mt (0,0)),mo r m,T ks]) (fun ks=>ks.Perm (m.map (·.1))))
    (hround: ∀ (l D:Nat) (fn:FuncId) (tmps:Array Value) (y:RK k0) (k:Value),k∈m.map (·.1)->(vals y.1).length<=1048576->tmps.size=n->(∀i,tmps.getD i undef=fr i)->
      RoundT P l #[k] (loopB l (recOf fn tmps ps A B D):: [.blk b2 (.cells #[sv y.1] ty (0,0)),sk e y.1]) (RK k0) (fun _=> .bool true) (fun z=>loopB l (recOf fn tmps ps A B D):: [.blk b2 (.cells #[sv z.1] ty (0,0)),sk e z.1]) (fun z=>vals z.1=vals y.1++ [k])):
    RangeT P n g ps A B fr [.blk c (.cells #[.map (some r)] mt (0,0)),mo r m, .blk b2 (.cells #[.slice none 0 0] ty (0,0))] (RK k0)
      (fun x=> [.blk c (.cells #[.map (some r)] mt (0,0)),mo r m, .blk b2 (.cells #[sv x.1] ty (0,0)),sk e x.1]) (fun x=>(vals x.1).Perm (m.map (·.1))):=by
  refine range_of (val:=fun _=>undef) hg fun l D fn tmps hz hf=> ?_
  refine (hit l (recOf fn tmps ps A B D) (fun ks=>rowKS k0 b2 ty e ks) fun ks k hN hk hkm=> ?_).imp ?_ ?_
  · refine round_rowK fun y hy=> ?_
    have h1:=hround l D fn tmps y k hkm (by rw [hy];exact Nat.le_trans (keys_len hN) hl) hz hf
    rw [hy] at h1
    exact h1
  · exact Imp.tail _ (Imp.tail _ (Imp.tail _ (rowKS_nil [])))
  · intro ks R w hp ho
    have h1:Own (ofList ([loopB l (recOf fn tmps ps A B D), .blk c (.cells #[.map (some r)] mt (0,0)),mo r m]++ [rowKS k0 b2 ty e ks])) R w:=ho
    obtain ⟨y,hy,h2⟩:=rowKS_open (Imp.swap _ [rowKS k0 b2 ty e ks] R w h1)
    refine ⟨y,by rw [hy];exact hp,rfl,?_⟩
    exact Imp.swap [.blk b2 (.cells #[sv y.1] ty (0,0)),sk e y.1] [loopB l (recOf fn tmps ps A B D), .blk c (.cells #[.map (some r)] mt (0,0)),mo r m] R w h2
theorem wit_permK {m:KV} (hi:Pairs2 (m.map (·.1))): ∃y:RK 2,(fun y:RK 2=>(vals y.1).Perm (m.map (·.1))) y:=⟨RK.of _ (pairs2_ag hi),List.Perm.refl _⟩
def PairKeys (m:KV):Prop:=Pairs2 (m.map (·.1))/\MOK m
theorem keysOf2_witP {m:KV} (h:PairKeys m): ∃z:Nat×Nat×Nat×RK 2,(fun z:Nat×Nat×Nat×RK 2=>KeysOf2 m (vals z.2.2.2.1)) z:=keysOf2_wit4 h.1 h.2
theorem pair_at {l:List Value} (h:Pairs2 l) {i:Nat} (hi:i<l.length): ∃x0:Int×Int,l[i]? =some (tV x0):=by
  obtain ⟨t,p,e⟩:=h _ (List.getElem_mem hi)
  exact ⟨(t,p),by rw [List.getElem?_eq_getElem hi,e];rfl⟩
theorem getD_at {l:List Value} {i:Nat} {v:Value} (h:l[i]? =some v):l.getD i undef=v:=by rw [List.getD_eq_getElem?_getD,h];rfl
theorem slast_pair {r it:Nat} {m:KV} {ks:List Value} {x:Option Value} (hi:Pairs2 (m.map (·.1))) (hx:nxP m ks x) (hs:x.isSome=true): ∃z:Int×Int,(fun z=>slast (mitE r it m ks x)=tV z) z:=by
  obtain ⟨t,p,e⟩:=hi _ (nxP_some hx hs).2
  exact ⟨(t,p),(slast_some hs).trans e⟩
theorem xentry2 {P:Program} {r it:Nat} {m:KV} {ks:List Value} (hm:MOK m) {x:Option Value} (hi:Pairs2 (m.map (·.1))) (hp:nxP m ks x) (hx:x.isSome=true):
    OpT P (do pure (.value (←Instr.entry (.pointer (some ⟨it,0,none⟩))))) [mitE r it m ks x] (Int×Int) (fun z=> .tuple #[tV z,(mget m (tV z)).getD undef]) (fun _=> [mitE r it m ks x]) (fun z=>slast (mitE r it m ks x)=tV z):=by
  obtain ⟨z,hz⟩:=slast_pair (r:=r) (it:=it) hi hp hx
  have hz' :slast (mitE r it m ks x)=tV z:=hz
  intro R w ho
  obtain ⟨_,w',_,hr,ho',hext⟩:=xentry' (P:=P) hm hx R w ho
  rw [hz'] at hr
  exact ⟨z,w',hz',hr,ho',hext⟩
theorem keys_yield2 {P:Program} {l:Nat} {L:Slot} {r it:Nat} {m:KV} {ks:List Value} {x:Option Value} {T:List Value->Slot} {z:Int×Int} (hx:nxP m ks x) (hs:x.isSome=true) (hz:slast (mitE r it m ks x)=tV z)
    (hT: ∀k,k∉ks->k∈m.map (·.1)->RoundT P l #[k] [L,T ks] Unit (fun _=> .bool true) (fun _=> [L,T (ks++ [k])]) (fun _=>True)):
    RoundT P l #[tV z] [L,T ks] Unit (fun _=> .bool true) (fun _=> [L,T (ks++ [tV z])]) (fun _=>True):=by
  have e:x.getD undef=tV z:=(slast_some hs).symm.trans hz
  have:=nxP_some hx hs
  rw [e] at this
  exact hT _ this.1 this.2
theorem nxP_pair {r it:Nat} {m:KV} {ks:List Value} {x:Option Value} {z:Int×Int} (hx:nxP m ks x) (hs:x.isSome=true) (hz:slast (mitE r it m ks x)=tV z):(tV z∉ks/\tV z∈m.map (·.1))/\mitE r it m ks x=mit r it m (ks++ [tV z]):=by
  have e:x.getD undef=tV z:=(slast_some hs).symm.trans hz
  refine ⟨by have:=nxP_some hx hs;rwa [e] at this,by rw [mitE_some hs,e]⟩
theorem Iter.all {P:Program} {gf:FuncId} {cap:Array Value} {Hs:List Slot} {len:Nat} {kv:Nat->Array Value} (h:Iter P gf cap Hs len kv) (l:Nat) (rec:Loop) (T:Nat->Slot)
    (hT: ∀i,i<len->RoundT P l (kv i) [loopB l rec,T i] Unit (fun _=> .bool true) (fun _=> [loopB l rec,T (i+1)]) (fun _=>True)):
    CallT P gf (#[.func (.yield l) #[] #[]]++cap) (loopB l rec::(Hs++ [T 0])) Unit (fun _=>undef) (fun _=>loopB l rec::(Hs++ [T len])) (fun _=>True):=by
  refine (h l (fun i=>pk (fun _:Unit=> [loopB l rec,T i]) (fun _=>True)) (pk (fun _:Unit=> []) (fun _=>False)) fun i hi R w ho=> ?_).imp ?_ ?_
  · obtain ⟨y,_,ho2⟩:=pk_open ho
    rw [List.append_nil] at ho2
    obtain ⟨fn',tmps',asg,bd,hr,hk⟩:=hT i hi R w ho2
    refine ⟨fn',tmps',asg,bd,hr,hk.mono ?_⟩
    rintro e' w' ⟨z,_,he,ho4,hx⟩
    refine ⟨true,trivial,he,?_,hx⟩
    have h5:=pk_shut (G:=fun _:Unit=> [loopB l rec,T (i+1)]) (ok:=fun _=>True) (y:=()) trivial [] R w'
    rw [List.append_nil] at h5
    exact h5 ho4
  · intro R w ho
    have h2:=swap3 _ Hs [T 0] R w ho
    have h1:=pk_shut (G:=fun _:Unit=> [loopB l rec,T 0]) (ok:=fun _=>True) (y:=()) trivial []
    rw [List.append_nil] at h1
    exact imp_tails Hs h1 R w h2
  · intro b R w _ ho
    cases b with
    | false =>
      obtain ⟨y,hy,_⟩:=pk_open (Imp.swap Hs [_] R w ho)
      exact hy.elim
    | true =>
      obtain ⟨y,_,h2⟩:=pk_open (Imp.swap Hs [_] R w ho)
      have h3:Own (ofList (loopB l rec::(T len::Hs))) R w:=h2
      exact ⟨(),trivial,rfl,Imp.tail _ (Imp.swap [T len] Hs) R w h3⟩
end Go.Sx
namespace Go.Sx
def sumTo (f:Nat->Int):Nat->Int
  | 0=>0
  | n+1=>sumTo f n+f n
theorem sumTo_congr {f g:Nat->Int}: ∀ {n:Nat},(∀p,p<n->f p=g p)->sumTo f n=sumTo g n
  | 0,_=>rfl
  | n+1,h=>by rw [sumTo,sumTo,sumTo_congr (fun p hp=>h p (by omega)),h n (by omega)]
theorem sumTo_upd {f g:Nat->Int} {q:Nat} {v:Int}: ∀ {n:Nat},q<n->(∀p,p<n->g p=if p=q then v else f p)->sumTo g n=sumTo f n+v - f q
  | n + 1, hq, h => by
    rw [sumTo,sumTo]
    by_cases e:q=n
    · subst e
      rw [sumTo_congr (g:=f) (fun p hp=>by rw [h p (by omega),if_neg (by omega)]),h q (by omega),if_pos rfl];omega
    · rw [sumTo_upd (n:=n) (by omega) (fun p hp=>h p (by omega)),h n (by omega),if_neg (by omega)];omega
theorem sumTo_nonneg {f:Nat->Int}: ∀ {n:Nat},(∀p,p<n->0<=f p)->0<=sumTo f n
  | 0,_=>Int.le_refl _
  | n+1,h=>by rw [sumTo];have:=sumTo_nonneg (n:=n) (fun p hp=>h p (by omega));have:=h n (by omega);omega
theorem sumTo_one {f:Nat->Int} {q:Nat}: ∀ {n:Nat},q<n->(∀p,p<n->0<=f p)->f q<=sumTo f n
  | n + 1, hq, h => by
    rw [sumTo]
    have h0:=sumTo_nonneg (n:=n) (fun p hp=>h p (by omega))
    have h1:=h n (by omega)
    by_cases e:q=n
    · subst e;omega
    · have:=sumTo_one (n:=n) (by omega:q<n) (fun p hp=>h p (by omega));omega
theorem sumTo_two {f:Nat->Int} {q r:Nat} (hne:q≠r): ∀ {n:Nat},q<n->r<n->(∀p,p<n->0<=f p)->f q+f r<=sumTo f n
  | n + 1, hq, hr, h => by
    rw [sumTo]
    have h1:=h n (by omega)
    by_cases e:q=n
    · subst e;have:=sumTo_one (n:=q) (q:=r) (by omega) (fun p hp=>h p (by omega));omega
    · by_cases e2:r=n
      · subst e2;have:=sumTo_one (n:=r) (q:=q) (by omega) (fun p hp=>h p (by omega));omega
      · have:=sumTo_two hne (n:=n) (by omega) (by omega) (fun p hp=>h p (by omega));omega
noncomputable def tot (m:KV) (t:Int):Int:=sumTo (fun p=>bal m t p) 18
structure CI (Kb Ks:MK) (s:BS) (more less:Int->Int) (i:Nat):Prop where
  kb:KOK Kb s.1
  ks:KOK Ks s.2.1
  eq: ∀t,0<=t->t<4->tot s.1 t=sup s.2.1 t
  nk:NumK Ks
  bk: ∀t,0<=t->t<4->sup s.2.1 t+less t=more t
  l0: ∀t,0<=t->t<4->0<=less t
  mi: ∀t,0<=t->t<4->more t<=i*M256
theorem ci_start {Kb Ks:MK} (nk:NumK Ks):CI Kb Ks ([],[],[]) (fun _=>0) (fun _=>0) 0:=by
  refine ⟨KOK.nil,KOK.nil,fun t _ _=> ?_,nk,fun t _ _=>by rw [sup_nil];rfl,fun t _ _=>Int.le_refl _,fun t _ _=>by simp⟩
  unfold tot
  rw [sup_nil,sumTo_congr (g:=fun _=>0) (fun p _=>bal_nil t p)];rfl
theorem CI.later {Kb Ks:MK} {s:BS} {more less:Int->Int} {i:Nat} (h:CI Kb Ks s more less i):CI Kb Ks s more less (i+1):=
  ⟨h.kb,h.ks,h.eq,h.nk,h.bk,h.l0,fun t h0 h4=>by
    have h1:=h.mi t h0 h4
    rw [Int.natCast_succ,Int.add_mul]
    unfold M256 at *
    omega⟩
theorem CI.congr {Kb Ks:MK} {s:BS} {more less more' less' :Int->Int} {i:Nat} (h:CI Kb Ks s more less i) (hm: ∀t,0<=t->t<4->more' t=more t) (hl: ∀t,0<=t->t<4->less' t=less t):CI Kb Ks s more' less' i:=
  ⟨h.kb,h.ks,h.eq,h.nk,fun t h0 h4=>by rw [hm t h0 h4,hl t h0 h4];exact h.bk t h0 h4,fun t h0 h4=>by rw [hl t h0 h4];exact h.l0 t h0 h4,fun t h0 h4=>by rw [hm t h0 h4];exact h.mi t h0 h4⟩
section
variable {Kb Ks:MK} (nb:NumK Kb) (ns:NumK Ks) (ob: ∀t p,Kb.OkK (kk t p)) (os: ∀t:Int,Ks.OkK (.int .u8 t))
theorem bal_R {m:KV} (nb:NumK Kb) (h:KOK Kb m) (t p:Int):R4 (bal m t p):=KOK.R4v nb h _
theorem tot_put {m:KV} (h:MOK m) {t p n:Int} (hn:R4 n) (hp0:0<=p) (hp:p<18) (t' :Int):tot (mput m (kk t p) n) t' =if t' =t then tot m t+n - bal m t p else tot m t' :=by
  unfold tot
  by_cases e:t' =t
  · subst e
    rw [if_pos rfl]
    have:=sumTo_upd (f:=fun q=>bal m t' q) (g:=fun q=>bal (mput m (kk t' p) n) t' q) (q:=p.toNat) (v:=n) (n:=18) (by omega) (fun q _=>by
      show bal (mput m (kk t' p) n) t' q=_
      rw [bal_put h hn]
      by_cases e2:(q:Int)=p
      · rw [if_pos ⟨rfl,e2⟩,if_pos (by omega)]
      · rw [if_neg (by simp [e2]),if_neg (by omega)])
    rw [this]
    simp only [Int.toNat_of_nonneg hp0]
  · rw [if_neg e]
    exact sumTo_congr fun q _=>by rw [bal_put h hn,if_neg (by simp [e])]
theorem tot_bal {m:KV} (nb:NumK Kb) (h:KOK Kb m) {t p:Int} (hp0:0<=p) (hp:p<18):0<=bal m t p/\bal m t p<=tot m t:=by
  refine ⟨(bal_R nb h t p).1,?_⟩
  have:=sumTo_one (f:=fun q=>bal m t q) (q:=p.toNat) (n:=18) (by omega) (fun q _=>(bal_R nb h t q).1)
  simp only [Int.toNat_of_nonneg hp0] at this
  exact this
theorem CI.mint (nb : NumK Kb) (ns : NumK Ks) (ob : ∀ t p, Kb.OkK (kk t p)) (os : ∀ t : Int, Ks.OkK (.int .u8 t)) {s : BS} {more less : Int -> Int} {i : Nat} (h : CI Kb Ks s more less i) {eb es : KV -> Value -> Ent} {t p n : Int} (hn : R4 n) (ht : 0 <= t) (hp : 0 <= p) {x : Int × BS} (hx : x = bMint eb es s t p n) :
    (x.1=0/\t<4/\CI Kb Ks x.2 (fun u=>if u=t then more t+n else more u) less (i+1))∨(x.1≠0/\x.2=s):=by
  subst hx
  unfold bMint
  split
  · rename_i hw;exact .inr ⟨hw,rfl⟩
  · rename_i hw
    split
    · exact .inr ⟨by first | (show (2:Int)≠0;decide) | (show (8:Int)≠0;decide),rfl⟩
    · rename_i hs
      left
      have hw' :t<4/\p<18/\n≠0:=by
        unfold bw1 at hw
        split at hw
        · exact absurd (by decide:(1:Int)≠0) hw
        · split at hw
          · exact absurd (by decide:(3:Int)≠0) hw
          · rename_i h1 h2;exact ⟨by omega,by omega,h2⟩
      obtain ⟨ht4,hp18,hn0⟩:=hw'
      obtain ⟨b0,b1⟩:=tot_bal nb h.kb (t:=t) hp hp18
      have e:=h.eq t ht ht4
      have hR:=KOK.R4v ns h.ks (.int .u8 t)
      have hs0:0<=sup s.2.1 t:=hR.1
      have hlt:bal s.1 t p+n<M256:=by omega
      have ha:(hAdd (bal s.1 t p) n).1=bal s.1 t p+n:=by unfold hAdd;rw [if_pos hlt]
      have rS : R4 (sup s.2.1 t + n) := ⟨by have := hn.1; omega, by have : sup s.2.1 t + n < M256 := by omega
                                                                    exact this⟩
      have rB:R4 (bal s.1 t p+n):=⟨by have:=hn.1;omega,hlt⟩
      refine ⟨rfl,ht4,?_⟩
      rw [ha]
      refine ⟨h.kb.put nb (ob t p) rB,h.ks.set (os t) ((ns _).2 ⟨_,rS,rfl⟩),fun u hu hu4=> ?_,h.nk,fun u hu hu4=> ?_,h.l0,fun u hu hu4=> ?_⟩
      · show tot (mput s.1 (kk t p) _) u=sup (mset s.2.1 _ _) u
        rw [tot_put h.kb.once rB hp hp18,sup_set _ rS]
        by_cases eu:u=t
        · subst eu;simp only [if_true];omega
        · rw [if_neg eu,if_neg eu];exact h.eq u hu hu4
      · show sup (mset s.2.1 _ _) u+less u=_
        rw [sup_set _ rS]
        have:=h.bk u hu hu4
        by_cases eu:u=t
        · subst eu;simp only [if_true];omega
        · rw [if_neg eu,if_neg eu];exact this
      · show (if u=t then more t+n else more u)<=_
        have hm:=h.mi u hu hu4
        have:=hn.2
        rw [Int.natCast_succ,Int.add_mul]
        by_cases eu:u=t
        · subst eu;simp only [if_true];unfold M256 at *;omega
        · rw [if_neg eu];unfold M256 at *;omega
theorem CI.burn (nb : NumK Kb) (ns : NumK Ks) (ob : ∀ t p, Kb.OkK (kk t p)) (os : ∀ t : Int, Ks.OkK (.int .u8 t)) {s : BS} {more less : Int -> Int} {i : Nat} (h : CI Kb Ks s more less i) {eb es : KV -> Value -> Ent} {t p n : Int} (hn : R4 n) (ht : 0 <= t) (hp : 0 <= p) {x : Int × BS} (hx : x = bBurn eb es s t p n) :
    (x.1=0/\t<4/\CI Kb Ks x.2 more (fun u=>if u=t then less t+n else less u) (i+1))∨(x.1≠0/\x.2=s):=by
  subst hx
  unfold bBurn
  split
  · rename_i hw;exact .inr ⟨hw,rfl⟩
  · rename_i hw
    split
    · exact .inr ⟨by first | (show (2:Int)≠0;decide) | (show (8:Int)≠0;decide),rfl⟩
    · rename_i hs
      left
      have hw' :t<4/\p<18/\n≠0:=by
        unfold bw1 at hw
        split at hw
        · exact absurd (by decide:(1:Int)≠0) hw
        · split at hw
          · exact absurd (by decide:(3:Int)≠0) hw
          · rename_i h1 h2;exact ⟨by omega,by omega,h2⟩
      obtain ⟨ht4,hp18,hn0⟩:=hw'
      obtain ⟨b0,b1⟩:=tot_bal nb h.kb (t:=t) hp hp18
      have e:=h.eq t ht ht4
      have hR:=KOK.R4v ns h.ks (.int .u8 t)
      have hs0:0<=sup s.2.1 t/\sup s.2.1 t<M256:=hR
      have hB:=bal_R nb h.kb t p
      have ha:(hSub (sup s.2.1 t) n).1=sup s.2.1 t - n:=by unfold hSub;rw [if_pos (by omega)]
      have rS : R4 (sup s.2.1 t - n) := ⟨by omega, by have := hn.1; have h2 : sup s.2.1 t - n < M256 := by omega
                                                      exact h2⟩
      have rB:R4 (bal s.1 t p - n):=⟨by omega,by have:=hn.1;have:=hB.2;omega⟩
      refine ⟨rfl,ht4,?_⟩
      rw [ha]
      have hn1:=hn.1
      refine ⟨h.kb.put nb (ob t p) rB,h.ks.set (os t) ((ns _).2 ⟨_,rS,rfl⟩),fun u hu hu4=> ?_,h.nk,fun u hu hu4=> ?_,fun u hu hu4=> ?_,fun u hu hu4=> ?_⟩
      · show tot (mput s.1 (kk t p) _) u=sup (mset s.2.1 _ _) u
        rw [tot_put h.kb.once rB hp hp18,sup_set _ rS]
        by_cases eu:u=t
        · subst eu;simp only [if_true];omega
        · rw [if_neg eu,if_neg eu];exact h.eq u hu hu4
      · show sup (mset s.2.1 _ _) u+(if u=t then less t+n else less u)=_
        rw [sup_set _ rS]
        have:=h.bk u hu hu4
        by_cases eu:u=t
        · subst eu;simp only [if_true];omega
        · rw [if_neg eu,if_neg eu];exact this
      · have:=h.l0 u hu hu4
        by_cases eu:u=t
        · subst eu;simp only [if_true];omega
        · simp only [if_neg eu];exact this
      · have hm:=h.mi u hu hu4
        rw [Int.natCast_succ,Int.add_mul];unfold M256 at *;omega
theorem CI.move (nb : NumK Kb) (ob : ∀ t p, Kb.OkK (kk t p)) {s : BS} {more less : Int -> Int} {i : Nat} (h : CI Kb Ks s more less i) {eb : KV -> Value -> Ent} {t p q n : Int} (hn : R4 n) (ht : 0 <= t) (hp : 0 <= p) (hq : 0 <= q) {x : Int × BS} (hx : x = bMove eb s t p q n) :
    CI Kb Ks x.2 more less (i+1):=by
  subst hx
  unfold bMove
  split
  · exact h.later
  · rename_i hw
    split
    · exact h.later
    · rename_i hs
      have hw' :t<4/\p<18/\q<18/\n≠0:=by
        unfold bw2 at hw
        split at hw
        · exact absurd (by decide:(1:Int)≠0) hw
        · split at hw
          · exact absurd (by decide:(3:Int)≠0) hw
          · rename_i h1 h2;exact ⟨by omega,by omega,by omega,h2⟩
      obtain ⟨ht4,hp18,hq18,hn0⟩:=hw'
      obtain ⟨b0,b1⟩:=tot_bal nb h.kb (t:=t) hp hp18
      have e:=h.eq t ht ht4
      have hn1:=hn.1
      have hB:=bal_R nb h.kb t p
      have hQ:=bal_R nb h.kb t q
      have rB:R4 (bal s.1 t p - n):=⟨by omega,by have:=hB.2;omega⟩
      have k1:KOK Kb (bPut eb s (kk t p) (bal s.1 t p - n)).1:=h.kb.put nb (ob t p) rB
      have e1:bal (bPut eb s (kk t p) (bal s.1 t p - n)).1 t q=if q=p then bal s.1 t p - n else bal s.1 t q:=by
        show bal (mput s.1 _ _) t q=_
        rw [bal_put h.kb.once rB];simp
      have hlt:bal (bPut eb s (kk t p) (bal s.1 t p - n)).1 t q+n<M256:=by
        rw [e1]
        have hsup:sup s.2.1 t<M256∨True:= .inr trivial
        by_cases eq:q=p
        · rw [if_pos eq];have:=hB.2;unfold M256;omega
        · rw [if_neg eq]
          have h2:=sumTo_two (f:=fun r=>bal s.1 t r) (q:=p.toNat) (r:=q.toNat) (n:=18) (by omega) (by omega) (by omega) (fun r _=>(bal_R nb h.kb t r).1)
          simp only [Int.toNat_of_nonneg hp,Int.toNat_of_nonneg hq] at h2
          have h3:bal s.1 t p+bal s.1 t q<=tot s.1 t:=h2
          have h4:=h.bk t ht ht4
          have h5:0<=sup s.2.1 t/\sup s.2.1 t<M256:=KOK.R4v h.nk h.ks _
          omega
      have ha:(hAdd (bal (bPut eb s (kk t p) (bal s.1 t p - n)).1 t q) n).1=bal (bPut eb s (kk t p) (bal s.1 t p - n)).1 t q+n:=by unfold hAdd;rw [if_pos hlt]
      have rQ:R4 (bal (bPut eb s (kk t p) (bal s.1 t p - n)).1 t q+n):=⟨by have:=(bal_R nb k1 t q).1;omega,hlt⟩
      rw [ha]
      refine ⟨k1.put nb (ob t q) rQ,h.ks,fun u hu hu4=> ?_,h.nk,h.bk,h.l0,fun u hu hu4=> ?_⟩
      · show tot (mput (mput s.1 (kk t p) _) (kk t q) _) u=sup s.2.1 u
        show tot (mput (bPut eb s (kk t p) (bal s.1 t p - n)).1 (kk t q) _) u=sup s.2.1 u
        rw [tot_put k1.once rQ hq hq18]
        have e2: ∀u,tot (bPut eb s (kk t p) (bal s.1 t p - n)).1 u=if u=t then tot s.1 t+(bal s.1 t p - n) - bal s.1 t p else tot s.1 u:=fun u=>tot_put h.kb.once rB hp hp18 u
        show (if u=t then tot (bPut eb s (kk t p) (bal s.1 t p - n)).1 t+_ - bal (bPut eb s (kk t p) (bal s.1 t p - n)).1 t q else tot (bPut eb s (kk t p) (bal s.1 t p - n)).1 u)=_
        rw [e2,e2]
        by_cases eu:u=t
        · subst eu;simp only [if_true];omega
        · rw [if_neg eu,if_neg eu];exact h.eq u hu hu4
      · have hm:=h.mi u hu hu4
        rw [Int.natCast_succ,Int.add_mul];unfold M256 at *;omega
end
theorem bMint_len (eb es:KV->Value->Ent) (s:BS) (t p n:Int):(bMint eb es s t p n).2.2.2.length<=s.2.2.length+2:=by
  unfold bMint
  split
  · simp
  · split
    · simp
    · exact Nat.le_trans (bPut_len _ _ _ _).2 (by simp [bSup])
theorem bBurn_len (eb es:KV->Value->Ent) (s:BS) (t p n:Int):(bBurn eb es s t p n).2.2.2.length<=s.2.2.length+2:=by
  unfold bBurn
  split
  · simp
  · split
    · simp
    · exact Nat.le_trans (bPut_len _ _ _ _).2 (by simp [bSup])
theorem bMove_len (eb:KV->Value->Ent) (s:BS) (t p q n:Int):(bMove eb s t p q n).2.2.2.length<=s.2.2.length+2:=by
  unfold bMove
  split
  · simp
  · split
    · simp
    · refine Nat.le_trans (bPut_len _ _ _ _).2 ?_
      have:=(bPut_len eb s (kk t p) (bal s.1 t p - n)).2
      omega
structure BL where
  i:Nat
  s:BS
  M:Nat->Row
  L:Nat->Row
  b:Nat
  bm:Nat
  bs:Nat
  bj:Nat
  am:Nat
  al:Nat
def updN (M:Nat->Row) (c:Nat) (z:Row):Nat->Row:=fun k=>if k=c then z else M k
def rowsv (M:Nat->Row) (t:Int):Int:=nv (dg (M t.toNat))
structure BLOK (Kb Ks:MK) (x:BL):Prop where
  ci:CI Kb Ks x.s (rowsv x.M) (rowsv x.L) x.i
  rm: ∀k,k<4->RowOK (x.M k)/\Canon (dg (x.M k))
  rl: ∀k,k<4->RowOK (x.L k)/\Canon (dg (x.L k))
  ln:x.s.2.2.length<=3*x.i
theorem BLOK.start {Kb Ks:MK} (nk:NumK Ks) (b bm bs bj am al:Nat):BLOK Kb Ks ⟨0,([],[],[]),fun _=>Row.nil,fun _=>Row.nil,b,bm,bs,bj,am,al⟩:=
  ⟨(ci_start nk).congr (fun _ _ _=>rfl) (fun _ _ _=>rfl),fun _ _=>⟨RowOK.nil,show ([]:List Int).getLast? ≠some 0 by simp⟩,fun _ _=>⟨RowOK.nil,show ([]:List Int).getLast? ≠some 0 by simp⟩,Nat.zero_le _⟩
theorem upd_rows {M:Nat->Row} {c:Nat} {z:Row} (h: ∀k,k<4->RowOK (M k)/\Canon (dg (M k))) (hz:RowOK z/\Canon (dg z)): ∀k,k<4->RowOK (updN M c z k)/\Canon (dg (updN M c z k)):=by
  intro k hk
  unfold updN
  split
  · exact hz
  · exact h k hk
theorem upd_v {M:Nat->Row} {c:Nat} {z:Row} {n:Int} (hz:nv (dg z)=nv (dg (M c))+n) (u:Int) (h0:0<=u):rowsv (updN M c z) u=if u=(c:Int) then rowsv M c+n else rowsv M u:=by
  unfold rowsv updN
  by_cases e:u=(c:Int)
  · subst e;simp only [Int.toNat_natCast,if_true];exact hz
  · rw [if_neg (by omega),if_neg e]
section
variable {Kb Ks:MK}
theorem BLOK.mint (nb:NumK Kb) (ob: ∀t p,Kb.OkK (kk t p)) (os: ∀t:Int,Ks.OkK (.int .u8 t)) {x:BL} (h:BLOK Kb Ks x) {eb es:KV->Value->Ent} {t p n:Int} (hn:R4 n) (ht:0<=t) (hp:0<=p) {y:Int×BS} (hx:y=bMint eb es x.s t p n) (h0:y.1=0) {c:Nat} (hc:t=(c:Int)) {z:Row} (rz:RowOK z) (hz:nv (dg z)=nv (dg (x.M c))+n/\Canon (dg z)) (b bm bs bj am al:Nat):
    BLOK Kb Ks ⟨x.i+1,y.2,updN x.M c z,x.L,b,bm,bs,bj,am,al⟩:=by
  rcases CI.mint nb h.ci.nk ob os h.ci hn ht hp hx with ⟨_,h4,hc'⟩ | ⟨h1,_⟩
  · refine ⟨hc'.congr (fun u hu _=> ?_) (fun _ _ _=>rfl),upd_rows h.rm ⟨rz,hz.2⟩,h.rl,?_⟩
    · rw [upd_v hz.1 u hu,hc]
    · show y.2.2.2.length<=3*(x.i+1)
      have:=bMint_len eb es x.s t p n;rw [←hx] at this;have:=h.ln;omega
  · exact absurd h0 h1
theorem BLOK.burn (nb:NumK Kb) (ob: ∀t p,Kb.OkK (kk t p)) (os: ∀t:Int,Ks.OkK (.int .u8 t)) {x:BL} (h:BLOK Kb Ks x) {eb es:KV->Value->Ent} {t p n:Int} (hn:R4 n) (ht:0<=t) (hp:0<=p) {y:Int×BS} (hx:y=bBurn eb es x.s t p n) (h0:y.1=0) {c:Nat} (hc:t=(c:Int)) {z:Row} (rz:RowOK z) (hz:nv (dg z)=nv (dg (x.L c))+n/\Canon (dg z)) (b bm bs bj am al:Nat):
    BLOK Kb Ks ⟨x.i+1,y.2,x.M,updN x.L c z,b,bm,bs,bj,am,al⟩:=by
  rcases CI.burn nb h.ci.nk ob os h.ci hn ht hp hx with ⟨_,h4,hc'⟩ | ⟨h1,_⟩
  · refine ⟨hc'.congr (fun _ _ _=>rfl) (fun u hu _=> ?_),h.rm,upd_rows h.rl ⟨rz,hz.2⟩,?_⟩
    · rw [upd_v hz.1 u hu,hc]
    · show y.2.2.2.length<=3*(x.i+1)
      have:=bBurn_len eb es x.s t p n;rw [←hx] at this;have:=h.ln;omega
  · exact absurd h0 h1
theorem BLOK.move (nb:NumK Kb) (ob: ∀t p,Kb.OkK (kk t p)) {x:BL} (h:BLOK Kb Ks x) {eb:KV->Value->Ent} {t p q n:Int} (hn:R4 n) (ht:0<=t) (hp:0<=p) (hq:0<=q) {y:Int×BS} (hx:y=bMove eb x.s t p q n) (b bm bs bj am al:Nat):
    BLOK Kb Ks ⟨x.i+1,y.2,x.M,x.L,b,bm,bs,bj,am,al⟩:=by
  refine ⟨CI.move nb ob h.ci hn ht hp hq hx,h.rm,h.rl,?_⟩
  show y.2.2.2.length<=3*(x.i+1)
  have:=bMove_len eb x.s t p q n;rw [←hx] at this;have:=h.ln;omega
theorem len17 {l:List Int} (hd:Dig l) (hc:Canon l) {i:Nat} (hi:i<=40) (h:nv l<=i*M256):l.length<=17:=by
  refine canon_len hd hc ?_
  rw [show P16 17=7588550360256754183279148073529370729071901715047420004889892225542594864082845696 from rfl]
  unfold M256 at h
  omega
theorem BLOK.tot {x:BL} (h:BLOK Kb Ks x) {k:Nat} (hk:k<4):sumTo (fun p=>bal x.s.1 (k:Int) p) 18=sup x.s.2.1 k:=h.ci.eq k (by omega) (by omega)
theorem BLOK.bk {x:BL} (h:BLOK Kb Ks x) {k:Nat} (hk:k<4):sup x.s.2.1 k+nv (dg (x.L k))=nv (dg (x.M k)):=h.ci.bk k (by omega) (by omega)
end
end Go.Sx
set_option linter.unusedVariables false
set_option linter.unusedSimpArgs false
namespace Go.Sx
def pcn:Nat->Nat->Nat
  | 0,_=>0
  | n+1,x=>x%2+pcn n (x/2)
theorem pcn_set : ∀ (n x k : Nat), k < n -> x.testBit k = false -> pcn n (x ||| 2 ^ k) = pcn n x + 1 := by
  intro n
  induction n with
  | zero=>intro x k h;omega
  | succ n ih =>
    intro x k h hx
    cases k with
    | zero =>
      have h0:x%2=0:=by simp [Nat.testBit_zero] at hx;omega
      have h1:(x ||| 2^0)%2=1:=by
        have:=Nat.or_mod_two_pow (a:=x) (b:=1) (n:=1)
        simp only [Nat.pow_one] at this
        rw [Nat.pow_zero,this,h0];rfl
      have h2:(x ||| 2^0)/2=x/2:=by
        rw [Nat.or_div_two];simp
      simp only [pcn];rw [h1,h2,h0];omega
    | succ k =>
      have h1:(x ||| 2^(k+1))%2=x%2:=by
        have z:(2^(k+1))%2=0:=by rw [Nat.pow_succ];omega
        have:=Nat.or_mod_two_pow (a:=x) (b:=2^(k+1)) (n:=1)
        simp only [Nat.pow_one] at this
        rw [this,z,Nat.or_zero]
      have h2:(x ||| 2^(k+1))/2=x/2 ||| 2^k:=by
        rw [Nat.or_div_two];congr 1;rw [Nat.pow_succ];omega
      simp only [pcn];rw [h1,h2,ih (x/2) k (by omega) (by rw [←Nat.testBit_succ];exact hx)];omega
end Go.Sx
set_option linter.unusedVariables false
set_option linter.unusedSimpArgs false
namespace Go.Sx
end Go.Sx
