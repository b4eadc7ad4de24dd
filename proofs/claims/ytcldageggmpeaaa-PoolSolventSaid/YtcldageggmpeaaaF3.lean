/- A part of the prover's own frame for walking code (see the claim's other texts). -/
import Derived.Test.YtcldageggmpeaaaF2
import Derived.Shelf.SlSortCmp.Whole1
import Derived.Shelf.SlSortCmp.NoneTotal
set_option linter.unusedVariables false
set_option linter.unusedSimpArgs false
namespace Go.Sx
open Go.RowKit
def tL (xs:List Int):List Value:=fl (xs.map vI)
def tnV (xs:List Int):Value:= .agg (tL xs).toArray
def unL:List Value->List Int
  | a::b::c::d::l=>num (.agg #[a,b,c,d])::unL l
  | _=> []
def utn (v:Value):List Int:=unL v.cells.toList
def okT (n:Nat) (xs:List Int):Prop:=xs.length=n/\ ∀x∈xs,R4 x
theorem tL_cons (x:Int) (xs:List Int):tL (x::xs)= .int .u64 (lim x 0):: .int .u64 (lim x 1):: .int .u64 (lim x 2):: .int .u64 (lim x 3)::tL xs:=rfl
theorem unL_tL: ∀ {xs:List Int},(∀x∈xs,R4 x)->unL (tL xs)=xs
  | [],_=>rfl
  | x :: xs, h => by
    rw [tL_cons]
    show num (vI x)::unL (tL xs)=x::xs
    rw [num_vI (h x (List.mem_cons_self ..)),unL_tL fun y hy=>h y (List.mem_cons_of_mem _ hy)]
theorem utn_tnV {n:Nat} {xs:List Int} (h:okT n xs):utn (tnV xs)=xs:=unL_tL h.2
theorem tAg (xs:List Int): ∀v∈xs.map vI,Ag 4 v:=by
  intro v hv
  obtain ⟨x,_,rfl⟩:=List.mem_map.1 hv
  exact ⟨_,rfl,rfl⟩
theorem tL_len (xs:List Int):(tL xs).length=xs.length*4:=by unfold tL;rw [fl_length (tAg xs)];simp
theorem tL_append (a b:List Int):tL (a++b)=tL a++tL b:=by unfold tL;rw [List.map_append,fl_append]
theorem tL_drop (xs:List Int) (n:Nat):(tL xs).drop (n*4)=tL (xs.drop n):=by
  unfold tL;rw [fl_drop (tAg xs),List.map_drop]
theorem tL_take (xs:List Int) (n:Nat):(tL xs).take (n*4)=tL (xs.take n):=by
  rcases Nat.lt_or_ge xs.length n with q | q
  · rw [List.take_of_length_le (by rw [tL_len];omega),List.take_of_length_le (by omega)]
  · have h:tL xs=tL (xs.take n)++tL (xs.drop n):=by rw [←tL_append,List.take_append_drop]
    have hl:(tL (xs.take n)).length=n*4:=by rw [tL_len,List.length_take,Nat.min_eq_left q]
    rw [h,List.take_append_of_le_length (by omega),List.take_of_length_le (by omega)]
theorem tL_one: ∀ (xs:List Int) (u:Value),u∈tL xs->u.oneCell' =true
  | [],u,h=>by cases h
  | x :: xs, u, h => by
    rw [tL_cons] at h
    simp only [List.mem_cons] at h
    rcases h with rfl | rfl | rfl | rfl | h
    · rfl
    · rfl
    · rfl
    · rfl
    · exact tL_one xs u h
def tb (b:Nat) (ty:TypeId) (v:Value):Slot:= .par [b] (.val v) (fun h=>(Slot.blk b (.cells v.cells ty (0,0))).sat h)
def sval (s:Slot):Value:=match s with | .par _ (.val v) _=>v | _=>undef
theorem tb_open {b:Nat} {ty:TypeId} {v:Value} {l:List Slot}:Imp (tb b ty v::l) (.blk b (.cells v.cells ty (0,0))::l):=fun R w h=>by
  obtain ⟨p,q,hs,rest⟩:=h
  refine ⟨p,q,fun i=> ?_,rest⟩
  cases i with
  | zero=>exact hs 0
  | succ i=>exact hs (i+1)
theorem tb_shut {b:Nat} {ty:TypeId} {v:Value} {l:List Slot}:Imp (.blk b (.cells v.cells ty (0,0))::l) (tb b ty v::l):=fun R w h=>by
  obtain ⟨p,q,hs,rest⟩:=h
  refine ⟨p,q,fun i=> ?_,rest⟩
  cases i with
  | zero=>exact hs 0
  | succ i=>exact hs (i+1)
def F_tbox (t:TypeId):List Value->List Slot->Ctr:=fun vs _=>⟨Nat,ptr,fun b=> [tb b t (varg vs 0)],fun _=>True⟩
theorem xtbox {P:Program} (t:TypeId) (xs:List Int):OpT P (do pure (.value (←Instr.box t (tnV xs)))) [] Nat ptr (fun b=> [tb b t (tnV xs)]) (fun _=>True):=by
  intro R w ho
  refine ⟨w.heap.size,w.alloc (.cells (tnV xs).cells t (0,0)),trivial, .inl ?_,tb_shut R _ ?_,ext_alloc _ _⟩
  · simp [Instr.box,ptr,newVar,newRow,Sem.run_bind,run_newObj_alloc,Result.andThen]
  · refine (own_alloc ho 0 _).weaken fun k=> ?_
    cases k with
    | zero=>exact .inl rfl
    | succ k=>exact .inl rfl
theorem xtalloc {P:Program} (t:TypeId) (xs:List Int) (hz: ∀w,(zeroValue t).run P w= .ok (tnV xs) w):
    OpT P (do pure (.value (←Instr.alloc t true (.tuple #[])))) [] Nat ptr (fun b=> [tb b t (tnV xs)]) (fun _=>True):=by
  intro R w ho
  refine ⟨w.heap.size,w.alloc (.cells (tnV xs).cells t (0,0)),trivial, .inl ?_,tb_shut R _ ?_,ext_alloc _ _⟩
  · simp [Instr.alloc,ptr,newVar,newRow,Sem.run_bind,run_newObj_alloc,Result.andThen,hz]
  · refine (own_alloc ho 0 _).weaken fun k=> ?_
    cases k with
    | zero=>exact .inl rfl
    | succ k=>exact .inl rfl
theorem part_get {w:World} {b:Nat} {ty:TypeId} {cs:Array Value} {fz:Nat×Nat} (hb:w.heap[b]? =some (.cells cs ty fz)) (o:Nat) (l:List Value) (hl:(cs.toList.drop o).take l.length=l):
    ∀j c,l[j]? =some c->w.cell? ((⟨b,o,none⟩:Addr).add j)=some c:=by
  intro j c hj
  have e1:(⟨b,o,none⟩:Addr).add j=⟨b,o+j,none⟩:=Addr.add_lit ..
  have hlt:j<l.length:=(List.getElem?_eq_some_iff.1 hj).1
  have h2:cs.toList[o+j]? =some c:=by
    rw [←List.getElem?_drop,←List.getElem?_take_of_lt hlt,hl,hj]
  have h3:cs[o+j]? =some c:=by simpa using h2
  rw [e1]
  simp [World.cell?,hb,h3]
theorem load_part {P:Program} {e:TypeId} {k:Nat} (ha: ∀w,(isAgg e).run P w= .ok true w) (hk: ∀w,(sizeOf e).run P w= .ok k w) {b:Nat} {ty:TypeId} {cs:Array Value} {fz:Nat×Nat} (o:Nat) (l:List Value) (hn:l.length=k) (hl:(cs.toList.drop o).take k=l) {w:World} (hb:w.heap[b]? =some (.cells cs ty fz)):
    (do pure (Next.value (←Instr.loadAt e (.pointer (some ⟨b,o,none⟩)))):Sem Next).run P w= .ok (.value (.agg l.toArray)) w:=by
  have hrun:=run_loadCells_list (P:=P) w ⟨b,o,none⟩ l (part_get hb o l (by rw [hn];exact hl))
  rw [hn] at hrun
  simp [Instr.loadAt,Instr.sureAddr,loadVar,Sem.run_bind,ha,hk w,hrun]
theorem part_take {xs:List Int} {n k:Nat} (h:n+k<=xs.length):(tL ((xs.drop n).take k)).length=k*4:=by rw [tL_len,List.length_take,List.length_drop,Nat.min_eq_left (by omega)]
theorem xtpart {P:Program} {e:TypeId} (n k K:Nat) (ha: ∀w,(isAgg e).run P w= .ok true w) (hk: ∀w,(sizeOf e).run P w= .ok K w) (hK:K=k*4) (b:Nat) (ty:TypeId) (xs:List Int) (o:Nat) (ho:o=n*4) (h:n+k<=xs.length):
    OpT P (do pure (.value (←Instr.loadAt e (.pointer (some ⟨b,o,none⟩))))) [tb b ty (tnV xs)] Unit (fun _=>tnV ((xs.drop n).take k)) (fun _=> [tb b ty (tnV xs)]) (fun _=>True):=by
  intro R w hw
  have hb:=(tb_open R w hw).block (i:=0) rfl
  refine ⟨(),w,trivial, .inl ?_,hw,Ext.refl w⟩
  subst ho hK
  refine load_part ha hk (n*4) (tL ((xs.drop n).take k)) (part_take h) ?_ hb
  show (((tnV xs).cells.toList).drop (n*4)).take (k*4)=_
  show ((tL xs).toArray.toList.drop (n*4)).take (k*4)=_
  rw [List.toList_toArray,tL_drop,tL_take]
def tget (v:Value) (n:Nat):Int:=(utn v).getD n 0
theorem tget_eq {m:Nat} {xs:List Int} (h:okT m xs) (n:Nat):tget (tnV xs) n=xs.getD n 0:=by unfold tget;rw [utn_tnV h]
theorem okT.get {m:Nat} {xs:List Int} (h:okT m xs) (n:Nat):R4 (xs.getD n 0):=by
  rw [List.getD_eq_getElem?_getD]
  cases hx:xs[n]? with
  | none=>exact R4_zero
  | some x=>exact h.2 x (List.mem_of_getElem? hx)
theorem take_one {xs:List Int} {n:Nat} (h:n<xs.length):(xs.drop n).take 1= [xs.getD n 0]:=by
  rw [List.drop_eq_getElem_cons h,List.take_succ_cons,List.take_zero,List.getD_eq_getElem?_getD,List.getElem?_eq_getElem h];rfl
theorem take_four {xs:List Int} {n:Nat} (h:n+4<=xs.length):(xs.drop n).take 4= [xs.getD n 0,xs.getD (n+1) 0,xs.getD (n+2) 0,xs.getD (n+3) 0]:=by
  rw [List.drop_eq_getElem_cons (by omega),List.take_succ_cons,List.drop_eq_getElem_cons (by omega),List.take_succ_cons,List.drop_eq_getElem_cons (by omega),List.take_succ_cons,List.drop_eq_getElem_cons (by omega),List.take_succ_cons,List.take_zero]
  simp only [List.getD_eq_getElem?_getD,List.getElem?_eq_getElem (show n<xs.length by omega),List.getElem?_eq_getElem (show n+1<xs.length by omega),List.getElem?_eq_getElem (show n+2<xs.length by omega),List.getElem?_eq_getElem (show n+3<xs.length by omega),Option.getD_some]
def F_tget:List Value->List Slot->Ctr:=fun vs hs=>⟨Int,vI,fun _=>hs,fun z=>R4 z/\z=tget (sval (sarg hs 0)) (voff (varg vs 0)/4)⟩
theorem xtget {P:Program} {e:TypeId} {m:Nat} (n:Nat) (ha: ∀w,(isAgg e).run P w= .ok true w) (hk: ∀w,(sizeOf e).run P w= .ok 4 w) (b:Nat) (ty:TypeId) {xs:List Int} (hx:okT m xs) (o:Nat) (ho:o=n*4) (h:n<m):
    OpT P (do pure (.value (←Instr.loadAt e (.pointer (some ⟨b,o,none⟩))))) [tb b ty (tnV xs)] Int vI (fun _=> [tb b ty (tnV xs)]) (fun z=>R4 z/\z=tget (sval (tb b ty (tnV xs))) (o/4)):=by
  intro R w hw
  obtain ⟨_,w',_,hr,ho',he⟩:=xtpart n 1 4 ha hk rfl b ty xs o ho (by rw [hx.1];omega) R w hw
  refine ⟨xs.getD n 0,w',⟨hx.get n,?_⟩,?_,ho',he⟩
  · subst ho;rw [Nat.mul_div_cancel _ (by decide)];exact (tget_eq hx n).symm
  · rw [take_one (by rw [hx.1];exact h)] at hr;exact hr
theorem etget {m:Nat} {b:Nat} {ty:TypeId} {xs:List Int} (hx:okT m xs) {o n:Nat} (ho:o=n*4) {z:Int} (h:R4 z/\z=tget (sval (tb b ty (tnV xs))) (o/4)):z=xs.getD n 0:=by
  have:=h.2
  subst ho;rw [Nat.mul_div_cancel _ (by decide)] at this;exact this.trans (tget_eq hx n)
theorem wtget {m:Nat} {b:Nat} {ty:TypeId} {xs:List Int} (hx:okT m xs) (o:Nat): ∃z,(fun z=>R4 z/\z=tget (sval (tb b ty (tnV xs))) (o/4)) z:=⟨_,by show R4 (tget (tnV xs) _);rw [tget_eq hx];exact hx.get _,rfl⟩
def tgetS (v:Value) (n:Nat):ST:=(tget v n,tget v (n+1),tget v (n+2),tget v (n+3))
def F_tgetS:List Value->List Slot->Ctr:=fun vs hs=>⟨ST,stV,fun _=>hs,fun z=>okS z/\z=tgetS (sval (sarg hs 0)) (voff (varg vs 0)/4)⟩
def gS (xs:List Int) (n:Nat):ST:=(xs.getD n 0,xs.getD (n+1) 0,xs.getD (n+2) 0,xs.getD (n+3) 0)
theorem okT.gS {m:Nat} {xs:List Int} (h:okT m xs) (n:Nat):okS (gS xs n):=⟨h.get _,h.get _,h.get _,h.get _⟩
theorem tgetS_eq {m:Nat} {xs:List Int} (h:okT m xs) (n:Nat):tgetS (tnV xs) n=gS xs n:=by unfold tgetS Sx.gS;simp only [tget_eq h]
theorem xtgetS {P:Program} {e:TypeId} {m:Nat} (n:Nat) (ha: ∀w,(isAgg e).run P w= .ok true w) (hk: ∀w,(sizeOf e).run P w= .ok 16 w) (b:Nat) (ty:TypeId) {xs:List Int} (hx:okT m xs) (o:Nat) (ho:o=n*4) (h:n+4<=m):
    OpT P (do pure (.value (←Instr.loadAt e (.pointer (some ⟨b,o,none⟩))))) [tb b ty (tnV xs)] ST stV (fun _=> [tb b ty (tnV xs)]) (fun z=>okS z/\z=tgetS (sval (tb b ty (tnV xs))) (o/4)):=by
  intro R w hw
  obtain ⟨_,w',_,hr,ho',he⟩:=xtpart n 4 16 ha hk rfl b ty xs o ho (by rw [hx.1];omega) R w hw
  refine ⟨gS xs n,w',⟨hx.gS n,?_⟩,?_,ho',he⟩
  · subst ho;rw [Nat.mul_div_cancel _ (by decide)];exact (tgetS_eq hx n).symm
  · rw [take_four (by rw [hx.1];exact h)] at hr;exact hr
theorem etgetS {m:Nat} {b:Nat} {ty:TypeId} {xs:List Int} (hx:okT m xs) {o n:Nat} (ho:o=n*4) {z:ST} (h:okS z/\z=tgetS (sval (tb b ty (tnV xs))) (o/4)):z=gS xs n:=by
  have:=h.2
  subst ho;rw [Nat.mul_div_cancel _ (by decide)] at this;exact this.trans (tgetS_eq hx n)
theorem wtgetS {m:Nat} {b:Nat} {ty:TypeId} {xs:List Int} (hx:okT m xs) (o:Nat): ∃z,(fun z=>okS z/\z=tgetS (sval (tb b ty (tnV xs))) (o/4)) z:=⟨_,by show okS (tgetS (tnV xs) _);rw [tgetS_eq hx];exact hx.gS _,rfl⟩
def F_tall:List Value->List Slot->Ctr:=fun _ hs=>⟨Unit,fun _=>sval (sarg hs 0),fun _=>hs,fun _=>True⟩
theorem xtall {P:Program} {e:TypeId} {m:Nat} (K:Nat) (ha: ∀w,(isAgg e).run P w= .ok true w) (hk: ∀w,(sizeOf e).run P w= .ok K w) (hK:K=m*4) (b:Nat) (ty:TypeId) {xs:List Int} (hx:xs.length=m):
    OpT P (do pure (.value (←Instr.loadAt e (.pointer (some ⟨b,0,none⟩))))) [tb b ty (tnV xs)] Unit (fun _=>sval (tb b ty (tnV xs))) (fun _=> [tb b ty (tnV xs)]) (fun _=>True):=by
  have:=xtpart 0 m K ha hk hK b ty xs 0 (by simp) (by omega) (P:=P)
  rw [List.drop_zero,List.take_of_length_le (by omega)] at this
  exact this
def tset (xs:List Int) (n:Nat) (ys:List Int):List Int:=xs.take n++ys++xs.drop (n+ys.length)
theorem tset_len {xs ys:List Int} {n:Nat} (h:n+ys.length<=xs.length):(tset xs n ys).length=xs.length:=by unfold tset;simp;omega
theorem okT.tset {m:Nat} {xs:List Int} (h:okT m xs) {ys:List Int} (hy: ∀y∈ys,R4 y) {n:Nat} (hn:n+ys.length<=m):okT m (tset xs n ys):=by
  refine ⟨by rw [tset_len (by rw [h.1];exact hn),h.1],fun x hx=> ?_⟩
  unfold Sx.tset at hx
  rcases List.mem_append.1 hx with hx | hx
  · rcases List.mem_append.1 hx with hx | hx
    · exact h.2 x (List.mem_of_mem_take hx)
    · exact hy x hx
  · exact h.2 x (List.mem_of_mem_drop hx)
theorem tset_one {xs:List Int} {n:Nat} {y:Int} (h:n<xs.length):tset xs n [y]=xs.set n y:=by
  unfold tset
  rw [List.set_eq_take_append_cons_drop,if_pos h];simp
theorem putAll_t {xs ys:List Int} {n:Nat} (h:n+ys.length<=xs.length):putAll (tL xs).toArray (n*4) (tL ys)=(tL (tset xs n ys)).toArray:=by
  have h1:tL xs=tL (xs.take n)++tL ((xs.drop n).take ys.length)++tL (xs.drop (n+ys.length)):=by
    rw [←tL_append,←tL_append,List.append_assoc,←List.drop_drop,List.take_append_drop,List.take_append_drop]
  have hl:(tL (xs.take n)).length=n*4:=by rw [tL_len,List.length_take,Nat.min_eq_left (by omega)]
  have:=putAll_eq (tL ys) (tL (xs.take n)) (tL ((xs.drop n).take ys.length)) (tL (xs.drop (n+ys.length))) (by rw [tL_len,tL_len,List.length_take,List.length_drop,Nat.min_eq_left (by omega)])
  rw [hl] at this
  rw [h1,this]
  unfold tset
  rw [tL_append,tL_append]
theorem xtput' {P:Program} {e:TypeId} (K:Nat) (hk: ∀w,(sizeOf e).run P w= .ok K w) (b:Nat) (ty:TypeId) (xs ys:List Int) (n o:Nat) (ho:o=n*4) (hK:K=ys.length*4) (h:n+ys.length<=xs.length):
    OpT P (do Instr.storeAt e (.pointer (some ⟨b,o,none⟩)) (tnV ys);pure .skip) [tb b ty (tnV xs)] Unit (fun _=>undef) (fun _=> [tb b ty (tnV (tset xs n ys))]) (fun _=>True):=by
  intro R w hw
  have hw1:=tb_open R w hw
  have hb:w.heap[b]? =some (.cells (tL xs).toArray ty (0,0)):=hw1.block (i:=0) rfl
  subst ho
  have hc: ∀j,j<(tL ys).length->(w.cell? ⟨b,n*4+0+j,none⟩).isSome=true:=by
    intro j hj
    rw [tL_len] at hj
    have hlen' :n*4+j<(tL xs).length:=by rw [tL_len];omega
    simp [World.cell?,hb,hlen']
  have hst:=run_storeCells_cells (P:=P) b (n*4) (tL ys) 0 w hc (fun j hj=>frozen_of_row w b _ _ ty hb) (tL_one ys)
  simp only [Nat.add_zero] at hst
  have hh:=heap_setCells_same b ty (tL ys) (n*4) w _ hb
  rw [putAll_t h] at hh
  refine ⟨(),w.setCells b (n*4) (tL ys),trivial, .inr ⟨?_,rfl⟩,?_,ext_setCells b _ _ w⟩
  · have hsz:(sizeOf e).run P w= .ok K w:=hk w
    have h2:(tnV ys).cells.size=K:=by show (tL ys).toArray.size=K;rw [List.size_toArray,tL_len,hK]
    have h3:(tnV ys).cells.toList=tL ys:=rfl
    simp [Instr.storeAt,Instr.sureAddr,storeVar,Sem.run_bind,hsz,h2,h3,hst]
  · have:=hw1.set (i:=0) (b:=b) rfl hh (fun c hc=>heap_setCells_other' b _ _ w c hc)
    refine tb_shut R _ ((congrArg (fun H=>Own H R (w.setCells b (n*4) (tL ys))) ?_).mp this)
    funext i
    cases i<;>rfl
def F_tput (ty:TypeId):List Value->List Slot->Ctr:=fun vs hs=>⟨List Int,fun _=>undef,fun zs=> [tb (vblk (varg vs 0)) ty (tnV zs)],fun zs=>zs=tset (utn (sval (sarg hs 0))) (voff (varg vs 0)/4) (utn (varg vs 1))⟩
theorem xtput {P:Program} {e:TypeId} {m:Nat} (K n:Nat) (hk: ∀w,(sizeOf e).run P w= .ok K w) (b:Nat) (ty:TypeId) {xs:List Int} (hx:okT m xs) (ys:List Int) (hy: ∀y∈ys,R4 y) (o:Nat) (ho:o=n*4) (hK:K=ys.length*4) (h:n+ys.length<=m):
    OpT P (do Instr.storeAt e (.pointer (some ⟨b,o,none⟩)) (tnV ys);pure .skip) [tb b ty (tnV xs)] (List Int) (fun _=>undef) (fun zs=> [tb b ty (tnV zs)]) (fun zs=>zs=tset (utn (sval (tb b ty (tnV xs)))) (o/4) (utn (tnV ys))):=by
  intro R w hw
  obtain ⟨_,w',_,hr,ho',he⟩:=xtput' K hk b ty xs ys n o ho hK (by rw [hx.1];exact h) R w hw
  refine ⟨tset xs n ys,w',?_,hr,ho',he⟩
  show _=tset (utn (tnV xs)) (o/4) (utn (tnV ys))
  rw [utn_tnV hx,utn_tnV (n:=ys.length) ⟨rfl,hy⟩,ho,Nat.mul_div_cancel _ (by decide)]
theorem etput {m:Nat} {b:Nat} {ty:TypeId} {xs ys:List Int} (hx:okT m xs) (hy: ∀y∈ys,R4 y) {o n:Nat} (ho:o=n*4) {zs:List Int} (h:zs=tset (utn (sval (tb b ty (tnV xs)))) (o/4) (utn (tnV ys))):zs=tset xs n ys:=by
  have h' :zs=tset (utn (tnV xs)) (o/4) (utn (tnV ys)):=h
  rw [utn_tnV hx,utn_tnV (n:=ys.length) ⟨rfl,hy⟩,ho,Nat.mul_div_cancel _ (by decide)] at h';exact h'
theorem R4s1 {a:Int} (h:R4 a): ∀y∈ [a],R4 y:=by intro y hy;simp at hy;subst hy;exact h
theorem R4s4 {a b c d:Int} (h:okS (a,b,c,d)): ∀y∈ [a,b,c,d],R4 y:=by
  intro y hy;simp at hy
  rcases hy with rfl | rfl | rfl | rfl
  · exact h.a
  · exact h.b
  · exact h.c
  · exact h.d
def F_tputall (ty:TypeId):List Value->List Slot->Ctr:=fun vs _=>⟨Unit,fun _=>undef,fun _=> [tb (vblk (varg vs 0)) ty (varg vs 1)],fun _=>True⟩
theorem xtputall {P:Program} {e:TypeId} {m:Nat} (K:Nat) (hk: ∀w,(sizeOf e).run P w= .ok K w) (b:Nat) (ty:TypeId) {xs ys:List Int} (hx:xs.length=m) (hy:ys.length=m) (hK:K=m*4):
    OpT P (do Instr.storeAt e (.pointer (some ⟨b,0,none⟩)) (tnV ys);pure .skip) [tb b ty (tnV xs)] Unit (fun _=>undef) (fun _=> [tb b ty (tnV ys)]) (fun _=>True):=by
  have h:=xtput' K hk b ty xs ys 0 0 (by simp) (by rw [hK,hy]) (by omega) (P:=P)
  have e1:tset xs 0 ys=ys:=by unfold tset;rw [List.take_zero,List.nil_append,List.drop_eq_nil_of_le (by omega),List.append_nil]
  rw [e1] at h;exact h
end Go.Sx
namespace Go.Sx
open Go.RowKit
inductive RA where
  | acc (l:List Acc)
  | tab (i:Nat)
def TabLoad (P:Program) (t:TypeId) (s:Slot) (a v:Value):Prop:= ∀ (R:HP) (w:World),Own (ofList [s]) R w->(do loadVar t (←asAddr a):Sem Value).run P w= .ok v w
def resT (P : Program) (fr : Nat -> Value) (H : Hp) : List ResultVar -> List RA -> (List Value -> Prop) -> Prop
  | [],_,K=>K []
  | .tmp t::rs,ras,K=>resT P fr H rs ras fun vs=>K (fr t::vs)
  | .cell a t::rs, .acc l::ras,K=>symR P (do loadVar t (←asAddr (fr a))) l H fun v=>resT P fr H rs ras fun vs=>K (v::vs)
  | .cell a t :: rs, .tab i :: ras, K => match H i with
    | .par ns (.val v) A=>TabLoad P t (.par ns (.val v) A) (fr a) v/\resT P fr H rs ras fun vs=>K (v::vs)
    | _=>False
  | _,_,_=>False
def oneV:List Value->Value
  | [v]=>v
  | vs=> .tuple vs.toArray
def readR (fr:Nat->Value):ResultVar->Sem Value
  | .tmp t=>pure (fr t)
  | .cell a t=>do loadVar t (←asAddr (fr a))
theorem resT_sound {P : Program} {fr : Nat -> Value} {H : Hp} {R : HP} {w : World} (ho : Own H R w) : ∀ (rs : List ResultVar) (ras : List RA) (K : List Value -> Prop), resT P fr H rs ras K -> ∃ vs, (rs.mapM (readR fr)).run P w = .ok vs w /\ K vs
  | [],_,K,h=>⟨[],rfl,h⟩
  | .tmp t :: rs, ras, K, h => by
    obtain ⟨vs,hr,hk⟩:=resT_sound ho rs ras _ h
    exact ⟨fr t::vs,by simp [readR,Sem.run_bind,hr],hk⟩
  | .cell a t :: rs, .acc l :: ras, K, h => by
    obtain ⟨v,hv,hk⟩:=symR_sound _ l H _ R w h ho
    obtain ⟨vs,hr,hk⟩:=resT_sound ho rs ras _ hk
    refine ⟨v::vs,?_,hk⟩
    rw [List.mapM_cons,Sem.run_bind]
    show (((do loadVar t (←asAddr (fr a)):Sem Value).run P w).andThen _)=_
    rw [hv]
    simp [Sem.run_bind,hr]
  | .cell a t :: rs, .tab i :: ras, K, h => by
    unfold resT at h
    split at h
    · rename_i ns v A hi
      obtain ⟨hl,h⟩:=h
      obtain ⟨vs,hr,hk⟩:=resT_sound ho rs ras _ h
      have hv:=hl _ w (by
        have:=own_split (ids:= [i]) (by simp) ho
        simp only [List.map_cons,List.map_nil] at this
        rw [hi] at this
        exact this)
      refine ⟨v::vs,?_,hk⟩
      rw [List.mapM_cons,Sem.run_bind]
      show (((do loadVar t (←asAddr (fr a)):Sem Value).run P w).andThen _)=_
      rw [hv]
      simp [Sem.run_bind,hr]
    · exact h.elim
  | .cell a t::rs,[],K,h=>by simp [resT] at h
theorem resF_list (fn:Func) (fr:Nat->Value) (P:Program) (w:World) {vs:List Value} (h:(fn.results.toList.mapM (readR fr)).run P w= .ok vs w):(resF fn fr).run P w= .ok (oneV vs) w:=by
  have e:resF fn fr=(do
      let vs←fn.results.mapM (readR fr)
      pure (if h:vs.size=1 then vs[0] else .tuple vs)):=rfl
  rw [e,Array.mapM_eq_mapM_toList,Sem.run_bind]
  simp only [map_eq_pure_bind,Sem.run_bind,h,Result.andThen_ok]
  rcases vs with _ | ⟨v,_ | ⟨u,vs⟩⟩<;>rfl
def finT (P:Program) (fn:Func) (ras:List RA) (outs:List Nat) {X:Type} (val:X->Value) (us:X->List Slot) (Φ:X->Prop) (e:Exit) (s:St) (_:Script):Prop:=
  match e with
  | .normal | .ret=>resT P s.fr s.H fn.results.toList ras fun vs=> ∃x,Φ x/\oneV vs=val x/\outW outs (us x) s.H (dfW s.df [] True)
  | _=>False
theorem call_of_tab {P:Program} {f:FuncId} {fn:Func} {c:Code} {n:Nat} {args:Array Value} {Hs:List Slot} {X:Type} {val:X->Value} {us:X->List Slot} {Φ:X->Prop}
    (hP : P.follows .mixedOrders = true) (hf : P.funcs[f]? = some fn) (hb : fn.body = some c) (hn : fn.ntmps = n) (hname : (fn.name == "runtime.NumGoroutine") = false)
    (fuel:Nat) (k:Script) (ras:List RA) (outs:List Nat) (hsz:Nat.ble args.size n=true) (ho:nodB outs=true)
    (h:codeW P n none fuel none c k (init args Hs) (finT P fn ras outs val us Φ)):CallT P f args Hs X val us Φ:=by
  refine ⟨enterOK hf hb hname,fun R w hw=> ?_⟩
  subst hn
  have go:CallsIn Fence.wide 0 P f args w fun e w' => ∃x,Φ x/\e= .returned (val x)/\Own (ofList (us x)) R w' /\Ext w w' := ?_
  · exact callsIn_wide.1 go
  refine callsIn_of_wp hf hb trivial ?_
  have hc:=(code_sound hP fuel).1 c k (init args Hs) _ R _ w h (init_rel (Nat.le_of_ble_eq_true hsz)) hw
  refine wpIn_mono hc ?_
  have fin: ∀ (a' :Act) (w' :World) (s' :St),Rel fn.ntmps s' a' ->Own s'.H R w' ->Ext w w' ->(resT P s'.fr s'.H fn.results.toList ras fun vs=> ∃x,Φ x/\oneV vs=val x/\outW outs (us x) s'.H (dfW s'.df [] True))->
      a'.defers= []/\ ∃v,(results fn a'.tmps).run P w' = .ok v w' /\ ∃x,Φ x/\Ending.returned v= .returned (val x)/\Own (ofList (us x)) R w' /\Ext w w' :=by
    intro a' w' s' hr ho' he hs
    obtain ⟨vs,hrun,x,hx,hv,hout⟩:=resT_sound ho' _ ras _ hs
    obtain ⟨hd,hk⟩:=outW_use hout
    refine ⟨?_,val x,by rw [resF_eq hr,←hv];exact resF_list fn s'.fr P w' hrun,x,hx,rfl,(own_sub (nodB_iff.1 ho) ho').weaken fun k=>(hk k).symm,he⟩
    rw [hr.df]
    cases hdf:s'.df with
    | nil=>rfl
    | cons y l=>rw [hdf] at hd;exact absurd hd.1 (by simp)
  rintro e a' w' ⟨s',⟨k',hk⟩,hr,ho',he⟩
  cases e with
  | normal=>exact fin a' w' s' hr ho' he hk
  | ret=>exact fin a' w' s' hr ho' he hk
  | exit id=>exact hk.elim
  | goto l=>exact hk.elim
  | panic ch=>exact hk.elim
  | outgrown=>exact hk.elim
theorem tab_load {P:Program} {t:TypeId} {m:Nat} (K:Nat) (ha: ∀w,(isAgg t).run P w= .ok true w) (hk: ∀w,(sizeOf t).run P w= .ok K w) (hK:K=m*4) {b:Nat} {ty:TypeId} {xs:List Int} (hx:xs.length=m):
    TabLoad P t (tb b ty (tnV xs)) (.pointer (some ⟨b,0,none⟩)) (tnV xs):=by
  intro R w ho
  have hb:=(tb_open R w ho).block (i:=0) rfl
  have hl:((((tnV xs).cells.toList).drop 0).take (tL xs).length)=tL xs:=by
    show ((tL xs).toArray.toList.drop 0).take _=_
    rw [List.toList_toArray,List.drop_zero,List.take_length]
  have hrun:=run_loadCells_list (P:=P) w ⟨b,0,none⟩ (tL xs) (part_get hb 0 (tL xs) hl)
  rw [tL_len,hx,←hK] at hrun
  simp [asAddr,loadVar,Sem.run_bind,ha,hk w,hrun,tnV]
def f_tidx (k:Nat):List Value->Value:=fun vs=> .pointer (some ⟨vblk (varg vs 0),voff (varg vs 0)+(ci (varg vs 1)).toNat*k,none⟩)
theorem xaidxK {P:Program} {t e:TypeId} {n K:Nat} (hu:P.underlying t=some (.array n e)) (hs: ∀w,(sizeOf e).run P w= .ok K w) (b o:Nat) (k:IntKind) (i:Int) (h0:0<=i) (h1:i<(n:Int)):
    PureRun P (do pure (.value (←Instr.indexAt t (.pointer (some ⟨b,o,none⟩)) (.int k i)))) (.pointer (some ⟨b,o+i.toNat*K,none⟩)):=by
  intro w
  have hc:0<=i/\i<(n:Int):=⟨h0,h1⟩
  simp [Instr.indexAt,run_underlying hu,asIntOf,hc,hs w,Addr.add,Instr.sureAddr,Sem.run_bind]
end Go.Sx
namespace Go.Sx
open Go.RowKit
theorem okT_zero (n:Nat):okT n (List.replicate n 0):=⟨by simp,fun x hx=>by rw [List.eq_of_mem_replicate hx];exact R4_zero⟩
theorem asst_R {s:ST} (h:okS s):R4 (asst s):=hAdd_R h.a h.b
noncomputable def jIn (s:BS) (t n:Int):Int×Int:=sIn (asst (pOf s.1 t)) (pOf s.1 t).2.2.2 n
noncomputable def jOut (s:BS) (t n:Int):Int×Int:=sOut (asst (pOf s.1 t)) (pOf s.1 t).2.2.2 n
noncomputable def pJoin (es eh:KV->Value->Ent) (s:BS) (t a n:Int):(Int×Int)×BS:=
  if 4<=t∨16<=a then ((0,1),s) else
  if (jIn s t n).2≠0 then ((0,(jIn s t n).2),s) else
  (((jIn s t n).1, 0), mset s.1 (.int .u8 t) (stV ((hAdd (pOf s.1 t).1 n).1, (pOf s.1 t).2.1, (pOf s.1 t).2.2.1, (hAdd (pOf s.1 t).2.2.2 (jIn s t n).1).1)),
    mset s.2.1 (kk t a) (vI (hAdd (bal s.2.1 t a) (jIn s t n).1).1),s.2.2++ [es s.1 (.int .u8 t)]++ [eh s.2.1 (kk t a)])
noncomputable def pLeave (es eh:KV->Value->Ent) (s:BS) (t a n:Int):(Int×Int)×BS:=
  if 4<=t∨16<=a then ((0,1),s) else
  if n=0 then ((0,3),s) else
  if bal s.2.1 t a<n then ((0,8),s) else
  if (jOut s t n).2≠0 then ((0,(jOut s t n).2),s) else
  if (pOf s.1 t).1<(jOut s t n).1 then ((0,8),s) else
  if (pOf s.1 t).1 - (jOut s t n).1<(pOf s.1 t).2.2.1 then ((0,11),s) else
  (((jOut s t n).1, 0), mset s.1 (.int .u8 t) (stV ((pOf s.1 t).1 - (jOut s t n).1, (pOf s.1 t).2.1, (pOf s.1 t).2.2.1, (hSub (pOf s.1 t).2.2.2 n).1)),
    mset s.2.1 (kk t a) (vI (bal s.2.1 t a - n)),s.2.2++ [es s.1 (.int .u8 t)]++ [eh s.2.1 (kk t a)])
def cTake (c n:Int):Int×Int:=if c<n then (8,c) else (0,c - n)
def cPut (c n:Int):Int×Int:=if M256<=c+n then (2,c) else (0,c+n)
def cGain (s:ST) (n:Int):Int×ST:=if M256<=asst s+n then (2,s) else ((cPut s.1 n).1,(cPut s.1 n).2,s.2)
def cRes (s:ST) (n:Int):Int×ST:=((cPut s.2.2.1 n).1,s.1,s.2.1,(cPut s.2.2.1 n).2,s.2.2.2)
def cRel (s:ST) (n:Int):Int×ST:=((cTake s.2.2.1 n).1,s.1,s.2.1,(cTake s.2.2.1 n).2,s.2.2.2)
def cFront (s:ST) (n:Int):Int×ST:=if (cTake s.1 n).1≠0 then ((cTake s.1 n).1,s) else ((cPut s.2.1 n).1,(cTake s.1 n).2,(cPut s.2.1 n).2,s.2.2)
def cRepay (s:ST) (n:Int):Int×ST:=if (cTake s.2.1 n).1≠0 then ((cTake s.2.1 n).1,s) else ((cPut s.1 n).1,(cPut s.1 n).2,(cTake s.2.1 n).2,s.2.2)
noncomputable def pChg (es:KV->Value->Ent) (f:ST->Int->Int×ST) (s:BS) (t n:Int):Int×BS:=
  if 4<=t then (1,s) else
  if (f (pOf s.1 t) n).1≠0 then ((f (pOf s.1 t) n).1,s) else
  (0,mset s.1 (.int .u8 t) (stV (f (pOf s.1 t) n).2),s.2.1,s.2.2++ [es s.1 (.int .u8 t)])
theorem cTake_R {c n:Int} (hc:R4 c) (hn:R4 n):R4 (cTake c n).2:=by
  unfold cTake;split
  · exact hc
  · unfold R4 at *;dsimp only;omega
theorem cPut_R {c n:Int} (hc:R4 c) (hn:R4 n):R4 (cPut c n).2:=by
  unfold cPut;split
  · exact hc
  · rename_i h;unfold M256 at h;unfold R4 at *;dsimp only;omega
theorem cGain_R {s:ST} {n:Int} (hs:okS s) (hn:R4 n):okS (cGain s n).2:=by
  unfold cGain;split
  · exact hs
  · exact ⟨cPut_R hs.a hn,hs.b,hs.c,hs.d⟩
theorem cRes_R {s:ST} {n:Int} (hs:okS s) (hn:R4 n):okS (cRes s n).2:=⟨hs.a,hs.b,cPut_R hs.c hn,hs.d⟩
theorem cRel_R {s:ST} {n:Int} (hs:okS s) (hn:R4 n):okS (cRel s n).2:=⟨hs.a,hs.b,cTake_R hs.c hn,hs.d⟩
theorem cFront_R {s:ST} {n:Int} (hs:okS s) (hn:R4 n):okS (cFront s n).2:=by
  unfold cFront;split
  · exact hs
  · exact ⟨cTake_R hs.a hn,cPut_R hs.b hn,hs.c,hs.d⟩
theorem cRepay_R {s:ST} {n:Int} (hs:okS s) (hn:R4 n):okS (cRepay s n).2:=by
  unfold cRepay;split
  · exact hs
  · exact ⟨cPut_R hs.a hn,cTake_R hs.b hn,hs.c,hs.d⟩
def cBy (k:Int):ST->Int->Int×ST:=if k=2 then cGain else if k=3 then cRes else if k=4 then cRel else if k=5 then cFront else cRepay
noncomputable def pDo (es eh:KV->Value->Ent) (s:BS) (k t a n:Int):(Int×Int)×BS:=
  if k=0 then pJoin es eh s t a n else if k=1 then pLeave es eh s t a n else
  ((0,(pChg es (cBy k) s t n).1),(pChg es (cBy k) s t n).2)
def rAst (xs:List Int) (t:Nat):Int:=(rInt (xs.getD (4*t) 0+xs.getD (4*t+1) 0)).1
def rSub (a b:Int):Int×Bool:=if a<b then (0,false) else (a - b,true)
theorem rSub_R {a b:Int} (ha:R4 a) (hb:R4 b):R4 (rSub a b).1:=by unfold rSub R4 at *;split<;>dsimp only<;>omega
def addAt (xs:List Int) (i:Nat) (n:Int):List Int:=xs.set i (rInt (xs.getD i 0+n)).1
def subAt (xs:List Int) (i:Nat) (n:Int):List Int:=xs.set i (rSub (xs.getD i 0) n).1
theorem okT.set {m:Nat} {xs:List Int} (h:okT m xs) (i:Nat) {y:Int} (hy:R4 y):okT m (xs.set i y):=⟨by rw [List.length_set];exact h.1,fun x hx=>(List.mem_or_eq_of_mem_set hx).elim (h.2 x) fun e=>e▸hy⟩
def rJoin (xs : List Int) (t a n : Int) : List Int × Int × Int :=
  if 3<t∨15<a then (xs,0,1) else
  if (sIn (rAst xs t.toNat) (xs.getD (4*t.toNat+3) 0) n).2≠0 then (xs,0,(sIn (rAst xs t.toNat) (xs.getD (4*t.toNat+3) 0) n).2) else
  (addAt (addAt (addAt xs (4*t.toNat) n) (4*t.toNat+3) (sIn (rAst xs t.toNat) (xs.getD (4*t.toNat+3) 0) n).1) (16+16*t.toNat+a.toNat) (sIn (rAst xs t.toNat) (xs.getD (4*t.toNat+3) 0) n).1,
    (sIn (rAst xs t.toNat) (xs.getD (4*t.toNat+3) 0) n).1,0)
def rOut (xs:List Int) (t n:Int):Int×Int:=sOut (rAst xs t.toNat) (xs.getD (4*t.toNat+3) 0) n
def rLeave (xs:List Int) (t a n:Int):List Int×Int×Int:=
  if 3<t∨15<a then (xs,0,1) else
  if n=0 then (xs,0,3) else
  if xs.getD (16+16*t.toNat+a.toNat) 0<n then (xs,0,8) else
  if (rOut xs t n).2≠0 then (xs,0,(rOut xs t n).2) else
  if xs.getD (4*t.toNat) 0<(rOut xs t n).1 then (xs,0,8) else
  if xs.getD (4*t.toNat) 0 - (rOut xs t n).1<xs.getD (4*t.toNat+2) 0 then (xs,0,11) else
  ((subAt (xs.set (4*t.toNat) (xs.getD (4*t.toNat) 0 - (rOut xs t n).1)) (4*t.toNat+3) n).set (16+16*t.toNat+a.toNat) (xs.getD (16+16*t.toNat+a.toNat) 0 - n),(rOut xs t n).1,0)
def rBy (xs:List Int) (k t n:Int):Bool×Int×ST:=
  let s:=gS xs (4*t.toNat)
  if k=0 then ((rInt (rAst xs t.toNat+n)).2,2,(rInt (s.1+n)).1,s.2) else
  if k=1 then ((rInt (s.2.2.1+n)).2,2,s.1,s.2.1,(rInt (s.2.2.1+n)).1,s.2.2.2) else
  if k=2 then ((rSub s.2.2.1 n).2,8,s.1,s.2.1,(rSub s.2.2.1 n).1,s.2.2.2) else
  if k=3 then ((rSub s.1 n).2,8,(rSub s.1 n).1,(rInt (s.2.1+n)).1,s.2.2) else
  ((rSub s.2.1 n).2,8,(rInt (s.1+n)).1,(rSub s.2.1 n).1,s.2.2)
def rChg (xs:List Int) (k t n:Int):List Int×Int:=
  if 3<t then (xs,1) else
  if (rBy xs k t n).1=false then (xs,(rBy xs k t n).2.1) else
  (tset xs (4*t.toNat) [(rBy xs k t n).2.2.1,(rBy xs k t n).2.2.2.1,(rBy xs k t n).2.2.2.2.1,(rBy xs k t n).2.2.2.2.2],0)
def rDo (xs:List Int) (k t a n:Int):List Int×Int×Int:=
  if k=0 then rJoin xs t a n else if k=1 then rLeave xs t a n else ((rChg xs (k - 2) t n).1,0,(rChg xs (k - 2) t n).2)
theorem addAt_ok {m:Nat} {xs:List Int} (h:okT m xs) (i:Nat) {n:Int} (hn:R4 n):okT m (addAt xs i n):=h.set i (rInt_R (by have:=(h.get i).1;have:=hn.1;omega))
theorem subAt_ok {m:Nat} {xs:List Int} (h:okT m xs) (i:Nat) {n:Int} (hn:R4 n):okT m (subAt xs i n):=h.set i (rSub_R (h.get i) hn)
theorem rAst_R {m:Nat} {xs:List Int} (h:okT m xs) (t:Nat):R4 (rAst xs t):=rInt_R (by have:=(h.get (4*t)).1;have:=(h.get (4*t+1)).1;omega)
theorem rJoin_R {xs:List Int} (h:okT 80 xs) (t a:Int) {n:Int} (hn:R4 n):okT 80 (rJoin xs t a n).1/\R4 (rJoin xs t a n).2.1:=by
  have hr:=sIn_R (rAst_R h t.toNat) (h.get (4*t.toNat+3)) hn
  unfold rJoin
  split
  · exact ⟨h,R4_zero⟩
  · split
    · exact ⟨h,R4_zero⟩
    · exact ⟨addAt_ok (addAt_ok (addAt_ok h _ hn) _ hr) _ hr,hr⟩
theorem rLeave_R {xs:List Int} (h:okT 80 xs) (t a:Int) {n:Int} (hn:R4 n):okT 80 (rLeave xs t a n).1/\R4 (rLeave xs t a n).2.1:=by
  have hr:R4 (rOut xs t n).1:=sOut_R (rAst_R h t.toNat) (h.get (4*t.toNat+3)) hn
  unfold rLeave
  split
  · exact ⟨h,R4_zero⟩
  split
  · exact ⟨h,R4_zero⟩
  split
  · exact ⟨h,R4_zero⟩
  split
  · exact ⟨h,R4_zero⟩
  split
  · exact ⟨h,R4_zero⟩
  split
  · exact ⟨h,R4_zero⟩
  · have h1:=h.get (4*t.toNat);have h2:=h.get (16+16*t.toNat+a.toNat)
    refine ⟨okT.set (subAt_ok (h.set _ ?_) _ hn) _ ?_,hr⟩
    · unfold R4 at *;omega
    · unfold R4 at *;omega
theorem rBy_R {xs:List Int} (h:okT 80 xs) (k t:Int) {n:Int} (hn:R4 n):okS (rBy xs k t n).2.2:=by
  have s:=h.gS (4*t.toNat)
  have a: ∀ {x:Int},R4 x->R4 (rInt (x+n)).1:=fun hx=>rInt_R (by have:=hx.1;have:=hn.1;omega)
  unfold rBy
  split
  · exact ⟨a s.a,s.b,s.c,s.d⟩
  split
  · exact ⟨s.a,s.b,a s.c,s.d⟩
  split
  · exact ⟨s.a,s.b,rSub_R s.c hn,s.d⟩
  split
  · exact ⟨rSub_R s.a hn,a s.b,s.c,s.d⟩
  · exact ⟨a s.a,rSub_R s.b hn,s.c,s.d⟩
theorem rChg_R {xs:List Int} (h:okT 80 xs) (k t:Int) {n:Int} (hn:R4 n) (ht:0<=t):okT 80 (rChg xs k t n).1:=by
  have hb:=rBy_R h k t hn
  unfold rChg
  split
  · exact h
  split
  · exact h
  · exact h.tset (R4s4 hb) (by simp;omega)
theorem rDo_R {xs:List Int} (h:okT 80 xs) (k t a:Int) {n:Int} (hn:R4 n) (ht:0<=t):okT 80 (rDo xs k t a n).1/\R4 (rDo xs k t a n).2.1:=by
  unfold rDo
  split
  · exact rJoin_R h t a hn
  split
  · exact rLeave_R h t a hn
  · exact ⟨rChg_R h _ t hn ht,R4_zero⟩
end Go.Sx
namespace Go.Sx
open Go.RowKit
section
variable {es eh:KV->Value->Ent} {s:BS} {t a n:Int} {st:ST} {A:Int} {g:Int×Int}
theorem jIn_of (hq:st=pOf s.1 t) (hA:A=asst st) (hg:g=sIn A st.2.2.2 n):g=jIn s t n:=by subst hq hA hg;rfl
theorem jOut_of (hq:st=pOf s.1 t) (hA:A=asst st) (hg:g=sOut A st.2.2.2 n):g=jOut s t n:=by subst hq hA hg;rfl
theorem pJoin_arg (h:4<=t∨16<=a):pJoin es eh s t a n=((0,1),s):=by unfold pJoin;rw [if_pos h]
theorem pJoin_no (h: ¬ (4<=t∨16<=a)) (hq:st=pOf s.1 t) (hA:A=asst st) (hg:g=sIn A st.2.2.2 n) (hz:g.2≠0):pJoin es eh s t a n=((0,g.2),s):=by
  unfold pJoin;rw [if_neg h,←jIn_of hq hA hg,if_pos hz]
theorem pJoin_ok (h: ¬ (4<=t∨16<=a)) (hq:st=pOf s.1 t) (hA:A=asst st) (hg:g=sIn A st.2.2.2 n) (hz:g.2=0) {x1 x2 x3:Int×Int} {y:Int} {m' h' :KV} {L' L'' :List Ent} (c1:x1=hAdd st.1 n) (c2:x2=hAdd st.2.2.2 g.1) (hb:y=bal s.2.1 t a) (c3:x3=hAdd y g.1)
    (hm:m' =mset s.1 (.int .u8 t) (stV (x1.1,st.2.1,st.2.2.1,x2.1))) (hL:L' =s.2.2++ [es s.1 (.int .u8 t)]) (hh:h' =mset s.2.1 (kk t a) (vI x3.1)) (hL2:L'' =L' ++ [eh s.2.1 (kk t a)]):pJoin es eh s t a n=((g.1,0),m',h',L''):=by
  have e:=jIn_of hq hA hg
  unfold pJoin
  rw [if_neg h,←e,if_neg (by rw [hz];exact fun q=>q rfl)]
  subst hm hh hL2 hL c3 hb c2 c1 hq;rfl
theorem pJoin_R {Ks Kh:MK} (hS:StK Ks) (hH:NumK Kh) (hk:KOK Ks s.1) (hh:KOK Kh s.2.1) (hn:R4 n):R4 (pJoin es eh s t a n).1.1:=by
  have q:=hS.of hk t
  unfold pJoin
  split
  · exact R4_zero
  split
  · exact R4_zero
  · exact sIn_R (asst_R q) q.d hn
theorem pLeave_arg (h:4<=t∨16<=a):pLeave es eh s t a n=((0,1),s):=by unfold pLeave;rw [if_pos h]
theorem pLeave_zero (h: ¬ (4<=t∨16<=a)) (hn:n=0):pLeave es eh s t a n=((0,3),s):=by unfold pLeave;rw [if_neg h,if_pos hn]
theorem pLeave_few (h: ¬ (4<=t∨16<=a)) (hn: ¬n=0) {y:Int} (hb:y=bal s.2.1 t a) (hlt:y<n):pLeave es eh s t a n=((0,8),s):=by unfold pLeave;rw [if_neg h,if_neg hn,←hb,if_pos hlt]
theorem pLeave_no (h: ¬ (4<=t∨16<=a)) (hn: ¬n=0) {y:Int} (hb:y=bal s.2.1 t a) (hlt: ¬y<n) (hq:st=pOf s.1 t) (hA:A=asst st) (hg:g=sOut A st.2.2.2 n) (hz:g.2≠0):pLeave es eh s t a n=((0,g.2),s):=by
  unfold pLeave;rw [if_neg h,if_neg hn,←hb,if_neg hlt,←jOut_of hq hA hg,if_pos hz]
theorem pLeave_cash (h: ¬ (4<=t∨16<=a)) (hn: ¬n=0) {y:Int} (hb:y=bal s.2.1 t a) (hlt: ¬y<n) (hq:st=pOf s.1 t) (hA:A=asst st) (hg:g=sOut A st.2.2.2 n) (hz:g.2=0) (hc:st.1<g.1):pLeave es eh s t a n=((0,8),s):=by
  unfold pLeave;rw [if_neg h,if_neg hn,←hb,if_neg hlt,←jOut_of hq hA hg,if_neg (by rw [hz];exact fun q=>q rfl),←hq,if_pos hc]
theorem pLeave_res (h: ¬ (4<=t∨16<=a)) (hn: ¬n=0) {y:Int} (hb:y=bal s.2.1 t a) (hlt: ¬y<n) (hq:st=pOf s.1 t) (hA:A=asst st) (hg:g=sOut A st.2.2.2 n) (hz:g.2=0) (hc: ¬st.1<g.1) (hr:st.1 - g.1<st.2.2.1):pLeave es eh s t a n=((0,11),s):=by
  unfold pLeave;rw [if_neg h,if_neg hn,←hb,if_neg hlt,←jOut_of hq hA hg,if_neg (by rw [hz];exact fun q=>q rfl),←hq,if_neg hc,if_pos hr]
theorem pLeave_ok (h: ¬ (4<=t∨16<=a)) (hn: ¬n=0) {y:Int} (hb:y=bal s.2.1 t a) (hlt: ¬y<n) (hq:st=pOf s.1 t) (hA:A=asst st) (hg:g=sOut A st.2.2.2 n) (hz:g.2=0) (hc: ¬st.1<g.1) (hr: ¬st.1 - g.1<st.2.2.1)
    {c' y' :Int} {x2:Int×Int} {m' h' :KV} {L' L'' :List Ent} (hc' :c' =st.1 - g.1) (c2:x2=hSub st.2.2.2 n) (hy' :y' =y - n) (hm:m' =mset s.1 (.int .u8 t) (stV (c',st.2.1,st.2.2.1,x2.1))) (hL:L' =s.2.2++ [es s.1 (.int .u8 t)]) (hh:h' =mset s.2.1 (kk t a) (vI y')) (hL2:L'' =L' ++ [eh s.2.1 (kk t a)]):pLeave es eh s t a n=((g.1,0),m',h',L''):=by
  have e:=jOut_of hq hA hg
  unfold pLeave
  rw [if_neg h,if_neg hn,←hb,if_neg hlt,←e,if_neg (by rw [hz];exact fun q=>q rfl),←hq,if_neg hc,if_neg hr]
  subst hm hh hL2 hL hy' hc' c2;rfl
theorem pLeave_R {Ks Kh:MK} (hS:StK Ks) (hH:NumK Kh) (hk:KOK Ks s.1) (hh:KOK Kh s.2.1) (hn:R4 n):R4 (pLeave es eh s t a n).1.1:=by
  have q:=hS.of hk t
  unfold pLeave
  repeat' split
  all_goals first | exact R4_zero | exact sOut_R (asst_R q) q.d hn
theorem pChg_arg {f:ST->Int->Int×ST} (h:4<=t):pChg es f s t n=(1,s):=by unfold pChg;rw [if_pos h]
theorem pChg_no {f:ST->Int->Int×ST} (h: ¬4<=t) (hq:st=pOf s.1 t) {x:Int×ST} (hx:x=f st n) (hz:x.1≠0):pChg es f s t n=(x.1,s):=by
  subst hq hx;unfold pChg;rw [if_neg h,if_pos hz]
theorem pChg_ok {f:ST->Int->Int×ST} (h: ¬4<=t) (hq:st=pOf s.1 t) {x:Int×ST} (hx:x=f st n) (hz:x.1=0) {m' :KV} {L' :List Ent} (hm:m' =mset s.1 (.int .u8 t) (stV x.2)) (hL:L' =s.2.2++ [es s.1 (.int .u8 t)]):pChg es f s t n=(0,m',s.2.1,L'):=by
  subst hq hx hm hL;unfold pChg;rw [if_neg h,if_neg (by rw [hz];exact fun q=>q rfl)]
end
section
variable {c n:Int} {x:Int×Int}
theorem cTake_no (h:x=hSub c n) (e:x.2≠0):cTake c n=(8,c):=by
  have:=hSub_cases h;unfold cTake;rw [if_pos (by omega)]
theorem cTake_ok (h:x=hSub c n) (e:x.2=0):cTake c n=(0,x.1):=by
  have:=hSub_cases h;unfold cTake;rw [if_neg (by omega),show x.1=c - n by omega]
theorem cPut_no (h:x=hAdd c n) (e:x.2≠0):cPut c n=(x.2,c):=by
  have:=hAdd_cases h;unfold cPut M256;rw [if_pos (by omega),show x.2=2 by omega]
theorem cPut_ok (h:x=hAdd c n) (e:x.2=0):cPut c n=(0,x.1):=by
  have:=hAdd_cases h;unfold cPut M256;rw [if_neg (by omega),show x.1=c+n by omega]
theorem cGain_no {s:ST} {A:Int} (hA:A=asst s) (h:x=hAdd A n) (e:x.2≠0):cGain s n=(x.2,s):=by
  have:=hAdd_cases h;unfold cGain M256;rw [←hA,if_pos (by omega),show x.2=2 by omega]
theorem cGain_ok {s:ST} {A:Int} (hA:A=asst s) (h:x=hAdd A n) (e:x.2=0) {y:Int×Int} (hy:y=cPut s.1 n):cGain s n=(y.1,y.2,s.2):=by
  have:=hAdd_cases h;unfold cGain M256;rw [←hA,if_neg (by omega),hy]
theorem cFront_no {s:ST} {y:Int×Int} (hy:y=cTake s.1 n) (e:y.1≠0):cFront s n=(y.1,y.2,s.2):=by
  have h2:y.2=s.1:=by rw [hy];unfold cTake at *;split at hy<;>simp_all
  unfold cFront;rw [←hy,if_pos e,h2]
theorem cFront_ok {s:ST} {y z:Int×Int} (hy:y=cTake s.1 n) (e:y.1=0) (hz:z=cPut s.2.1 n):cFront s n=(z.1,y.2,z.2,s.2.2):=by
  unfold cFront;rw [←hy,←hz,if_neg (by omega)]
theorem cRepay_no {s:ST} {y:Int×Int} (hy:y=cTake s.2.1 n) (e:y.1≠0):cRepay s n=(y.1,s.1,y.2,s.2.2):=by
  have h2:y.2=s.2.1:=by rw [hy];unfold cTake at *;split at hy<;>simp_all
  unfold cRepay;rw [←hy,if_pos e,h2]
theorem cRepay_ok {s:ST} {y z:Int×Int} (hy:y=cTake s.2.1 n) (e:y.1=0) (hz:z=cPut s.1 n):cRepay s n=(z.1,z.2,y.2,s.2.2):=by
  unfold cRepay;rw [←hy,←hz,if_neg (by omega)]
end
theorem rInt_sum {a b:Int} (ha:R4 a) (hb:R4 b):R4 (rInt (a+b)).1:=rInt_R (by have:=ha.1;have:=hb.1;omega)
theorem rSub_int {a b:Int} (h:b<=a) (ha:R4 a) (hb:R4 b):rInt (a - b)=rSub a b:=by
  unfold rInt rSub
  have:=ha.2;have:=hb.1
  rw [if_neg (show ¬a<b by omega),if_pos (by omega)]
section
variable {xs zs x1 x2 x3:List Int} {t a n k:Int} {m i j:Nat} {z:Int} {y:Int×Bool} {g:Int×Int} {A:Int}
theorem add_at (e:i=j) (hj:j<m) (hx:okT m xs) (hz:z=xs.getD i 0) (hy:y=rInt (z+n)) (hs:zs=tset xs i [y.1]):zs=addAt xs j n:=by
  subst e;rw [hs,tset_one (by rw [hx.1];exact hj),hy,hz];rfl
theorem sub_at (e:i=j) (hj:j<m) (hx:okT m xs) (hz:z=xs.getD i 0) (hy:y=rSub z n) (hs:zs=tset xs i [y.1]):zs=subAt xs j n:=by
  subst e;rw [hs,tset_one (by rw [hx.1];exact hj),hy,hz];rfl
theorem set_at (e:i=j) (hj:j<m) (hx:okT m xs) (hs:zs=tset xs i [z]):zs=xs.set j z:=by
  subst e;rw [hs,tset_one (by rw [hx.1];exact hj)]
theorem tab_at (e:i=j) (hz:z=xs.getD i 0):z=xs.getD j 0:=by subst e;exact hz
theorem rJoin_arg (h:3<t∨15<a):rJoin xs t a n=(xs,0,1):=by unfold rJoin;rw [if_pos h]
theorem rJoin_no (h: ¬ (3<t∨15<a)) (hA:A=rAst xs t.toNat) (hz:z=xs.getD (4*t.toNat+3) 0) (hg:g=sIn A z n) (h0:g.2≠0):rJoin xs t a n=(xs,0,g.2):=by
  subst hA hz hg;unfold rJoin;rw [if_neg h,if_pos h0]
theorem rJoin_ok (h: ¬ (3<t∨15<a)) (hA:A=rAst xs t.toNat) (hz:z=xs.getD (4*t.toNat+3) 0) (hg:g=sIn A z n) (h0:g.2=0) (h1:x1=addAt xs (4*t.toNat) n) (h2:x2=addAt x1 (4*t.toNat+3) g.1) (h3:x3=addAt x2 (16+16*t.toNat+a.toNat) g.1):rJoin xs t a n=(x3,g.1,0):=by
  subst hA hz h1 h2 h3 hg;unfold rJoin;rw [if_neg h,if_neg (by rw [h0];exact fun q=>q rfl)]
theorem rSub_no (h:y=rSub z n) (e:y.2=false):z<n:=by
  subst h;unfold rSub at e;split at e
  · assumption
  · cases e
theorem rSub_yes (h:y=rSub z n) (e:y.2=true): ¬z<n/\y.1=z - n:=by
  subst h;unfold rSub at e ⊢;split at e
  · cases e
  · rename_i q;exact ⟨q,by rw [if_neg q]⟩
theorem rOut_of {S:Int} (hA:A=rAst xs t.toNat) (hz:S=xs.getD (4*t.toNat+3) 0) (hg:g=sOut A S n):g=rOut xs t n:=by subst hA hz hg;rfl
theorem rLeave_arg (h:3<t∨15<a):rLeave xs t a n=(xs,0,1):=by unfold rLeave;rw [if_pos h]
theorem rLeave_zero (h: ¬ (3<t∨15<a)) (hn:n=0):rLeave xs t a n=(xs,0,3):=by unfold rLeave;rw [if_neg h,if_pos hn]
theorem rLeave_few (h: ¬ (3<t∨15<a)) (hn: ¬n=0) (hb:z=xs.getD (16+16*t.toNat+a.toNat) 0) (hl:z<n):rLeave xs t a n=(xs,0,8):=by unfold rLeave;rw [if_neg h,if_neg hn,←hb,if_pos hl]
theorem rLeave_no (h: ¬ (3<t∨15<a)) (hn: ¬n=0) (hb:z=xs.getD (16+16*t.toNat+a.toNat) 0) (hl: ¬z<n) (hg:g=rOut xs t n) (h0:g.2≠0):rLeave xs t a n=(xs,0,g.2):=by
  unfold rLeave;rw [if_neg h,if_neg hn,←hb,if_neg hl,←hg,if_pos h0]
variable {c r:Int}
theorem rLeave_cash (h: ¬ (3<t∨15<a)) (hn: ¬n=0) (hb:z=xs.getD (16+16*t.toNat+a.toNat) 0) (hl: ¬z<n) (hg:g=rOut xs t n) (h0:g.2=0) (hc:c=xs.getD (4*t.toNat) 0) (hlt:c<g.1):rLeave xs t a n=(xs,0,8):=by
  unfold rLeave;rw [if_neg h,if_neg hn,←hb,if_neg hl,←hg,if_neg (by rw [h0];exact fun q=>q rfl),←hc,if_pos hlt]
theorem rLeave_res (h: ¬ (3<t∨15<a)) (hn: ¬n=0) (hb:z=xs.getD (16+16*t.toNat+a.toNat) 0) (hl: ¬z<n) (hg:g=rOut xs t n) (h0:g.2=0) (hc:c=xs.getD (4*t.toNat) 0) (hlt: ¬c<g.1) (hr:r=xs.getD (4*t.toNat+2) 0) (hq:c - g.1<r):rLeave xs t a n=(xs,0,11):=by
  unfold rLeave;rw [if_neg h,if_neg hn,←hb,if_neg hl,←hg,if_neg (by rw [h0];exact fun q=>q rfl),←hc,if_neg hlt,←hr,if_pos hq]
theorem rLeave_ok (h: ¬ (3<t∨15<a)) (hn: ¬n=0) (hb:z=xs.getD (16+16*t.toNat+a.toNat) 0) (hl: ¬z<n) (hg:g=rOut xs t n) (h0:g.2=0) (hc:c=xs.getD (4*t.toNat) 0) (hlt: ¬c<g.1) (hr:r=xs.getD (4*t.toNat+2) 0) (hq: ¬c - g.1<r)
    {c' z' :Int} (hc' :c' =c - g.1) (hz' :z' =z - n) (h1:x1=xs.set (4*t.toNat) c') (h2:x2=subAt x1 (4*t.toNat+3) n) (h3:x3=x2.set (16+16*t.toNat+a.toNat) z'):rLeave xs t a n=(x3,g.1,0):=by
  unfold rLeave;rw [if_neg h,if_neg hn,←hb,if_neg hl,←hg,if_neg (by rw [h0];exact fun q=>q rfl),←hc,if_neg hlt,←hr,if_neg hq,←hc',←hz',←h1,←h2,←h3]
theorem rChg_arg (h:3<t):rChg xs k t n=(xs,1):=by unfold rChg;rw [if_pos h]
theorem rChg_no {e:Int} {b:Bool} {st:ST} (h: ¬3<t) (hb:rBy xs k t n=(b,e,st)) (he:b=false):rChg xs k t n=(xs,e):=by
  unfold rChg;rw [if_neg h,hb,if_pos he]
theorem rChg_ok {e:Int} {b:Bool} {st:ST} (h: ¬3<t) (hb:rBy xs k t n=(b,e,st)) (he:b=true) (hi:i=4*t.toNat) (hz:zs=tset xs i [st.1,st.2.1,st.2.2.1,st.2.2.2]):rChg xs k t n=(zs,0):=by
  unfold rChg;subst he;rw [if_neg h,hb,if_neg (fun q=>Bool.noConfusion q),hz,hi]
variable {s:ST} {y' :Int×Bool}
theorem rBy0 (hk:k=0) (hs:s=gS xs i) (hi:i=4*t.toNat) (hA:A=rAst xs t.toNat) (h1:y=rInt (A+n)) (h2:y' =rInt (s.1+n)):rBy xs k t n=(y.2,2,y'.1,s.2):=by subst hi hs hA h1 h2;unfold rBy;rw [if_pos hk]
theorem rBy1 (k0: ¬k=0) (hk:k=1) (hs:s=gS xs i) (hi:i=4*t.toNat) (h1:y=rInt (s.2.2.1+n)):rBy xs k t n=(y.2,2,s.1,s.2.1,y.1,s.2.2.2):=by subst hi hs h1;unfold rBy;rw [if_neg k0,if_pos hk]
theorem rBy2 (k0: ¬k=0) (k1: ¬k=1) (hk:k=2) (hs:s=gS xs i) (hi:i=4*t.toNat) (h1:y=rSub s.2.2.1 n):rBy xs k t n=(y.2,8,s.1,s.2.1,y.1,s.2.2.2):=by subst hi hs h1;unfold rBy;rw [if_neg k0,if_neg k1,if_pos hk]
theorem rBy3 (k0: ¬k=0) (k1: ¬k=1) (k2: ¬k=2) (hk:k=3) (hs:s=gS xs i) (hi:i=4*t.toNat) (h1:y=rSub s.1 n) (h2:y' =rInt (s.2.1+n)):rBy xs k t n=(y.2,8,y.1,y'.1,s.2.2):=by subst hi hs h1 h2;unfold rBy;rw [if_neg k0,if_neg k1,if_neg k2,if_pos hk]
theorem rBy4 (k0: ¬k=0) (k1: ¬k=1) (k2: ¬k=2) (k3: ¬k=3) (hs:s=gS xs i) (hi:i=4*t.toNat) (h1:y=rSub s.2.1 n) (h2:y' =rInt (s.1+n)):rBy xs k t n=(y.2,8,y'.1,y.1,s.2.2):=by subst hi hs h1 h2;unfold rBy;rw [if_neg k0,if_neg k1,if_neg k2,if_neg k3]
end
end Go.Sx
namespace Go.Sx
open Go.RowKit
def sumQ (f:Nat->Int):Nat->Int
  | 0=>0
  | n+1=>sumQ f n+f n
theorem sumQ_same {f g:Nat->Int}: ∀ {n:Nat},(∀i,i<n->g i=f i)->sumQ g n=sumQ f n
  | 0,_=>rfl
  | n+1,h=>by rw [sumQ,sumQ,sumQ_same fun i hi=>h i (by omega),h n (by omega)]
theorem sumQ_upd {f g:Nat->Int} {k:Nat}: ∀ {n:Nat},k<n->(∀i,i≠k->g i=f i)->sumQ g n=sumQ f n - f k+g k
  | 0,h,_=>absurd h (Nat.not_lt_zero _)
  | n + 1, h, ho => by
    rcases Nat.lt_or_ge k n with q | q
    · rw [sumQ,sumQ,sumQ_upd q ho,ho n (by omega)];omega
    · have:k=n:=by omega
      subst this
      rw [sumQ,sumQ,sumQ_same fun i hi=>ho i (by omega)];omega
theorem sumQ_nonneg {f:Nat->Int}: ∀ {n:Nat},(∀i,i<n->0<=f i)->0<=sumQ f n
  | 0,_=>Int.le_refl _
  | n+1,h=>by rw [sumQ];have:=sumQ_nonneg fun i hi=>h i (Nat.lt_succ_of_lt hi);have:=h n (Nat.lt_succ_self n);omega
theorem sumQ_le {f:Nat->Int} {k:Nat}: ∀ {n:Nat},k<n->(∀i,i<n->0<=f i)->f k<=sumQ f n
  | 0,h,_=>absurd h (Nat.not_lt_zero _)
  | n + 1, h, h0 => by
    rcases Nat.lt_or_ge k n with q | q
    · rw [sumQ];have:=sumQ_le q fun i hi=>h0 i (Nat.lt_succ_of_lt hi);have:=h0 n (Nat.lt_succ_self n);omega
    · have:k=n:=by omega
      subst this
      rw [sumQ];have:=sumQ_nonneg (n:=k) fun i hi=>h0 i (Nat.lt_succ_of_lt hi);omega
noncomputable def sumB (h:KV) (t:Int):Int:=sumQ (fun i=>bal h t (i:Int)) 16
structure Solv (Ks Kh:MK) (m h:KV):Prop where
  k:KOK Ks m
  kh:KOK Kh h
  fit: ∀t,(pOf m t).1+(pOf m t).2.1<M256
  sum: ∀t,sumB h t=(pOf m t).2.2.2
  le: ∀t,(pOf m t).2.2.2<=(pOf m t).1+(pOf m t).2.1
theorem Solv.asst {Ks Kh:MK} {m h:KV} (v:Solv Ks Kh m h) (t:Int):asst (pOf m t)=(pOf m t).1+(pOf m t).2.1:=by
  have:=v.fit t;unfold M256 at this;unfold Sx.asst hAdd;rw [if_pos this]
theorem bal_nil' (t p:Int):bal [] t p=0:=by unfold bal;rw [mget_nil];exact num_vI R4_zero
theorem pOf_nil (t:Int):pOf [] t=s0:=by unfold pOf;rw [mget_nil];exact un_stV okS0
theorem sumQ_zero: ∀n,sumQ (fun _=>0) n=0
  | 0=>rfl
  | n+1=>by rw [sumQ,sumQ_zero n];rfl
theorem Solv.start {Ks Kh:MK}:Solv Ks Kh [] []:=⟨KOK.nil,KOK.nil,fun t=>by rw [pOf_nil];decide,fun t=>by
  rw [pOf_nil];unfold sumB
  rw [sumQ_same (f:=fun _=>0) fun i _=>bal_nil' t i,sumQ_zero];rfl,fun t=>by rw [pOf_nil];decide⟩
section
variable {Ks Kh:MK} {m h:KV}
theorem balQ_R (hH:NumK Kh) (v:Solv Ks Kh m h) (t p:Int):R4 (bal h t p):=KOK.R4v hH v.kh _
theorem Solv.hold (hH:NumK Kh) (v:Solv Ks Kh m h) (t:Int) {a:Int} (h0:0<=a) (h1:a<16):bal h t a<=(pOf m t).2.2.2:=by
  have:=sumQ_le (f:=fun i=>bal h t (i:Int)) (k:=a.toNat) (n:=16) (by omega) (fun i _=>(balQ_R hH v t i).1)
  rw [←v.sum t]
  simp only [Int.toNat_of_nonneg h0] at this
  exact this
theorem Solv.put (hS:StK Ks) (hH:NumK Kh) (v:Solv Ks Kh m h) {t a x:Int} {s:ST} (ht:Ks.OkK (.int .u8 t)) (ha:Kh.OkK (kk t a)) (h0:0<=a) (h1:a<16) (hs:okS s) (hx:R4 x) (f:s.1+s.2.1<M256) (e:s.2.2.2 - (pOf m t).2.2.2=x - bal h t a) (l:s.2.2.2<=s.1+s.2.1):
    Solv Ks Kh (mset m (.int .u8 t) (stV s)) (mset h (kk t a) (vI x)):=by
  refine ⟨v.k.set ht ((hS _).2 ⟨s,hs,rfl⟩),v.kh.set ha ((hH _).2 ⟨x,hx,rfl⟩),fun t' => ?_,fun t' => ?_,fun t' => ?_⟩
  · rw [pOf_set m hs];split
    · exact f
    · exact v.fit t'
  · rw [pOf_set m hs]
    unfold sumB
    split
    · rename_i q;subst q
      rw [sumQ_upd (f:=fun i=>bal h t' (i:Int)) (k:=a.toNat) (by omega) fun i hi=>by rw [bal_set h hx,if_neg (by omega)],bal_set h hx]
      simp only [Int.toNat_of_nonneg h0]
      have:=v.sum t'
      unfold sumB at this
      rw [if_pos ⟨trivial,trivial⟩,this];omega
    · rename_i q
      rw [sumQ_same (f:=fun i=>bal h t' (i:Int)) fun i _=>by rw [bal_set h hx,if_neg (by omega)]]
      exact v.sum t'
  · rw [pOf_set m hs];split
    · exact l
    · exact v.le t'
theorem Solv.put1 (hS:StK Ks) (v:Solv Ks Kh m h) {t:Int} {s:ST} (ht:Ks.OkK (.int .u8 t)) (hs:okS s) (f:s.1+s.2.1<M256) (e:s.2.2.2=(pOf m t).2.2.2) (l:s.2.2.2<=s.1+s.2.1):Solv Ks Kh (mset m (.int .u8 t) (stV s)) h:=by
  refine ⟨v.k.set ht ((hS _).2 ⟨s,hs,rfl⟩),v.kh,fun t' => ?_,fun t' => ?_,fun t' => ?_⟩
  · rw [pOf_set m hs];split
    · exact f
    · exact v.fit t'
  · rw [pOf_set m hs];split
    · rename_i q;subst q;rw [e];exact v.sum t'
    · exact v.sum t'
  · rw [pOf_set m hs];split
    · exact l
    · exact v.le t'
structure PoolK (Ks Kh:MK):Prop where
  s:StK Ks
  h:NumK Kh
  kt: ∀t:Int,Ks.OkK (.int .u8 t)
  kh: ∀t a:Int,Kh.OkK (kk t a)
variable {es eh:KV->Value->Ent} {L:List Ent} {t a n:Int}
theorem Solv.join (K:PoolK Ks Kh) (v:Solv Ks Kh m h) (hn:R4 n) (h0:0<=a) {x:(Int×Int)×BS} (hx:x=pJoin es eh (m,h,L) t a n):
    (x.1.2≠0/\x.1.1=0/\x.2=(m,h,L))∨(x.1.2=0/\t<4/\a<16/\n≠0/\x.1.1≠0/\R4 x.1.1/\x.1.1=n*((pOf m t).2.2.2+1)/((pOf m t).1+(pOf m t).2.1+1)/\Solv Ks Kh x.2.1 x.2.2.1/\
      (∀t',pOf x.2.1 t' =if t' =t then ((pOf m t).1+n,(pOf m t).2.1,(pOf m t).2.2.1,(pOf m t).2.2.2+x.1.1) else pOf m t')/\(∀t' a',bal x.2.2.1 t' a' =if t' =t/\a' =a then bal h t a+x.1.1 else bal h t' a')/\
      (pOf m t).1+n+(pOf m t).2.1<M256/\x.2.2.2.length<=L.length+2):=by
  have S:=K.s.of v.k t
  have B:=balQ_R K.h v t a
  have F:=v.fit t
  have A:=v.asst t
  subst hx
  unfold pJoin
  split
  · exact .inl ⟨(by decide:(1:Int)≠0),rfl,rfl⟩
  rename_i hc
  have g:=sIn_cases (x:=jIn (m,h,L) t n) rfl
  split
  · rename_i hz;exact .inl ⟨hz,rfl,rfl⟩
  rename_i hz
  have hz' :(jIn (m,h,L) t n).2=0:=by simpa using hz
  have hR:R4 (jIn (m,h,L) t n).1:=sIn_R (asst_R S) S.d hn
  obtain ⟨_,g2,g3,g4,g5,g6⟩:=g.resolve_right fun q=>q.1 hz'
  dsimp only at g2 g3 g4 g5 g6 A F S ⊢
  rw [A] at g2 g5
  have H:=v.hold K.h t h0 (by omega)
  have e1:(hAdd (pOf m t).1 n).1=(pOf m t).1+n:=by unfold hAdd;rw [if_pos (by have:=S.b.1;omega)]
  have e2:(hAdd (pOf m t).2.2.2 (jIn (m,h,L) t n).1).1=(pOf m t).2.2.2+(jIn (m,h,L) t n).1:=by unfold hAdd;rw [if_pos (by omega)]
  have e3:(hAdd (bal h t a) (jIn (m,h,L) t n).1).1=bal h t a+(jIn (m,h,L) t n).1:=by unfold hAdd;rw [if_pos (by omega)]
  rw [e1,e2,e3]
  have hs:okS ((pOf m t).1+n,(pOf m t).2.1,(pOf m t).2.2.1,(pOf m t).2.2.2+(jIn (m,h,L) t n).1):=by
    refine ⟨?_,S.b,S.c,?_⟩
    · have:=S.a.1;have:=S.b.1;have:=hn.1;unfold R4;dsimp only;omega
    · have:=S.d.1;have:=hR.1;unfold R4;dsimp only;omega
  have hb:R4 (bal h t a+(jIn (m,h,L) t n).1):=by have:=B.1;have:=hR.1;unfold R4;omega
  have kp:=keep_in (A:=(pOf m t).1+(pOf m t).2.1) (by have:=S.a.1;have:=S.b.1;omega) S.d.1 hn.1 (v.le t) g2
  refine .inr ⟨rfl,by omega,by omega,g4,g3,hR,g2,v.put K.s K.h (K.kt t) (K.kh t a) h0 (by omega) hs hb ?_ ?_ ?_,fun t' =>by rw [pOf_set m hs],fun t' a' =>by rw [bal_set h hb],?_,by simp⟩
  · unfold M256;dsimp only;omega
  · dsimp only;omega
  · dsimp only;omega
  · unfold M256;omega
theorem Solv.leave (K:PoolK Ks Kh) (v:Solv Ks Kh m h) (hn:R4 n) (h0:0<=a) {x:(Int×Int)×BS} (hx:x=pLeave es eh (m,h,L) t a n):
    (x.1.2≠0/\x.1.1=0/\x.2=(m,h,L)/\(t<4->a<16->n≠0->n<=bal h t a->n*((pOf m t).1+(pOf m t).2.1+1)/((pOf m t).2.2.2+1)<=(pOf m t).1->x.1.2=11∨x.1.2=2))∨(x.1.2=0/\t<4/\a<16/\n<=bal h t a/\x.1.1=n*((pOf m t).1+(pOf m t).2.1+1)/((pOf m t).2.2.2+1)/\Solv Ks Kh x.2.1 x.2.2.1/\
      (∀t',pOf x.2.1 t' =if t' =t then ((pOf m t).1 - x.1.1,(pOf m t).2.1,(pOf m t).2.2.1,(pOf m t).2.2.2 - n) else pOf m t')/\(∀t' a',bal x.2.2.1 t' a' =if t' =t/\a' =a then bal h t a - n else bal h t' a')/\x.2.2.2.length<=L.length+2):=by
  have S:=K.s.of v.k t
  have B:=balQ_R K.h v t a
  have F:=v.fit t
  have A:=v.asst t
  subst hx
  unfold pLeave
  split
  · refine .inl ⟨(by decide:(1:Int)≠0),rfl,rfl,fun q1 q2=> ?_⟩;omega
  rename_i hc
  split
  · exact .inl ⟨(by decide:(3:Int)≠0),rfl,rfl,fun q1 q2 q3=>by omega⟩
  rename_i hn0
  split
  · rename_i q;exact .inl ⟨(by decide:(8:Int)≠0),rfl,rfl,fun q1 q2 q3 q4=>by dsimp only at q;omega⟩
  rename_i hle
  dsimp only at hle
  have H:=v.hold K.h t h0 (by omega)
  have g:=sOut_cases (x:=jOut (m,h,L) t n) rfl
  have gA:Sx.asst (pOf (m,h,L).1 t)=(pOf m t).1+(pOf m t).2.1:=A
  rw [gA] at g
  dsimp only at g
  split
  · rename_i hz
    refine .inl ⟨hz,rfl,rfl,fun q1 q2 q3 q4 q5=> ?_⟩
    obtain ⟨g1,_⟩ | ⟨g1,g2,g3⟩:=g
    · exact absurd g1 hz
    · dsimp only
      have hd:=S.b.1
      rcases g3 with g3 | g3 | g3 | g3
      · exact .inr g3
      · omega
      · omega
      · omega
  rename_i hz
  have hz' :(jOut (m,h,L) t n).2=0:=by simpa using hz
  obtain ⟨_,g2,g3,g4,g5⟩:=g.resolve_right fun q=>q.1 hz'
  have hR:R4 (jOut (m,h,L) t n).1:=sOut_R (asst_R S) S.d hn
  split
  · rename_i q
    refine .inl ⟨(by decide:(8:Int)≠0),rfl,rfl,fun q1 q2 q3 q4 q5=> ?_⟩
    dsimp only at q;rw [←g2] at q5;omega
  rename_i hca
  dsimp only at hca
  split
  · exact .inl ⟨(by decide:(11:Int)≠0),rfl,rfl,fun _ _ _ _ _=> .inl rfl⟩
  rename_i hre
  dsimp only at hre
  have e2:(hSub (pOf m t).2.2.2 n).1=(pOf m t).2.2.2 - n:=by unfold hSub;rw [if_pos (by omega)]
  dsimp only
  rw [e2]
  have hs:okS ((pOf m t).1 - (jOut (m,h,L) t n).1,(pOf m t).2.1,(pOf m t).2.2.1,(pOf m t).2.2.2 - n):=by
    refine ⟨?_,S.b,S.c,?_⟩
    · have:=S.a.2;have:=hR.1;unfold R4;dsimp only;omega
    · have:=S.d.2;have:=hn.1;unfold R4;dsimp only;omega
  have hb:R4 (bal h t a - n):=by have:=B.2;have:=hn.1;unfold R4;omega
  have kp:=keep_out (A:=(pOf m t).1+(pOf m t).2.1) (by have:=S.a.1;have:=S.b.1;omega) S.d.1 hn.1 (v.le t) g3 g2
  refine .inr ⟨rfl,by omega,by omega,by omega,g2,v.put K.s K.h (K.kt t) (K.kh t a) h0 (by omega) hs hb ?_ ?_ ?_,fun t' =>by rw [pOf_set m hs],fun t' a' =>by rw [bal_set h hb],by simp⟩
  · have:=hR.1;dsimp only;omega
  · dsimp only;omega
  · dsimp only;omega
theorem Solv.chg (K:PoolK Ks Kh) (v:Solv Ks Kh m h) {f:ST->Int->Int×ST} (hf: ∀s n,okS s->R4 n->(f s n).1=0->s.1+s.2.1<M256->okS (f s n).2/\(f s n).2.1+(f s n).2.2.1<M256/\s.1+s.2.1<=(f s n).2.1+(f s n).2.2.1/\(f s n).2.2.2.2=s.2.2.2) (hn:R4 n) {x:Int×BS} (hx:x=pChg es f (m,h,L) t n):
    Solv Ks Kh x.2.1 x.2.2.1/\(∀t',(pOf m t').1+(pOf m t').2.1<=(pOf x.2.1 t').1+(pOf x.2.1 t').2.1)/\x.2.2.2.length<=L.length+1:=by
  have S:=K.s.of v.k t
  subst hx
  unfold pChg
  split
  · exact ⟨v,fun _=>Int.le_refl _,Nat.le_succ _⟩
  split
  · exact ⟨v,fun _=>Int.le_refl _,Nat.le_succ _⟩
  rename_i hz
  have hz' :(f (pOf m t) n).1=0:=by simpa using hz
  obtain ⟨f1,f2,f3,f4⟩:=hf _ _ S hn hz' (v.fit t)
  refine ⟨v.put1 K.s (K.kt t) f1 f2 f4 (by have:=v.le t;dsimp only;omega),fun t' => ?_,by simp⟩
  dsimp only
  rw [pOf_set m f1]
  split
  · rename_i q;subst q;exact f3
  · exact Int.le_refl _
theorem cBy_keeps (k:Int) (s:ST) (n:Int) (hs:okS s) (hn:R4 n) (hz:(cBy k s n).1=0) (f:s.1+s.2.1<M256):okS (cBy k s n).2/\(cBy k s n).2.1+(cBy k s n).2.2.1<M256/\s.1+s.2.1<=(cBy k s n).2.1+(cBy k s n).2.2.1/\(cBy k s n).2.2.2.2=s.2.2.2:=by
  have a1:=hs.a.1;have b1:=hs.b.1;have n1:=hn.1
  unfold cBy at *
  split at hz
  · rename_i q
    simp only [if_pos q] at *
    have ha:Sx.asst s=s.1+s.2.1:=by unfold Sx.asst hAdd M256 at *;rw [if_pos f]
    refine ⟨cGain_R hs hn,?_⟩
    unfold cGain at hz ⊢
    rw [ha] at hz ⊢
    split at hz
    · cases hz
    rename_i hq
    rw [if_neg hq]
    unfold cPut at hz ⊢
    split at hz
    · cases hz
    rename_i hq2
    rw [if_neg hq2]
    refine ⟨by dsimp only;omega,by dsimp only;omega,rfl⟩
  split at hz
  · rename_i q0 q
    simp only [if_neg q0,if_pos q] at *
    exact ⟨cRes_R hs hn,f,Int.le_refl _,rfl⟩
  split at hz
  · rename_i q0 q1 q
    simp only [if_neg q0,if_neg q1,if_pos q] at *
    exact ⟨cRel_R hs hn,f,Int.le_refl _,rfl⟩
  split at hz
  · rename_i q0 q1 q2 q
    simp only [if_neg q0,if_neg q1,if_neg q2,if_pos q] at *
    refine ⟨cFront_R hs hn,?_⟩
    unfold cFront at hz ⊢
    split at hz
    · rename_i q;exact absurd hz q
    rename_i hq
    rw [if_neg hq]
    unfold cTake cPut at *
    split at hz
    · cases hz
    rename_i hq2
    rw [if_neg hq2]
    split at hq
    · exact absurd (by dsimp only;decide) hq
    · rename_i hq3
      rw [if_neg hq3]
      refine ⟨by dsimp only;omega,by dsimp only;omega,rfl⟩
  · rename_i q0 q1 q2 q
    simp only [if_neg q0,if_neg q1,if_neg q2,if_neg q] at *
    refine ⟨cRepay_R hs hn,?_⟩
    unfold cRepay at hz ⊢
    split at hz
    · rename_i q;exact absurd hz q
    rename_i hq
    rw [if_neg hq]
    unfold cTake cPut at *
    split at hz
    · cases hz
    rename_i hq2
    rw [if_neg hq2]
    split at hq
    · exact absurd (by dsimp only;decide) hq
    · rename_i hq3
      rw [if_neg hq3]
      refine ⟨by dsimp only;omega,by dsimp only;omega,rfl⟩
theorem Solv.deed (K:PoolK Ks Kh) (v:Solv Ks Kh m h) (k:Int) (hn:R4 n) (h0:0<=a) {x:BS} (hx:x=(pDo es eh (m,h,L) k t a n).2):
    Solv Ks Kh x.1 x.2.1/\(k≠1-> ∀t',(pOf m t').1+(pOf m t').2.1<=(pOf x.1 t').1+(pOf x.1 t').2.1)/\x.2.2.length<=L.length+2:=by
  subst hx
  unfold pDo
  split
  · obtain ⟨_,_,e⟩ | ⟨_,_,_,_,_,_,_,j1,j2,_,_,j3⟩:=v.join K hn h0 (x:=pJoin es eh (m,h,L) t a n) rfl
    · rw [e];exact ⟨v,fun _ _=>Int.le_refl _,by simp⟩
    · refine ⟨j1,fun _ t' => ?_,j3⟩
      rw [j2];split
      · rename_i q;subst q;have:=hn.1;dsimp only;omega
      · exact Int.le_refl _
  split
  · rename_i q
    obtain ⟨_,_,e,_⟩ | ⟨_,_,_,_,_,j1,_,_,j3⟩:=v.leave K hn h0 (x:=pLeave es eh (m,h,L) t a n) rfl
    · rw [e];exact ⟨v,fun p=>absurd q p,by simp⟩
    · exact ⟨j1,fun p=>absurd q p,j3⟩
  · obtain ⟨c1,c2,c3⟩:=v.chg K (fun s n=>cBy_keeps k s n) hn (x:=pChg es (cBy k) (m,h,L) t n) rfl
    exact ⟨c1,fun _=>c2,by dsimp only;omega⟩
end
end Go.Sx
namespace Go.Sx
def sUse (a b:Int):Int:=if a=0 then 0 else if b<=a then 1000000 else a*1000000/b
theorem sUse_mid {a b:Int} (ha:R4 a) (h0:a≠0) (hlt:a<b):0<=a*1000000/b/\a*1000000/b<1000000:=by
  have hb:0<b:=by have:=ha.1;omega
  refine ⟨Int.ediv_nonneg (by have:=ha.1;omega) (by omega),?_⟩
  exact Int.ediv_lt_of_lt_mul hb (by omega)
theorem low_iff {a:Int} (h:R4 a):(a=lim a 0)↔a<18446744073709551616:=by rw [lim0];unfold R4 at h;omega
theorem lim_R4 {a:Int} (i:Nat):R4 (lim a i):=by have:=W_lim a i;unfold W at this;unfold R4;omega
theorem md_use {a b:Int} (ha:R4 a) (h0:a≠0) (hlt:a<b):wMulDiv a 1000000 b=(a*1000000/b,0):=by
  have hb: ¬b=0:=by have:=ha.1;omega
  obtain ⟨h1,h2⟩:=sUse_mid ha h0 hlt
  unfold wMulDiv wNar
  rw [if_neg hb,if_pos (by omega)]
theorem sUse_zero (b:Int):sUse 0 b=0:=rfl
theorem sUse_top {a b:Int} (h0:a≠0) (h:b<=a):sUse a b=1000000:=by unfold sUse;rw [if_neg h0,if_pos h]
theorem sUse_part {a b:Int} (h0:a≠0) (h:a<b):sUse a b=a*1000000/b:=by unfold sUse;rw [if_neg h0,if_neg (by omega)]
end Go.Sx
namespace Go.Sx
open Go.RowKit
def ansB (p r:Int×Int):Bool:=p.1==r.1 && p.2==r.2
noncomputable def doX (es eh:KV->Value->Ent) (xs:List Int) (s:BS) (k t a n:Int):List Int×Bool×BS:=
  ((rDo xs k t a n).1,ansB (pDo es eh s k t a n).1 (rDo xs k t a n).2,(pDo es eh s k t a n).2)
section
variable {es eh:KV->Value->Ent} {xs:List Int} {s:BS} {k t a n:Int}
theorem doX0 (hk:k=0) {r:List Int×Int×Int} {p:(Int×Int)×BS} (hr:r=rJoin xs t a n) (hp:p=pJoin es eh s t a n) {b:Bool} (hb:b=ansB p.1 r.2):doX es eh xs s k t a n=(r.1,b,p.2):=by
  subst hr hp hb;unfold doX pDo rDo;rw [if_pos hk,if_pos hk]
theorem doX1 (h0: ¬k=0) (hk:k=1) {r:List Int×Int×Int} {p:(Int×Int)×BS} (hr:r=rLeave xs t a n) (hp:p=pLeave es eh s t a n) {b:Bool} (hb:b=ansB p.1 r.2):doX es eh xs s k t a n=(r.1,b,p.2):=by
  subst hr hp hb;unfold doX pDo rDo;rw [if_neg h0,if_neg h0,if_pos hk,if_pos hk]
theorem pChg_h (f:ST->Int->Int×ST) (m h:KV) (L:List Ent):pChg es f (m,h,L) t n=((pChg es f (m,[],L) t n).1,(pChg es f (m,[],L) t n).2.1,h,(pChg es f (m,[],L) t n).2.2.2):=by
  unfold pChg;split
  · rfl
  split<;>rfl
theorem doX2 {m h:KV} {L:List Ent} (h0: ¬k=0) (h1: ¬k=1) {r:List Int×Int} {p:Int×BS} {f:ST->Int->Int×ST} (hf:cBy k=f) (hr:r=rChg xs (k - 2) t n) (hp:p=pChg es f (m,[],L) t n):doX es eh xs (m,h,L) k t a n=(r.1,p.1==r.2,p.2.1,h,p.2.2.2):=by
  subst hr hp hf;unfold doX pDo rDo ansB
  rw [if_neg h0,if_neg h0,if_neg h1,if_neg h1,pChg_h (cBy k) m h L]
  simp
end
theorem cBy2 {k:Int} (h:k=2):cBy k=cGain:=by unfold cBy;rw [if_pos h]
theorem cBy3 {k:Int} (h:k=3):cBy k=cRes:=by unfold cBy;rw [if_neg (by omega),if_pos h]
theorem cBy4 {k:Int} (h:k=4):cBy k=cRel:=by unfold cBy;rw [if_neg (by omega),if_neg (by omega),if_pos h]
theorem cBy5 {k:Int} (h:k=5):cBy k=cFront:=by unfold cBy;rw [if_neg (by omega),if_neg (by omega),if_neg (by omega),if_pos h]
theorem cBy6 {k:Int} (h2: ¬k=2) (h3: ¬k=3) (h4: ¬k=4) (h5: ¬k=5):cBy k=cRepay:=by unfold cBy;rw [if_neg h2,if_neg h3,if_neg h4,if_neg h5]
theorem ansB_no {p r:Int×Int} (h:(p.1==r.1)=false):false=ansB p r:=by unfold ansB;rw [h];rfl
theorem ansB_yes {p r:Int×Int} (h:(p.1==r.1)=true):(p.2==r.2)=ansB p r:=by unfold ansB;rw [h];rfl
theorem rem_u8 {k:Int} (n:Int) (h0:0<=k) (h1:k<=255) (hn:0<n):Int.tmod k n=k%n:=Int.tmod_eq_emod_of_nonneg h0
def hSum (ns:List Int):Int×Int:=if ns.sum<M256 then (ns.sum,0) else (0,2)
theorem sum_nonneg: ∀ {l:List Int},(∀x∈l,R4 x)->0<=l.sum
  | [],_=>Int.le_refl _
  | x::l,h=>by rw [List.sum_cons];have:=(h x (List.mem_cons_self ..)).1;have:=sum_nonneg fun y hy=>h y (List.mem_cons_of_mem _ hy);omega
theorem sum_take_le {l:List Int} (h: ∀x∈l,R4 x) (n:Nat):(l.take n).sum<=l.sum:=by
  have e:l.sum=(l.take n).sum+(l.drop n).sum:=by rw [←List.sum_append,List.take_append_drop]
  have:=sum_nonneg (l:=l.drop n) fun x hx=>h x (List.mem_of_mem_drop hx)
  omega
theorem sum_step {l:List Int} {i:Nat} {z:Int} (hz:l[i]? =some z):(l.take (i+1)).sum=(l.take i).sum+z:=by
  rw [List.take_add_one,hz,List.sum_append];simp
theorem hSum_no {l:List Int} (h: ∀x∈l,R4 x) {i:Nat} {z c:Int} {x:Int×Int} (hz:l[i]? =some z) (hc:c=(l.take i).sum) (hx:x=hAdd c z) (e:x.2≠0):hSum l=(0,x.2):=by
  have:=hAdd_cases hx
  have h1:=sum_step hz
  have h2:=sum_take_le h (i+1)
  unfold hSum M256
  rw [if_neg (by omega),show x.2=2 by omega]
theorem hSum_ok {l:List Int} {i:Nat} {z c:Int} {x:Int×Int} (hz:l[i]? =some z) (hc:c=(l.take i).sum) (hx:x=hAdd c z) (e:x.2=0):x.1=(l.take (i+1)).sum:=by
  have:=hAdd_cases hx
  have h1:=sum_step hz
  omega
theorem hSum_end {l:List Int} {i:Nat} {c:Int} (hR:R4 c) (hc:c=(l.take i).sum) (hi:i=l.length):hSum l=(c,0):=by
  subst hi;rw [List.take_length] at hc
  unfold hSum;rw [←hc,if_pos hR.2]
theorem hSum_R {l:List Int} (h: ∀x∈l,R4 x):R4 (hSum l).1:=by
  have:=sum_nonneg h
  unfold hSum;split
  · rename_i q;exact ⟨this,q⟩
  · exact R4_zero
theorem sum_range (f:Nat->Int): ∀n,((List.range n).map f).sum=sumQ f n
  | 0=>rfl
  | n+1=>by rw [List.range_succ,List.map_append,List.sum_append,sum_range f n];simp [sumQ]
noncomputable def pWorth (m:KV) (t:Int):Int:=(sOut (asst (pOf m t)) (pOf m t).2.2.2 (pOf m t).2.2.2).1
def useS (s:ST):Int:=sUse (if (hAdd s.2.2.1 s.2.1).2≠0 then M256 - 1 else (hAdd s.2.2.1 s.2.1).1) (asst s)
noncomputable def pUse (m:KV) (t:Int):Int:=useS (pOf m t)
theorem worth_le {Ks Kh:MK} (hS:StK Ks) {m h:KV} (v:Solv Ks Kh m h) (t:Int):pWorth m t<=(pOf m t).1+(pOf m t).2.1:=by
  have S:=hS.of v.k t
  have A:=v.asst t
  have g:=sOut_cases (x:=sOut (asst (pOf m t)) (pOf m t).2.2.2 (pOf m t).2.2.2) rfl
  unfold pWorth
  rw [A] at g ⊢
  have h1:=S.a.1;have h2:=S.b.1
  rcases g with ⟨_,g,_,_,g5⟩ | ⟨_,g,_⟩
  · exact g5
  · rw [g];omega
theorem live_join {es eh:KV->Value->Ent} {x:(Int×Int)×BS} (h:x=pJoin es eh ([],[],[]) 0 1 100):x.1=(100,0)/\pOf x.2.1 0=(100,0,0,100)/\x.2.2.2.length=2/\ ∀ {Ks Kh:MK},PoolK Ks Kh->KOK Ks x.2.1/\KOK Kh x.2.2.1:=by
  have e1:jIn (([],[],[]):BS) 0 100=(100,0):=by unfold jIn;rw [show (([],[],[]):BS).1= [] from rfl,pOf_nil];decide+kernel
  have e2:x=((100,0),mset [] (.int .u8 0) (stV (100,0,0,100)),mset [] (kk 0 1) (vI 100),[es [] (.int .u8 0)]++ [eh [] (kk 0 1)]):=by
    rw [h];unfold pJoin
    rw [if_neg (by decide),e1,if_neg (by decide)]
    simp only [pOf_nil,bal_nil',s0]
    congr 1
  have ok:okS (100,0,0,100):=⟨by unfold R4;decide,R4_zero,R4_zero,by unfold R4;decide⟩
  refine ⟨by rw [e2],by rw [e2];dsimp only;rw [pOf_set [] ok,if_pos rfl],by rw [e2];rfl,fun K=> ?_⟩
  rw [e2]
  exact ⟨KOK.nil.set (K.kt 0) ((K.s _).2 ⟨_,ok,rfl⟩),KOK.nil.set (K.kh 0 1) ((K.h _).2 ⟨100,by unfold R4;decide,rfl⟩)⟩
theorem live_front {es:KV->Value->Ent} {m:KV} {L:List Ent} (hm:pOf m 0=(100,0,0,100)) {x:Int×BS} (h:x=pChg es cFront (m,[],L) 0 40):x.1=0/\pOf x.2.1 0=(60,40,0,100)/\ ∀ {Ks:MK},StK Ks->Ks.OkK (.int .u8 0)->KOK Ks m->KOK Ks x.2.1:=by
  have ok:okS (60,40,0,100):=⟨by unfold R4;decide,by unfold R4;decide,R4_zero,by unfold R4;decide⟩
  have e1:cFront (100,0,0,100) 40=(0,60,40,0,100):=by decide+kernel
  have e2:x=(0,mset m (.int .u8 0) (stV (60,40,0,100)),[],L++ [es m (.int .u8 0)]):=by
    rw [h];unfold pChg;dsimp only;rw [if_neg (by decide),hm,e1,if_neg (by decide)]
  refine ⟨by rw [e2],by rw [e2];dsimp only;rw [pOf_set m ok,if_pos rfl],fun S k0 km=> ?_⟩
  rw [e2];exact km.set k0 ((S _).2 ⟨_,ok,rfl⟩)
theorem live_use {m:KV} (hm:pOf m 0=(60,40,0,100)) {z:Int} (h:z=pUse m 0):z=400000:=by
  rw [h];unfold pUse;rw [hm];decide+kernel
theorem worth_R {Ks:MK} (hS:StK Ks) {m:KV} (hk:KOK Ks m) (t:Int):R4 (pWorth m t):=sOut_R (asst_R (hS.of hk t)) (hS.of hk t).d (hS.of hk t).d
end Go.Sx
namespace Go.Sx
open Go.RowKit Go.Sort Go.Proofs Go.Shelf
end Go.Sx
namespace Go.Sx
open Go.RowKit Go.Sort Go.Proofs Go.Shelf
def Rise (l:List Value):Prop:=l.Pairwise fun a b=>ci a<ci b
def KeysOf (kk:IntKind) (m:KV) (l:List Value):Prop:=l.Perm (m.map (·.1))/\Rise l/\ ∀v∈l,∃n:Int,v= .int kk n
theorem rise_unique {kk : IntKind} : ∀ {l l' : List Value}, Rise l -> Rise l' -> (∀ v ∈ l, ∃ n : Int, v = .int kk n) -> (∀ v ∈ l', ∃ n : Int, v = .int kk n) -> (∀ v, v ∈ l ↔ v ∈ l') -> l = l'
  | [],[],_,_,_,_,_=>rfl
  | [],b::l',_,_,_,_,h=>absurd ((h b).2 (List.mem_cons_self ..)) (by simp)
  | a::l,[],_,_,_,_,h=>absurd ((h a).1 (List.mem_cons_self ..)) (by simp)
  | a :: l, b :: l', h1, h2, i1, i2, h => by
    unfold Rise at h1 h2
    rw [List.pairwise_cons] at h1 h2
    obtain ⟨n,rfl⟩:=i1 a (List.mem_cons_self ..)
    obtain ⟨k,rfl⟩:=i2 b (List.mem_cons_self ..)
    have e:n=k:=by
      rcases List.mem_cons.1 ((h (.int kk n)).1 (List.mem_cons_self ..)) with e | hm
      · injection e
      · rcases List.mem_cons.1 ((h (.int kk k)).2 (List.mem_cons_self ..)) with e | hm'
        · injection e with _ e;exact e.symm
        · have:=h2.1 _ hm
          have:=h1.1 _ hm'
          simp only [ci] at *
          omega
    subst e
    have hm: ∀v,v∈l↔v∈l' :=fun v=>by
      constructor
      · intro hv
        rcases List.mem_cons.1 ((h v).1 (List.mem_cons_of_mem _ hv)) with e | hm
        · subst e;have:=h1.1 _ hv;exact absurd this (by simp)
        · exact hm
      · intro hv
        rcases List.mem_cons.1 ((h v).2 (List.mem_cons_of_mem _ hv)) with e | hm
        · subst e;have:=h2.1 _ hv;exact absurd this (by simp)
        · exact hm
    rw [rise_unique h1.2 h2.2 (fun v hv=>i1 v (List.mem_cons_of_mem _ hv)) (fun v hv=>i2 v (List.mem_cons_of_mem _ hv)) hm]
def IntKeys (kk:IntKind) (m:KV):Prop:=(∀v∈m.map (·.1),∃n:Int,v= .int kk n)/\MOK m
end Go.Sx
namespace Go.Sx
open Go.RowKit
end Go.Sx
namespace Go.Sx
noncomputable def nz (m:KV) (k:Int):Int:=ci ((mget m (.int .u8 k)).getD (.int .u64 0))
theorem wf8 {n:Int} (h:(Lit.int .u8 n).wf=true):0<=n/\n<=255:=by
  simp [Lit.wf,IntKind.min,IntKind.max,IntKind.signed,IntKind.bits] at h;omega
theorem wrap_u8 (n:Int) (h0:0<=n) (h1:n<=255):IntKind.u8.wrap n=n:=by
  have:IntKind.u8.wrap n=n%256:=by simp [IntKind.wrap,IntKind.bits,IntKind.signed]
  rw [this];omega
structure NxI (i:Nat) (ns:List Int) (m:KV):Prop where
  len:ns.length=16
  eq: ∀k:Nat,k<16->nz m k=ns.getD k 0
  lo: ∀k:Nat,k<16->0<=ns.getD k 0
  hi: ∀k:Nat,k<16->ns.getD k 0<=i
theorem NxI.no {i:Nat} {ns:List Int} {m:KV} (h:NxI i ns m):NxI (i+1) ns m:=⟨h.len,h.eq,h.lo,fun k hk=>by have:=h.hi k hk;omega⟩
end Go.Sx
namespace Go.Sx
theorem wf8' {n:Int} (h:(Lit.int .u8 n).wf=true):0<=n/\n<=255:=wf8 h
theorem bal_nil (t p:Int):bal [] t p=0:=num_vI R4_zero
theorem sup_nil (t:Int):sup [] t=0:=num_vI R4_zero
section
variable {eb es:KV->Value->Ent} {s:BS} {t p q n e:Int}
end
end Go.Sx
namespace Go.Sx
def sumTo (f:Nat->Int):Nat->Int
  | 0=>0
  | n+1=>sumTo f n+f n
theorem sumTo_congr {f g:Nat->Int}: ∀ {n:Nat},(∀p,p<n->f p=g p)->sumTo f n=sumTo g n
  | 0,_=>rfl
  | n+1,h=>by rw [sumTo,sumTo,sumTo_congr (fun p hp=>h p (by omega)),h n (by omega)]
noncomputable def tot (m:KV) (t:Int):Int:=sumTo (fun p=>bal m t p) 18
structure CI (Kb Ks:MK) (s:BS) (more less:Int->Int) (i:Nat):Prop where
  kb:KOK Kb s.1
  ks:KOK Ks s.2.1
  eq: ∀t,0<=t->t<4->tot s.1 t=sup s.2.1 t
  nk:NumK Ks
  bk: ∀t,0<=t->t<4->sup s.2.1 t+less t=more t
  l0: ∀t,0<=t->t<4->0<=less t
  mi: ∀t,0<=t->t<4->more t<=i*M256
theorem ci_start {Kb Ks:MK} (nk:NumK Ks):CI Kb Ks ([],[],[]) (fun _=>0) (fun _=>0) 0:=by
  refine ⟨KOK.nil,KOK.nil,fun t _ _=> ?_,nk,fun t _ _=>by rw [sup_nil];rfl,fun t _ _=>Int.le_refl _,fun t _ _=>by simp⟩
  unfold tot
  rw [sup_nil,sumTo_congr (g:=fun _=>0) (fun p _=>bal_nil t p)];rfl
theorem CI.congr {Kb Ks:MK} {s:BS} {more less more' less' :Int->Int} {i:Nat} (h:CI Kb Ks s more less i) (hm: ∀t,0<=t->t<4->more' t=more t) (hl: ∀t,0<=t->t<4->less' t=less t):CI Kb Ks s more' less' i:=
  ⟨h.kb,h.ks,h.eq,h.nk,fun t h0 h4=>by rw [hm t h0 h4,hl t h0 h4];exact h.bk t h0 h4,fun t h0 h4=>by rw [hl t h0 h4];exact h.l0 t h0 h4,fun t h0 h4=>by rw [hm t h0 h4];exact h.mi t h0 h4⟩
section
variable {Kb Ks:MK} (nb:NumK Kb) (ns:NumK Ks) (ob: ∀t p,Kb.OkK (kk t p)) (os: ∀t:Int,Ks.OkK (.int .u8 t))
end
structure BL where
  i:Nat
  s:BS
  M:Nat->Row
  L:Nat->Row
  b:Nat
  bm:Nat
  bs:Nat
  bj:Nat
  am:Nat
  al:Nat
def rowsv (M:Nat->Row) (t:Int):Int:=nv (dg (M t.toNat))
structure BLOK (Kb Ks:MK) (x:BL):Prop where
  ci:CI Kb Ks x.s (rowsv x.M) (rowsv x.L) x.i
  rm: ∀k,k<4->RowOK (x.M k)/\Canon (dg (x.M k))
  rl: ∀k,k<4->RowOK (x.L k)/\Canon (dg (x.L k))
  ln:x.s.2.2.length<=3*x.i
theorem BLOK.start {Kb Ks:MK} (nk:NumK Ks) (b bm bs bj am al:Nat):BLOK Kb Ks ⟨0,([],[],[]),fun _=>Row.nil,fun _=>Row.nil,b,bm,bs,bj,am,al⟩:=
  ⟨(ci_start nk).congr (fun _ _ _=>rfl) (fun _ _ _=>rfl),fun _ _=>⟨RowOK.nil,show ([]:List Int).getLast? ≠some 0 by simp⟩,fun _ _=>⟨RowOK.nil,show ([]:List Int).getLast? ≠some 0 by simp⟩,Nat.zero_le _⟩
section
variable {Kb Ks:MK}
theorem BLOK.bk {x:BL} (h:BLOK Kb Ks x) {k:Nat} (hk:k<4):sup x.s.2.1 k+nv (dg (x.L k))=nv (dg (x.M k)):=h.ci.bk k (by omega) (by omega)
end
end Go.Sx
namespace Go.Sx
open Go.RowKit
def EqM (a b:KV):Prop:= ∀k,mget a k=mget b k
theorem EqM.refl (a:KV):EqM a a:=fun _=>rfl
theorem EqM.trans {a b c:KV} (h:EqM a b) (k:EqM b c):EqM a c:=fun x=>(h x).trans (k x)
theorem EqM.symm {a b:KV} (h:EqM a b):EqM b a:=fun x=>(h x).symm
theorem mget_of_mem {m:KV} (hm:MOK m) {e:Value×Value} (he:e∈m):mget m e.1=some e.2:=by
  induction m with
  | nil=>cases he
  | cons x m ih =>
    have hn:x.1∉m.map (·.1)/\(m.map (·.1)).Nodup:=List.nodup_cons.1 hm
    rw [mget_cons]
    rcases List.mem_cons.1 he with rfl | h
    · rw [if_pos rfl]
    · rw [if_neg (fun e' =>hn.1 (by rw [e'];exact List.mem_map_of_mem h)),ih hn.2 h]
theorem nodup_len {α:Type} [DecidableEq α]: ∀ {l l' :List α},l.Nodup->(∀x∈l,x∈l')->l.length<=l'.length
  | [],_,_,_=>Nat.zero_le _
  | a :: l, l', hn, hs => by
    have ha:a∈l' :=hs a (List.mem_cons_self ..)
    have hn' :=List.nodup_cons.1 hn
    have:=nodup_len (l:=l) (l' :=l'.erase a) hn'.2 (fun x hx=>(List.mem_erase_of_ne (fun e=>hn'.1 (by rw [←e];exact hx))).2 (hs x (List.mem_cons_of_mem _ hx)))
    rw [List.length_erase_of_mem ha] at this
    have h0:0<l'.length:=List.length_pos_of_mem ha
    simp only [List.length_cons]
    omega
theorem EqM.len {a b:KV} (h:EqM a b) (ha:MOK a) (hb:MOK b):a.length=b.length:=by
  have key: ∀ {a b:KV},EqM a b->MOK a->a.length<=b.length:=by
    intro a b h ha
    have:=nodup_len (l:=a.map (·.1)) (l' :=b.map (·.1)) (show (a.map (·.1)).Nodup from ha) (fun x hx=>by
      obtain ⟨e,he,rfl⟩:=List.mem_map.1 hx
      have h1:=mget_of_mem ha he
      rw [h e.1] at h1
      exact List.mem_map_of_mem (f:=(·.1)) (mget_mem h1))
    simpa using this
  exact Nat.le_antisymm (key h ha) (key h.symm hb)
theorem EqM.set {a b:KV} (h:EqM a b) (k v:Value):EqM (mset a k v) (mset b k v):=fun x=>by rw [mget_set,mget_set,h x]
theorem EqM.del {a b:KV} (h:EqM a b) (ha:MOK a) (hb:MOK b) (k:Value):EqM (mdel a k) (mdel b k):=fun x=>by rw [mget_del ha,mget_del hb,h x]
noncomputable def undoB (b:Nat) (E:List Ent) (m:KV):KV:=E.foldr (fun e m=>if b=e.b then e.undo m else m) m
theorem undoB_snoc (b:Nat) (E:List Ent) (e:Ent) (m:KV):undoB b (E++ [e]) m=undoB b E (if b=e.b then e.undo m else m):=by unfold undoB;rw [List.foldr_append];rfl
def Und (b:Nat) (m m' :KV) (E:List Ent):Prop:= ∀m2,MOK m2->EqM m2 m' ->MOK (undoB b E m2)/\EqM (undoB b E m2) m
theorem Und.nil (b:Nat) (m:KV):Und b m m []:=fun m2 h e=>⟨h,e⟩
theorem undo_mok {e:Ent} {m:KV} (h:MOK m):MOK (e.undo m):=by
  unfold Ent.undo
  cases e.was with
  | none=>exact h.del _
  | some v=>exact h.set _ _
theorem mget_undo {e:Ent} {m:KV} (h:MOK m) (k:Value):mget (e.undo m) k=if k=e.key then e.was else mget m k:=by
  unfold Ent.undo
  cases e.was with
  | none=>exact mget_del h _ _
  | some v=>exact mget_set _ _ _ _
theorem Und.snoc {b:Nat} {m m' m3:KV} {E:List Ent} (h:Und b m m' E) {e:Ent} (hb:e.b=b) (hw:e.was=mget m' e.key) (ho: ∀k,k≠e.key->mget m3 k=mget m' k):Und b m m3 (E++ [e]):=fun m2 h2 e2=>by
  rw [undoB_snoc,if_pos hb.symm]
  refine h _ (undo_mok h2) fun k=> ?_
  rw [mget_undo h2]
  by_cases hk:k=e.key
  · rw [if_pos hk,hw,hk]
  · rw [if_neg hk,e2 k,ho k hk]
theorem Und.set {b:Nat} {m m' :KV} {E:List Ent} (h:Und b m m' E) {e:Ent} (hb:e.b=b) (hw:e.was=mget m' e.key) (v:Value):Und b m (mset m' e.key v) (E++ [e]):=
  h.snoc hb hw fun k hk=>by rw [mget_set,if_neg hk]
structure PMs where
  mn:KV
  mx:KV
  mb:KV
  ms:KV
structure PMOK (Kn Kx Kb Ks:MK) (s:PMs):Prop where
  n:KOK Kn s.mn
  x:KOK Kx s.mx
  b:KOK Kb s.mb
  s:KOK Ks s.ms
def TryM (Kx Kb Ks:MK) (fl:Bool) (mx mb ms:KV) (k v:Int) (e:Int) (mx' mb' ms' :KV):Prop:=
  KOK Kx mx' /\KOK Kb mb' /\KOK Ks ms' /\((fl=true/\e=11/\EqM mx' mx/\bal mb' 0 2=bal mb 0 2/\sup ms' 0=sup ms 0)∨(fl=false/\e=0/\mx' =mset mx (.int .i64 k) (.int .i64 v)/\bal mb' 0 2=bal mb 0 2+1/\sup ms' 0=sup ms 0+1))
structure PMI (Kx Kb Ks:MK) (i:Nat) (mx mb ms mv:KV) (sum:Int):Prop where
  x:KOK Kx mx
  b:KOK Kb mb
  s:KOK Ks ms
  v:KOK Kx mv
  eq:EqM mx mv
  bal:bal mb 0 2=sum
  sup:sup ms 0=sum
  lo:0<=sum
  hi:sum<=i
theorem PMI.start {Kx Kb Ks:MK}:PMI Kx Kb Ks 0 [] [] [] [] 0:=⟨KOK.nil,KOK.nil,KOK.nil,KOK.nil,EqM.refl _,bal_nil 0 2,sup_nil 0,Int.le_refl _,Int.le_refl _⟩
theorem PMI.done {Kx Kb Ks:MK} {i:Nat} {mx mb ms mv mx' mb' ms' :KV} {sum k v e:Int} (h:PMI Kx Kb Ks i mx mb ms mv sum) (ok:Kx.OkK (.int .i64 k)) (ov:Kx.OkV (.int .i64 v)) (t:TryM Kx Kb Ks false mx mb ms k v e mx' mb' ms'):e=0/\PMI Kx Kb Ks (i+1) mx' mb' ms' (mset mv (.int .i64 k) (.int .i64 v)) (sum+1):=by
  obtain ⟨h1,h2,h3,⟨h4,_⟩ | ⟨_,h4,h5,h6,h7⟩⟩:=t
  · cases h4
  · exact ⟨h4,h1,h2,h3,h.v.set ok ov,by rw [h5];exact h.eq.set _ _,by rw [h6,h.bal],by rw [h7,h.sup],by have:=h.lo;omega,by have:=h.hi;omega⟩
theorem SlX.cells {X:Type} {w:World} {n:Nat} {val:X->Value} {Ok:X->Prop} {v:Value} {xs:List X} (h:SlX w n val Ok v xs):v.cells= #[v]:=by
  rcases h.sl.form with rfl | ⟨a,len,cap,rfl⟩<;>rfl
end Go.Sx
namespace Go.Sx
open Go.RowKit
structure EntOK (b:Nat) (ent:KV->Value->Ent):Prop where
  b: ∀m k,(ent m k).b=b
  key: ∀m k,(ent m k).key=k
  was: ∀m k,(ent m k).was=mget m k
def Jr (K:MK) (ent:KV->Value->Ent) (hs:List KV) (L:List Ent) (m:KV):Prop:=
  hs.length=L.length/\ ∀i e,L[i]? =some e-> ∃m0 key h h',e=ent m0 key/\K.OkK key/\KOK K m0/\hs[i]? =some h/\(hs++ [m])[i+1]? =some h' /\EqM m0 h/\ ∀k,k≠key->mget h' k=mget h k
theorem Jr.nil {K:MK} {ent:KV->Value->Ent} (m:KV):Jr K ent [] [] m:=⟨rfl,fun i e h=>by simp at h⟩
theorem Jr.push {K:MK} {ent:KV->Value->Ent} {hs:List KV} {L:List Ent} {m m' :KV} (h:Jr K ent hs L m) (hk:KOK K m) {key:Value} (ok:K.OkK key) (ho: ∀k,k≠key->mget m' k=mget m k):Jr K ent (hs++ [m]) (L++ [ent m key]) m' :=by
  refine ⟨by simp [h.1],fun i e he=> ?_⟩
  rcases Nat.lt_or_ge i L.length with q | q
  · rw [List.getElem?_append_left q] at he
    obtain ⟨m0,k0,h0,h1,e1,e2,e3,e4,e5,e6,e7⟩:=h.2 i e he
    refine ⟨m0,k0,h0,h1,e1,e2,e3,?_,?_,e6,e7⟩
    · rw [List.getElem?_append_left (by rw [h.1];exact q)];exact e4
    · rw [List.getElem?_append_left (by simp [h.1];omega)];exact e5
  · have hi:i=L.length:=by
      have:=(List.getElem?_eq_some_iff.1 he).1
      simp at this;omega
    subst hi
    simp at he;subst he
    refine ⟨m,key,m,m',rfl,ok,hk,by simp [←h.1],?_,EqM.refl _,ho⟩
    rw [List.getElem?_append_right (by simp [h.1])]
    simp [h.1]
theorem Und.cons {b:Nat} {h h' m:KV} {E:List Ent} (u:Und b h' m E) {e:Ent} (hb:e.b=b) (hw:e.was=mget h e.key) (ho: ∀k,k≠e.key->mget h' k=mget h k):Und b h m (e::E):=fun m2 h2 e2=>by
  obtain ⟨a1,a2⟩:=u m2 h2 e2
  have e3:undoB b (e::E) m2=e.undo (undoB b E m2):=by
    show (if b=e.b then e.undo (undoB b E m2) else undoB b E m2)=_
    rw [if_pos hb.symm]
  rw [e3]
  refine ⟨undo_mok a1,fun k=> ?_⟩
  rw [mget_undo a1]
  by_cases hk:k=e.key
  · rw [if_pos hk,hw,hk]
  · rw [if_neg hk,a2 k,ho k hk]
theorem Jr.und {K:MK} {ent:KV->Value->Ent} {b:Nat} (E:EntOK b ent) {hs:List KV} {L:List Ent} {m:KV} (h:Jr K ent hs L m): ∀ (d n:Nat),n+d=L.length-> ∀h0,(hs++ [m])[n]? =some h0->Und b h0 m (L.drop n)
  | 0, n, hd, h0, hn => by
    have:n=hs.length:=by rw [h.1];omega
    subst this
    simp at hn;subst hn
    rw [List.drop_eq_nil_of_le (by rw [h.1];exact Nat.le_refl _)];exact Und.nil b _
  | d + 1, n, hd, h0, hn => by
    have hlt:n<L.length:=by omega
    obtain ⟨m0,key,a,a',e1,_,_,e4,e5,e6,e7⟩:=h.2 n L[n] (List.getElem?_eq_getElem hlt)
    have ha:h0=a:=by
      rw [List.getElem?_append_left (by rw [h.1];exact hlt),e4] at hn
      injection hn with hn;exact hn.symm
    subst ha
    rw [List.drop_eq_getElem_cons hlt]
    refine Und.cons (h.und E d (n+1) (by omega) a' e5) (by rw [e1];exact E.b _ _) ?_ ?_
    · rw [e1,E.was,E.key];exact e6 key
    · intro k hk
      rw [e1,E.key] at hk
      exact e7 k hk
theorem keys_le {m:KV} (hm:MOK m) {l:List Value} (h: ∀k v,mget m k=some v->k∈l):m.length<=l.length:=by
  have:=nodup_len (l:=m.map (·.1)) (l' :=l) (show (m.map (·.1)).Nodup from hm) (fun x hx=>by
    obtain ⟨e,he,rfl⟩:=List.mem_map.1 hx
    exact h _ _ (mget_of_mem hm he))
  simpa using this
theorem KeysOf.len {kk:IntKind} {m:KV} {l:List Value} (h:KeysOf kk m l):l.length=m.length:=by simpa using h.1.length_eq
theorem KeysOf.mem {kk:IntKind} {m:KV} {l:List Value} (h:KeysOf kk m l) (hm:MOK m) {i:Nat} {k:Value} (hi:l[i]? =some k): ∃v,mget m k=some v:=by
  have hk:k∈m.map (·.1):=h.1.mem_iff.1 (List.mem_of_getElem? hi)
  obtain ⟨e,he,rfl⟩:=List.mem_map.1 hk
  exact ⟨e.2,mget_of_mem hm he⟩
theorem pairs_at {z:Value} {m:KV} {l:List Value} {i:Nat} {x:Int×Int} (h:(pairsOf z m l)[i]? =some (p2V x)):l[i]? =some (.int .i64 x.1)/\(mget m (.int .i64 x.1)).getD z= .int .i64 x.2:=by
  unfold pairsOf at h
  rw [List.getElem?_map] at h
  cases hl:l[i]? with
  | none=>rw [hl] at h;cases h
  | some k =>
    rw [hl] at h
    simp only [Option.map_some,p2V,Option.some.injEq,Value.agg.injEq] at h
    have h1:=congrArg Array.toList h
    simp only [List.cons.injEq,and_true] at h1
    obtain ⟨rfl,h2⟩:=h1
    exact ⟨rfl,h2⟩
theorem pairs_len {z:Value} {m:KV} {l:List Value}:(pairsOf z m l).length=l.length:=by unfold pairsOf;simp
theorem keys_eq {kk:IntKind} {m n:KV} (hm:MOK m) (hn:MOK n) (h:EqM m n) {l l' :List Value} (h1:KeysOf kk m l) (h2:KeysOf kk n l'):l=l' :=by
  have key: ∀ {a b:KV},MOK a->EqM a b-> ∀v,v∈a.map (·.1)->v∈b.map (·.1):=by
    intro a b ha h v hv
    obtain ⟨e,he,rfl⟩:=List.mem_map.1 hv
    have:=mget_of_mem ha he
    rw [h e.1] at this
    exact List.mem_map_of_mem (f:=(·.1)) (mget_mem this)
  exact rise_unique h1.2.1 h2.2.1 h1.2.2 h2.2.2 fun v=>⟨fun hv=>h2.1.mem_iff.2 (key hm h v (h1.1.mem_iff.1 hv)),fun hv=>h1.1.mem_iff.2 (key hn h.symm v (h2.1.mem_iff.1 hv))⟩
end Go.Sx
namespace Go.Sx
open Go.RowKit
theorem Jr.set {K:MK} {ent:KV->Value->Ent} {hs:List KV} {L:List Ent} {m:KV} (h:Jr K ent hs L m) (hk:KOK K m) {k v:Value} (ok:K.OkK k) (ov:K.OkV v):Jr K ent (hs++ [m]) (L++ [ent m k]) (mset m k v)/\KOK K (mset m k v):=
  ⟨h.push hk ok fun k' hk' =>by rw [mget_set,if_neg hk'],hk.set ok ov⟩
theorem Jr.del {K:MK} {ent:KV->Value->Ent} {hs:List KV} {L:List Ent} {m:KV} (h:Jr K ent hs L m) (hk:KOK K m) {k:Value} (ok:K.OkK k):Jr K ent (hs++ [m]) (L++ [ent m k]) (mdel m k)/\KOK K (mdel m k):=
  ⟨h.push hk ok fun k' hk' =>by rw [mget_del hk.once,if_neg hk'],hk.del k⟩
abbrev iv (n:Int):Value:= .int .i64 n
structure IntK (K:MK):Prop where
  k: ∀n,K.OkK (iv n)
  k' : ∀v,K.OkK v-> ∃n,v=iv n
  v: ∀n:Int,(Lit.int .i64 n).wf=true->K.OkV (iv n)
  v' : ∀x,K.OkV x-> ∃n:Int,(Lit.int .i64 n).wf=true/\x=iv n
def SO1 (K:MK) (ls:List Int) (i:Nat) (m:KV) (n:Nat):Prop:=i<=ls.length/\KOK K m/\(∀k v,mget m k=some v->v=iv 1/\ ∃j z,j<i/\ls[j]? =some z/\k=iv z)/\n=i
theorem SO1.start {K:MK} {ls:List Int}:SO1 K ls 0 [] 0:=by
  refine ⟨Nat.zero_le _,KOK.nil,fun k v h=> ?_,rfl⟩
  rw [mget_nil] at h;cases h
theorem SO1.step {K:MK} (I:IntK K) {ls:List Int} {i:Nat} {m:KV} {n:Nat} (h:SO1 K ls i m n) {z:Int} (hz:ls[i]? =some z):SO1 K ls (i+1) (mset m (iv z) (iv 1)) (n+1):=by
  have hlt:=(List.getElem?_eq_some_iff.1 hz).1
  refine ⟨hlt,h.2.1.set (I.k z) (I.v 1 rfl),fun k v hk=> ?_,by rw [h.2.2.2]⟩
  rw [mget_set] at hk
  by_cases e:k=iv z
  · rw [if_pos e] at hk
    injection hk with hk
    exact ⟨hk.symm,i,z,Nat.lt_succ_self i,hz,e⟩
  · rw [if_neg e] at hk
    obtain ⟨h1,j,y,hj,h2,h3⟩:=h.2.2.1 k v hk
    exact ⟨h1,j,y,Nat.lt_succ_of_lt hj,h2,h3⟩
theorem SO1.len {K:MK} {ls:List Int} {i:Nat} {m:KV} {n:Nat} (h:SO1 K ls i m n):m.length<=ls.length:=by
  have:=keys_le h.2.1.once (l:=ls.map iv) (fun k v hk=>by
    obtain ⟨_,j,z,_,hz,rfl⟩:=h.2.2.1 k v hk
    exact List.mem_map_of_mem (List.mem_of_getElem? hz))
  simpa using this
theorem SO1.int {K:MK} (I:IntK K) {m:KV} (h:KOK K m):IntKeys .i64 m:=⟨fun v hv=>by
  obtain ⟨e,he,rfl⟩:=List.mem_map.1 hv
  exact I.k' _ (h.ok e he).1,h.once⟩
def SO2 (K:MK) (ls:List Int) (i:Nat) (m:KV) (n:Nat):Prop:=i<=ls.length/\KOK K m/\(∀k v,mget m k=some v-> ∃j z,i<=j/\ls[j]? =some z/\k=iv z)/\n<=ls.length+2*i
theorem SO2.step {K:MK} (I:IntK K) {ls:List Int} {i:Nat} {m:KV} {n n' :Nat} (h:SO2 K ls i m n) {z:Int} (hz:ls[i]? =some z) (hn:n' <=n+2):SO2 K ls (i+1) (mdel (mset m (iv z) (iv 2)) (iv z)) n' :=by
  have hlt:=(List.getElem?_eq_some_iff.1 hz).1
  have hs:=h.2.1.set (I.k z) (I.v 2 rfl)
  refine ⟨hlt,hs.del _,fun k v hk=> ?_,by have:=h.2.2.2;omega⟩
  rw [mget_del hs.once] at hk
  by_cases e:k=iv z
  · rw [if_pos e] at hk;cases hk
  · rw [if_neg e,mget_set,if_neg e] at hk
    obtain ⟨j,y,hj,h2,h3⟩:=h.2.2.1 k v hk
    refine ⟨j,y,?_,h2,h3⟩
    rcases Nat.lt_or_ge i j with q | q
    · exact q
    · have:j=i:=by omega
      subst this
      rw [hz] at h2
      injection h2 with h2
      exact absurd (by rw [h3,h2]) e
theorem SO2.done {K:MK} {ls:List Int} {m:KV} {n:Nat} (h:SO2 K ls ls.length m n):m.length=0:=by
  have:=keys_le h.2.1.once (l:= []) (fun k v hk=>by
    obtain ⟨j,z,h1,h2,_⟩:=h.2.2.1 k v hk
    rw [List.getElem?_eq_none h1] at h2;cases h2)
  exact Nat.le_antisymm this (Nat.zero_le _)
def SO3 (K:MK) (y:Row) (g:RK 2):Prop:= ∃m,KOK K m/\KeysOf .i64 m (vals y)/\vals g.1=pairsOf (iv 0) m (vals y)/\ ∀k v,mget m k=some v->v=iv 1
theorem SO3.of {K:MK} {ls:List Int} {i n:Nat} {m:KV} (h:SO1 K ls i m n) {x y:Row} (hx:KeysOf .i64 m (vals x)) (hy:KeysOf .i64 m (vals y)) {g:RK 2} (hg:vals g.1=pairsOf (iv 0) m (vals x)):SO3 K y g:=
  ⟨m,h.2.1,hy,by rw [hg,keys_eq h.2.1.once h.2.1.once (EqM.refl _) hx hy],fun k v hk=>(h.2.2.1 k v hk).1⟩
theorem SO3.len {K:MK} {y:Row} {g:RK 2} (h:SO3 K y g):(vals g.1).length=(vals y).length:=by
  obtain ⟨m,_,_,h3,_⟩:=h
  rw [h3,pairs_len]
theorem SO3.shape {K:MK} (I:IntK K) {y:Row} {g:RK 2} (h:SO3 K y g) {i:Nat} (hi:i<(vals g.1).length): ∃x0,(vals g.1)[i]? =some (p2V x0):=by
  have hl:=h.len
  obtain ⟨m,h1,h2,h3,_⟩:=h
  obtain ⟨z,hz⟩:=int_at h2.2.2 (n:=i) (by omega)
  obtain ⟨w,_,hw⟩:=I.v' _ (kok_val h1 (z:=iv 0) (I.v 0 rfl) (iv z))
  refine ⟨(z,w),?_⟩
  rw [h3]
  unfold pairsOf
  rw [List.getElem?_map,hz,Option.map_some]
  show some (Value.agg #[iv z,(mget m (iv z)).getD (iv 0)])=_
  rw [hw]
theorem SO3.at {K:MK} {y:Row} {g:RK 2} (h:SO3 K y g) {i:Nat} {x:Int×Int} (hx:(vals g.1)[i]? =some (p2V x)) {z:Int} (hz:(vals y)[i]? =some (iv z)):x.1=z/\x.2=1:=by
  obtain ⟨m,h1,h2,h3,h4⟩:=h
  rw [h3] at hx
  obtain ⟨a,b⟩:=pairs_at hx
  rw [hz] at a
  injection a with a
  injection a with _ a
  refine ⟨a.symm,?_⟩
  obtain ⟨v,hv⟩:=h2.mem h1.once hz
  rw [←a,hv] at b
  have:=h4 _ _ hv
  simp only [Option.getD_some] at b
  rw [b] at this
  injection this
end Go.Sx
namespace Go.Sx
open Go.RowKit
abbrev A3:=Int×Int×Int
abbrev aV (x:A3) (n:Int):Value:= .agg #[.int .u8 x.1, .int .i64 x.2.1, .int .i64 x.2.2, .int .i64 n]
abbrev A4:=Int×Int×Int×Int
structure SB (K:MK) (ent:KV->Value->Ent) (hs:List KV) (L:List Ent) (m:KV):Prop where
  jr:Jr K ent hs L m
  ok:KOK K m
  zero: ∃h0,(hs++ [m])[0]? =some h0/\EqM h0 []
theorem SB.start {K:MK} {ent:KV->Value->Ent}:SB K ent [] [] []:=⟨Jr.nil [],KOK.nil,[],rfl,EqM.refl _⟩
end Go.Sx
namespace Go.Sx
open Go.RowKit
end Go.Sx
namespace Go.Sx
open Go.RowKit
abbrev BT:=(Nat->Int)×Bool
def bV (x:BT):Value:= .agg #[.int .u32 (x.1 0), .int .u64 (x.1 1), .int .u64 (x.1 2),
  .int .u8 (x.1 3), .int .u8 (x.1 4), .int .u8 (x.1 5), .int .u8 (x.1 6), .int .u8 (x.1 7), .int .u8 (x.1 8), .int .u8 (x.1 9), .int .u8 (x.1 10),
  .int .u8 (x.1 11), .int .u8 (x.1 12), .int .u8 (x.1 13), .int .u8 (x.1 14), .int .u8 (x.1 15), .int .u8 (x.1 16), .int .u8 (x.1 17), .int .u8 (x.1 18),
  .int .u8 (x.1 19), .int .u8 (x.1 20), .int .u8 (x.1 21), .int .u8 (x.1 22), .int .u8 (x.1 23), .int .u8 (x.1 24), .int .u8 (x.1 25), .int .u8 (x.1 26),
  .int .u8 (x.1 27), .int .u8 (x.1 28), .int .u8 (x.1 29), .int .u8 (x.1 30), .int .u8 (x.1 31), .int .u8 (x.1 32), .int .u8 (x.1 33), .int .u8 (x.1 34),
  .int .u8 (x.1 35), .int .u64 (x.1 36), .int .u64 (x.1 37), .int .u64 (x.1 38), .int .u64 (x.1 39), .int .u64 (x.1 40), .bool x.2]
structure okB (x:BT):Prop where
  n:(Lit.int .u32 (x.1 0)).wf=true
  fr:(Lit.int .u64 (x.1 1)).wf=true
  to:(Lit.int .u64 (x.1 2)).wf=true
  bl:(Lit.int .u64 (x.1 40)).wf=true
  rest: ∀i,41<=i->x.1 i=0
def b0:BT:=(fun _=>0,false)
theorem okB0:okB b0:=⟨rfl,rfl,rfl,rfl,fun _ _=>rfl⟩
def cAt (v:Value) (i:Nat):Int:=ci (cell v i)
def unB (v:Value):BT:=(fun i=>bif Nat.blt i 41 then cAt v i else 0,cb (cell v 41))
theorem bV_un (x:BT):bV (unB (bV x))=bV x:=rfl
theorem bV_i {x y:BT} (h:bV x=bV y) (i:Nat) (hi:i<41):x.1 i=y.1 i:=by
  have h1:=congrArg (fun v=>cAt v i) h
  have: ∀z:BT,cAt (bV z) i=z.1 i:=by
    intro z
    have hi' :i=0∨i=1∨i=2∨i=3∨i=4∨i=5∨i=6∨i=7∨i=8∨i=9∨i=10∨i=11∨i=12∨i=13∨i=14∨i=15∨i=16∨i=17∨i=18∨i=19∨i=20∨i=21∨i=22∨i=23∨i=24∨i=25∨i=26∨i=27∨i=28∨i=29∨i=30∨i=31∨i=32∨i=33∨i=34∨i=35∨i=36∨i=37∨i=38∨i=39∨i=40:=by omega
    rcases hi' with rfl | rfl | rfl | rfl | rfl | rfl | rfl | rfl | rfl | rfl | rfl | rfl | rfl | rfl | rfl | rfl | rfl | rfl | rfl | rfl | rfl | rfl | rfl | rfl | rfl | rfl | rfl | rfl | rfl | rfl | rfl | rfl | rfl | rfl | rfl | rfl | rfl | rfl | rfl | rfl | rfl<;>rfl
  rw [←this x,←this y];exact h1
theorem unB_bV {x:BT} (h:okB x):unB (bV x)=x:=by
  refine Prod.ext (funext fun i=> ?_) rfl
  rcases Nat.lt_or_ge i 41 with q | q
  · exact bV_i (bV_un x) i q
  · show (bif Nat.blt i 41 then cAt (bV x) i else 0)=x.1 i
    have:Nat.blt i 41=false:=by
      cases h:Nat.blt i 41 with
      | false=>rfl
      | true=>rw [Nat.blt_eq] at h;omega
    rw [this,h.rest i q];rfl
end Go.Sx
namespace Go.Sx
open Go.RowKit
structure BTy (P:Program) (t:TypeId) (e32 e64 eh e8 ei eb:TypeId):Prop where
  und:P.underlying t=some (.struct (P.fieldsOf t))
  plain:P.stoodInHeld t=false
  guard:P.eqGuardType P.depth t=false
  fs : ∃ f0 f1 f2 f3 f4 f5 f6 f7, (P.fieldsOf t).toList = [f0, f1, f2, f3, f4, f5, f6, f7] /\ (f0.name ≠ "_" /\ f1.name ≠ "_" /\ f2.name ≠ "_" /\ f3.name ≠ "_" /\ f4.name ≠ "_" /\ f5.name ≠ "_" /\ f6.name ≠ "_" /\ f7.name ≠ "_") /\
    (f0.type=e32/\f1.type=e64/\f2.type=e64/\f3.type=eh/\f4.type=e8/\f5.type=ei/\f6.type=e64/\f7.type=eb)/\(f0.offset=0/\f1.offset=1/\f2.offset=2/\f3.offset=3/\f4.offset=35/\f5.offset=36/\f6.offset=40/\f7.offset=41)
  u32:P.underlying e32=some (.int .u32)
  u64:P.underlying e64=some (.int .u64)
  u8:P.underlying e8=some (.int .u8)
  uh:P.underlying eh=some (.array 32 e8)
  ui:P.underlying ei=some (.array 4 e64)
  ub:P.underlying eb=some .bool
  a32: ∀w,(isAgg e32).run P w= .ok false w
  a64: ∀w,(isAgg e64).run P w= .ok false w
  a8: ∀w,(isAgg e8).run P w= .ok false w
  ab: ∀w,(isAgg eb).run P w= .ok false w
  ah: ∀w,(isAgg eh).run P w= .ok true w
  ai: ∀w,(isAgg ei).run P w= .ok true w
  s64: ∀w,(sizeOf e64).run P w= .ok 1 w
  s8: ∀w,(sizeOf e8).run P w= .ok 1 w
  sh: ∀w,(sizeOf eh).run P w= .ok 32 w
  si: ∀w,(sizeOf ei).run P w= .ok 4 w
end Go.Sx
namespace Go.Sx
open Go.RowKit
structure KB (K:MK):Prop where
  k: ∀v,K.OkK v-> ∃n:Int,v= .int .u32 n
  k' : ∀n:Int,K.OkK (.int .u32 n)
  v: ∀x,K.OkV x-> ∃y,okB y/\x=bV y
  v' : ∀y,okB y->K.OkV (bV y)
theorem KB.int {K:MK} (B:KB K) {m:KV} (h:KOK K m):IntKeys .u32 m:=⟨fun v hv=>by
  obtain ⟨e,he,rfl⟩:=List.mem_map.1 hv
  exact B.k _ (h.ok e he).1,h.once⟩
theorem KB.get {K:MK} (B:KB K) {m:KV} (h:KOK K m) (k:Value): ∃y,okB y/\(mget m k).getD (bV b0)=bV y:=B.v _ (kok_val h (B.v' _ okB0) k)
theorem KB.un {K:MK} (B:KB K) {m:KV} (h:KOK K m) (k:Value):bV (unB ((mget m k).getD (bV b0)))=(mget m k).getD (bV b0)/\okB (unB ((mget m k).getD (bV b0))):=by
  obtain ⟨y,hy,e⟩:=B.get h k
  rw [e,unB_bV hy];exact ⟨rfl,hy⟩
end Go.Sx
namespace Go.Sx
open Go.RowKit
def F_getKO (k:Nat) {X:Type} (val:X->Value) (Ok:X->Prop):List Value->List Slot->Ctr:=fun vs hs=>⟨X,val,fun _=>hs,fun zx=>rdK k (scells (sarg hs 0)) (voff (varg vs 0))=val zx/\Ok zx⟩
theorem xgetKO {P:Program} {t e:TypeId} {k:Nat} {z:Value} (h:SkT P t e k z) {X:Type} (val:X->Value) (Ok:X->Prop) (r:RK k) (n:Nat) (hx: ∃x0,(vals r.1)[n]? =some (val x0)/\Ok x0):
    OpT P (do pure (.value (←Instr.loadAt e (.pointer (some ⟨vblk (sv r.1),n*k,none⟩))))) [sk e r.1] X val (fun _=> [sk e r.1]) (fun x=>rdK k (scells (sk e r.1)) (n*k)=val x/\Ok x):=by
  obtain ⟨x0,hx,ho0⟩:=hx
  intro R w ho
  obtain ⟨_,w',_,hr,ho',he⟩:=xgetK h r n (val x0) hx R w ho
  exact ⟨x0,w',⟨rdK_row r e hx,ho0⟩,hr,ho',he⟩
theorem wgetKO {e:TypeId} {k:Nat} {X:Type} {val:X->Value} {Ok:X->Prop} {r:RK k} {n:Nat} (hx: ∃x0,(vals r.1)[n]? =some (val x0)/\Ok x0): ∃x,(fun x=>rdK k (scells (sk e r.1)) (n*k)=val x/\Ok x) x:=
  let ⟨x0,h,h'⟩:=hx;⟨x0,rdK_row r e h,h'⟩
theorem egetKO {e:TypeId} {k:Nat} {X:Type} {val:X->Value} {Ok:X->Prop} {r:RK k} {n:Nat} (hx: ∃x0,(vals r.1)[n]? =some (val x0)/\Ok x0) {x:X} (h:rdK k (scells (sk e r.1)) (n*k)=val x/\Ok x):(vals r.1)[n]? =some (val x)/\Ok x:=by
  obtain ⟨x0,h0,_⟩:=hx
  exact ⟨by rw [←h.1,rdK_row r e h0];exact h0,h.2⟩
end Go.Sx
namespace Go.Sx
open Go.RowKit
structure SEq (P:Program) (t ei e64:TypeId):Prop where
  und:P.underlying t=some (.struct (P.fieldsOf t))
  plain:P.stoodInHeld t=false
  guard:P.eqGuardType P.depth t=false
  fs : ∃ f0 f1 f2 f3, (P.fieldsOf t).toList = [f0, f1, f2, f3] /\ (f0.name ≠ "_" /\ f1.name ≠ "_" /\ f2.name ≠ "_" /\ f3.name ≠ "_") /\ (f0.type = ei /\ f1.type = ei /\ f2.type = ei /\ f3.type = ei) /\ (f0.offset = 0 /\ f1.offset = 4 /\ f2.offset = 8 /\ f3.offset = 12)
  u64:P.underlying e64=some (.int .u64)
  ui:P.underlying ei=some (.array 4 e64)
  a64: ∀w,(isAgg e64).run P w= .ok false w
  ai: ∀w,(isAgg ei).run P w= .ok true w
  s64: ∀w,(sizeOf e64).run P w= .ok 1 w
  si: ∀w,(sizeOf ei).run P w= .ok 4 w
theorem blk_zero (b:Nat) (t:TypeId):Slot.blk b (.cells #[.int .u64 0, .int .u64 0, .int .u64 0, .int .u64 0] t (0,0))= .blk b (.cells #[.int .u64 (lim 0 0), .int .u64 (lim 0 1), .int .u64 (lim 0 2), .int .u64 (lim 0 3)] t (0,0)):=by
  rw [lim0,lim1,lim2,lim3];rfl
theorem vI_inj {a b:Int} (ha:R4 a) (hb:R4 b) (h:vI a=vI b):a=b:=by rw [←num_vI ha,h,num_vI hb]
theorem rows_ok4 {y:RK 4} {l:List Int} (hy:vals y.1=l.map vI) (ho: ∀x∈l,R4 x) {n:Nat} (hn:n<l.length): ∃x0,(vals y.1)[n]? =some (vI x0)/\R4 x0:=
  ⟨l[n],by rw [hy,List.getElem?_map,List.getElem?_eq_getElem hn];rfl,ho _ (List.getElem_mem hn)⟩
theorem rows_is4 {y:RK 4} {l:List Int} (hy:vals y.1=l.map vI) (ho: ∀x∈l,R4 x) {n:Nat} {x:Int} (h:(vals y.1)[n]? =some (vI x)/\R4 x):l[n]? =some x:=by
  obtain ⟨h1,h2⟩:=h
  rw [hy,List.getElem?_map] at h1
  cases hl:l[n]? with
  | none=>rw [hl] at h1;cases h1
  | some z=>rw [hl] at h1;injection h1 with h1;rw [vI_inj (ho z (List.mem_of_getElem? hl)) h2 h1]
theorem was_step {ws zs:List Int} {m:KV} {j:Nat} (ok:okT 4 ws) (h: ∀q,q<j->ws.getD q 0=(pOf m ((q:Nat):Int)).1+(pOf m ((q:Nat):Int)).2.1) (hj:j<4) (hs:zs=ws.set j ((pOf m ((j:Nat):Int)).1+(pOf m ((j:Nat):Int)).2.1)): ∀q,q<j+1->zs.getD q 0=(pOf m ((q:Nat):Int)).1+(pOf m ((q:Nat):Int)).2.1:=by
  intro q hq
  rw [hs,List.getD_eq_getElem?_getD,List.getElem?_set]
  by_cases e:j=q
  · subst e;rw [if_pos rfl,if_pos (by rw [ok.1];exact hj)];rfl
  · rw [if_neg e,←List.getD_eq_getElem?_getD];exact h q (by omega)
theorem add_fit {Ks Kh:MK} {m h:KV} (v:Solv Ks Kh m h) {t:Int} {s:ST} (hs:s=pOf m t) {x:Int×Int} (hx:x=hAdd s.1 s.2.1):x.1=s.1+s.2.1/\x.2=0:=by
  have:=v.fit t;unfold M256 at this
  rw [hx,hs];unfold hAdd;rw [if_pos this];exact ⟨rfl,rfl⟩
theorem bals_R {Ks Kh:MK} (K:PoolK Ks Kh) {m h:KV} (v:Solv Ks Kh m h) {t:Int} {k:Nat}: ∀x∈(List.range k).map (fun q=>bal h t ((q:Nat):Int)),R4 x:=by
  intro x hx
  obtain ⟨q,_,rfl⟩:=List.mem_map.1 hx
  exact balQ_R K.h v t _
theorem bal_step {h:KV} {t:Int} {k:Nat} {y z:Row} {n:Int} (hy:vals y=((List.range k).map (fun q=>bal h t ((q:Nat):Int))).map vI) (ha:vals z=vals y++ [vI n]) (hn:n=bal h t ((k:Nat):Int)):vals z=((List.range (k+1)).map (fun q=>bal h t ((q:Nat):Int))).map vI:=by
  rw [ha,hy,List.range_succ,hn];simp
theorem sum_all {Ks Kh:MK} (K:PoolK Ks Kh) {m h:KV} (v:Solv Ks Kh m h) {t:Int} {x:Int×Int} (hx:x=hSum ((List.range 16).map (fun q=>bal h t ((q:Nat):Int)))):x.2=0/\x.1=(pOf m t).2.2.2:=by
  have S:=K.s.of v.k t
  have e:((List.range 16).map (fun q=>bal h t ((q:Nat):Int))).sum=(pOf m t).2.2.2:=by rw [sum_range];exact v.sum t
  rw [hx];unfold hSum
  rw [e,if_pos (by have:=S.d.2;unfold M256;exact this)]
  exact ⟨rfl,rfl⟩
end Go.Sx
namespace Go.Sx
open Go
theorem trod_field {H:Type} {enc:TypeId×Value->H} {P:Program} {w:World} {base:Nat} {sp:Nat->Bool} {held:Bool} {fs:Array Field} {cs:List Value} {xs:List (DataW H×List MemPlace)} {n:Nat} (hlen:xs.length=fs.size)
    (hf: ∀ (i:Nat) (f:Field),fs[i]? =some f->DataW.trod enc P w base sp held n f.type ((cs.drop f.offset).take (P.cellsOf f.type))=xs[i]?) (i:Nat) {f:Field} (h:fs[i]? =some f) {t off k:Nat} (ht:f.type=t) (ho:f.offset=off) (hk:P.cellsOf t=k):
    ∃y,DataW.trod enc P w base sp held n t ((cs.drop off).take k)=some y:=by
  have hi:i<fs.size:=by
    rcases Nat.lt_or_ge i fs.size with q | q
    · exact q
    · rw [Array.getElem?_eq_none q] at h;cases h
  have g:=hf i f h
  rw [ht,ho,hk,List.getElem?_eq_getElem (by omega)] at g
  exact ⟨_,g⟩
end Go.Sx
