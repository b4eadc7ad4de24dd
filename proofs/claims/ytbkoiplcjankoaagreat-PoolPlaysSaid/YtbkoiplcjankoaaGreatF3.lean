/- A part of the prover's own frame for walking code (see the claim's other texts). -/
import Derived.Test.YtbkoiplcjankoaaGreatF1
import Derived.Test.YtbkoiplcjankoaaGreatF2
import Derived.Shelf.SlSortCmp.Whole1
import Derived.Shelf.SlSortCmp.NoneTotal
import Derived.Shelf.SlSortCmp.WholeK
import Derived.Laws.BytesString
set_option linter.unusedVariables false
set_option linter.unusedSimpArgs false
set_option maxRecDepth 100000
namespace Go.Sx
open Go.RowKit
def tL (xs:List Int):List Value:=fl (xs.map vI)
def Qv (xs:List Int):Value:= .agg (tL xs).toArray
def unL:List Value->List Int
  | a::b::c::d::l=>Qe (.agg #[a,b,c,d])::unL l
  | _=> []
def Jj (v:Value):List Int:=unL v.cells.toList
def QY (n:Nat) (xs:List Int):Prop:=xs.length=n/\ ∀x∈xs,R4 x
theorem QaH (x:Int) (xs:List Int):tL (x::xs)= .int .u64 (Qb x 0):: .int .u64 (Qb x 1):: .int .u64 (Qb x 2):: .int .u64 (Qb x 3)::tL xs:=rfl
theorem QeA: ∀ {xs:List Int},(∀x∈xs,R4 x)->unL (tL xs)=xs
  | [],_=>rfl
  | x :: xs, h => by
    rw [QaH]
    show Qe (vI x)::unL (tL xs)=x::xs
    rw [Qc (h x (List.mem_cons_self ..)),QeA fun y hy=>h y (List.mem_cons_of_mem _ hy)]
theorem QR {n:Nat} {xs:List Int} (h:QY n xs):Jj (Qv xs)=xs:=QeA h.2
theorem tAg (xs:List Int): ∀v∈xs.map vI,Ag 4 v:=by
  intro v hv
  obtain ⟨x,_,rfl⟩:=List.mem_map.1 hv
  exact ⟨_,rfl,rfl⟩
theorem Vm (xs:List Int):(tL xs).length=xs.length*4:=by unfold tL;rw [Dh (tAg xs)];simp
theorem Ud (a b:List Int):tL (a++b)=tL a++tL b:=by unfold tL;rw [List.map_append,QbF]
theorem QaW (xs:List Int) (n:Nat):(tL xs).drop (n*4)=tL (xs.drop n):=by
  unfold tL;rw [QaG (tAg xs),List.map_drop]
theorem Qa0 (xs:List Int) (n:Nat):(tL xs).take (n*4)=tL (xs.take n):=by
  rcases Nat.lt_or_ge xs.length n with q | q
  · rw [List.take_of_length_le (by rw [Vm];omega),List.take_of_length_le (by omega)]
  · have h:tL xs=tL (xs.take n)++tL (xs.drop n):=by rw [←Ud,List.take_append_drop]
    have hl:(tL (xs.take n)).length=n*4:=by rw [Vm,List.length_take,Nat.min_eq_left q]
    rw [h,List.take_append_of_le_length (by omega),List.take_of_length_le (by omega)]
theorem Qdn: ∀ (xs:List Int) (u:Value),u∈tL xs->u.oneCell' =true
  | [],u,h=>by cases h
  | x :: xs, u, h => by
    rw [QaH] at h
    simp only [List.mem_cons] at h
    rcases h with rfl | rfl | rfl | rfl | h
    · rfl
    · rfl
    · rfl
    · rfl
    · exact Qdn xs u h
def tb (b:Nat) (ty:TypeId) (v:Value):Qf:= .par [b] (.val v) (fun h=>(Qf.blk b (.cells v.cells ty (0,0))).sat h)
def XL (s:Qf):Value:=match s with | .par _ (.val v) _=>v | _=>undef
theorem Bh {b:Nat} {ty:TypeId} {v:Value} {l:List Qf}:Ua (tb b ty v::l) (.blk b (.cells v.cells ty (0,0))::l):=fun R w h=>by
  obtain ⟨p,q,hs,rest⟩:=h
  refine ⟨p,q,fun i=> ?_,rest⟩
  cases i with
  | zero=>exact hs 0
  | succ i=>exact hs (i+1)
theorem Bt {b:Nat} {ty:TypeId} {v:Value} {l:List Qf}:Ua (.blk b (.cells v.cells ty (0,0))::l) (tb b ty v::l):=fun R w h=>by
  obtain ⟨p,q,hs,rest⟩:=h
  refine ⟨p,q,fun i=> ?_,rest⟩
  cases i with
  | zero=>exact hs 0
  | succ i=>exact hs (i+1)
def zE (t:TypeId):List Value->List Qf->ZB:=fun vs _=>⟨Nat,Yg,fun b=> [tb b t (Qd vs 0)],fun _=>True⟩
theorem We {P:Program} (t:TypeId) (xs:List Int):YZ P (do pure (.value (←Instr.box t (Qv xs)))) [] Nat Yg (fun b=> [tb b t (Qv xs)]) (fun _=>True):=by
  intro R w ho
  refine ⟨w.heap.size,w.alloc (.cells (Qv xs).cells t (0,0)),trivial, .inl ?_,Bt R _ ?_,z6 _ _⟩
  · simp [Instr.box,Yg,newVar,newRow,Sem.run_bind,run_newObj_alloc,Result.andThen]
  · refine (zV ho 0 _).weaken fun k=> ?_
    cases k with
    | zero=>exact .inl rfl
    | succ k=>exact .inl rfl
theorem Y2 {P:Program} (t:TypeId) (xs:List Int) (hz: ∀w,(zeroValue t).run P w= .ok (Qv xs) w):
    YZ P (do pure (.value (←Instr.alloc t true (.tuple #[])))) [] Nat Yg (fun b=> [tb b t (Qv xs)]) (fun _=>True):=by
  intro R w ho
  refine ⟨w.heap.size,w.alloc (.cells (Qv xs).cells t (0,0)),trivial, .inl ?_,Bt R _ ?_,z6 _ _⟩
  · simp [Instr.alloc,Yg,newVar,newRow,Sem.run_bind,run_newObj_alloc,Result.andThen,hz]
  · refine (zV ho 0 _).weaken fun k=> ?_
    cases k with
    | zero=>exact .inl rfl
    | succ k=>exact .inl rfl
theorem pb {w:World} {b:Nat} {ty:TypeId} {cs:Array Value} {fz:Nat×Nat} (hb:w.heap[b]? =some (.cells cs ty fz)) (o:Nat) (l:List Value) (hl:(cs.toList.drop o).take l.length=l):
    ∀j c,l[j]? =some c->w.cell? ((⟨b,o,none⟩:Addr).add j)=some c:=by
  intro j c hj
  have e1:(⟨b,o,none⟩:Addr).add j=⟨b,o+j,none⟩:=Addr.add_lit ..
  have hlt:j<l.length:=(List.getElem?_eq_some_iff.1 hj).1
  have h2:cs.toList[o+j]? =some c:=by
    rw [←List.getElem?_drop,←List.getElem?_take_of_lt hlt,hl,hj]
  have h3:cs[o+j]? =some c:=by simpa using h2
  rw [e1]
  simp [World.cell?,hb,h3]
theorem Qcw {P:Program} {e:TypeId} {k:Nat} (ha: ∀w,(isAgg e).run P w= .ok true w) (hk: ∀w,(sizeOf e).run P w= .ok k w) {b:Nat} {ty:TypeId} {cs:Array Value} {fz:Nat×Nat} (o:Nat) (l:List Value) (hn:l.length=k) (hl:(cs.toList.drop o).take k=l) {w:World} (hb:w.heap[b]? =some (.cells cs ty fz)):
    (do pure (Next.value (←Instr.loadAt e (.pointer (some ⟨b,o,none⟩)))):Sem Next).run P w= .ok (.value (.agg l.toArray)) w:=by
  have hrun:=run_loadCells_list (P:=P) w ⟨b,o,none⟩ l (pb hb o l (by rw [hn];exact hl))
  rw [hn] at hrun
  simp [Instr.loadAt,Instr.sureAddr,loadVar,Sem.run_bind,ha,hk w,hrun]
theorem Qct {xs:List Int} {n k:Nat} (h:n+k<=xs.length):(tL ((xs.drop n).take k)).length=k*4:=by rw [Vm,List.length_take,List.length_drop,Nat.min_eq_left (by omega)]
theorem Bf {P:Program} {e:TypeId} (n k K:Nat) (ha: ∀w,(isAgg e).run P w= .ok true w) (hk: ∀w,(sizeOf e).run P w= .ok K w) (hK:K=k*4) (b:Nat) (ty:TypeId) (xs:List Int) (o:Nat) (ho:o=n*4) (h:n+k<=xs.length):
    YZ P (do pure (.value (←Instr.loadAt e (.pointer (some ⟨b,o,none⟩))))) [tb b ty (Qv xs)] Unit (fun _=>Qv ((xs.drop n).take k)) (fun _=> [tb b ty (Qv xs)]) (fun _=>True):=by
  intro R w hw
  have hb:=(Bh R w hw).block (i:=0) rfl
  refine ⟨(),w,trivial, .inl ?_,hw,YL.refl w⟩
  subst ho hK
  refine Qcw ha hk (n*4) (tL ((xs.drop n).take k)) (Qct h) ?_ hb
  show (((Qv xs).cells.toList).drop (n*4)).take (k*4)=_
  show ((tL xs).toArray.toList.drop (n*4)).take (k*4)=_
  rw [List.toList_toArray,QaW,Qa0]
def YS (v:Value) (n:Nat):Int:=(Jj v).getD n 0
theorem WT {m:Nat} {xs:List Int} (h:QY m xs) (n:Nat):YS (Qv xs) n=xs.getD n 0:=by unfold YS;rw [QR h]
theorem QY.get {m:Nat} {xs:List Int} (h:QY m xs) (n:Nat):R4 (xs.getD n 0):=by
  rw [List.getD_eq_getElem?_getD]
  cases hx:xs[n]? with
  | none=>exact QI
  | some x=>exact h.2 x (List.mem_of_getElem? hx)
theorem gR {xs:List Int} {n:Nat} (h:n<xs.length):(xs.drop n).take 1= [xs.getD n 0]:=by
  rw [List.drop_eq_getElem_cons h,List.take_succ_cons,List.take_zero,List.getD_eq_getElem?_getD,List.getElem?_eq_getElem h];rfl
theorem Qcs {xs:List Int} {n:Nat} (h:n+4<=xs.length):(xs.drop n).take 4= [xs.getD n 0,xs.getD (n+1) 0,xs.getD (n+2) 0,xs.getD (n+3) 0]:=by
  rw [List.drop_eq_getElem_cons (by omega),List.take_succ_cons,List.drop_eq_getElem_cons (by omega),List.take_succ_cons,List.drop_eq_getElem_cons (by omega),List.take_succ_cons,List.drop_eq_getElem_cons (by omega),List.take_succ_cons,List.take_zero]
  simp only [List.getD_eq_getElem?_getD,List.getElem?_eq_getElem (show n<xs.length by omega),List.getElem?_eq_getElem (show n+1<xs.length by omega),List.getElem?_eq_getElem (show n+2<xs.length by omega),List.getElem?_eq_getElem (show n+3<xs.length by omega),Option.getD_some]
def KX:List Value->List Qf->ZB:=fun vs hs=>⟨Int,vI,fun _=>hs,fun z=>R4 z/\z=YS (XL (Qh hs 0)) (Jd (Qd vs 0)/4)⟩
theorem VG {P:Program} {e:TypeId} {m:Nat} (n:Nat) (ha: ∀w,(isAgg e).run P w= .ok true w) (hk: ∀w,(sizeOf e).run P w= .ok 4 w) (b:Nat) (ty:TypeId) {xs:List Int} (hx:QY m xs) (o:Nat) (ho:o=n*4) (h:n<m):
    YZ P (do pure (.value (←Instr.loadAt e (.pointer (some ⟨b,o,none⟩))))) [tb b ty (Qv xs)] Int vI (fun _=> [tb b ty (Qv xs)]) (fun z=>R4 z/\z=YS (XL (tb b ty (Qv xs))) (o/4)):=by
  intro R w hw
  obtain ⟨_,w',_,hr,ho',he⟩:=Bf n 1 4 ha hk rfl b ty xs o ho (by rw [hx.1];omega) R w hw
  refine ⟨xs.getD n 0,w',⟨hx.get n,?_⟩,?_,ho',he⟩
  · subst ho;rw [Nat.mul_div_cancel _ (by decide)];exact (WT hx n).symm
  · rw [gR (by rw [hx.1];exact h)] at hr;exact hr
theorem VF {m:Nat} {b:Nat} {ty:TypeId} {xs:List Int} (hx:QY m xs) {o n:Nat} (ho:o=n*4) {z:Int} (h:R4 z/\z=YS (XL (tb b ty (Qv xs))) (o/4)):z=xs.getD n 0:=by
  have:=h.2
  subst ho;rw [Nat.mul_div_cancel _ (by decide)] at this;exact this.trans (WT hx n)
theorem VC {m:Nat} {b:Nat} {ty:TypeId} {xs:List Int} (hx:QY m xs) (o:Nat): ∃z,(fun z=>R4 z/\z=YS (XL (tb b ty (Qv xs))) (o/4)) z:=⟨_,by show R4 (YS (Qv xs) _);rw [WT hx];exact hx.get _,rfl⟩
def jC (v:Value) (n:Nat):ST:=(YS v n,YS v (n+1),YS v (n+2),YS v (n+3))
def vu:List Value->List Qf->ZB:=fun vs hs=>⟨ST,ZO,fun _=>hs,fun z=>Jw z/\z=jC (XL (Qh hs 0)) (Jd (Qd vs 0)/4)⟩
def gS (xs:List Int) (n:Nat):ST:=(xs.getD n 0,xs.getD (n+1) 0,xs.getD (n+2) 0,xs.getD (n+3) 0)
theorem QY.gS {m:Nat} {xs:List Int} (h:QY m xs) (n:Nat):Jw (gS xs n):=⟨h.get _,h.get _,h.get _,h.get _⟩
theorem GU {m:Nat} {xs:List Int} (h:QY m xs) (n:Nat):jC (Qv xs) n=gS xs n:=by unfold jC Sx.gS;simp only [WT h]
theorem bR {P:Program} {e:TypeId} {m:Nat} (n:Nat) (ha: ∀w,(isAgg e).run P w= .ok true w) (hk: ∀w,(sizeOf e).run P w= .ok 16 w) (b:Nat) (ty:TypeId) {xs:List Int} (hx:QY m xs) (o:Nat) (ho:o=n*4) (h:n+4<=m):
    YZ P (do pure (.value (←Instr.loadAt e (.pointer (some ⟨b,o,none⟩))))) [tb b ty (Qv xs)] ST ZO (fun _=> [tb b ty (Qv xs)]) (fun z=>Jw z/\z=jC (XL (tb b ty (Qv xs))) (o/4)):=by
  intro R w hw
  obtain ⟨_,w',_,hr,ho',he⟩:=Bf n 4 16 ha hk rfl b ty xs o ho (by rw [hx.1];omega) R w hw
  refine ⟨gS xs n,w',⟨hx.gS n,?_⟩,?_,ho',he⟩
  · subst ho;rw [Nat.mul_div_cancel _ (by decide)];exact (GU hx n).symm
  · rw [Qcs (by rw [hx.1];exact h)] at hr;exact hr
theorem bf {m:Nat} {b:Nat} {ty:TypeId} {xs:List Int} (hx:QY m xs) {o n:Nat} (ho:o=n*4) {z:ST} (h:Jw z/\z=jC (XL (tb b ty (Qv xs))) (o/4)):z=gS xs n:=by
  have:=h.2
  subst ho;rw [Nat.mul_div_cancel _ (by decide)] at this;exact this.trans (GU hx n)
theorem Qaj {m:Nat} {b:Nat} {ty:TypeId} {xs:List Int} (hx:QY m xs) (o:Nat): ∃z,(fun z=>Jw z/\z=jC (XL (tb b ty (Qv xs))) (o/4)) z:=⟨_,by show Jw (jC (Qv xs) _);rw [GU hx];exact hx.gS _,rfl⟩
def Zl:List Value->List Qf->ZB:=fun _ hs=>⟨Unit,fun _=>XL (Qh hs 0),fun _=>hs,fun _=>True⟩
theorem ZH {P:Program} {e:TypeId} {m:Nat} (K:Nat) (ha: ∀w,(isAgg e).run P w= .ok true w) (hk: ∀w,(sizeOf e).run P w= .ok K w) (hK:K=m*4) (b:Nat) (ty:TypeId) {xs:List Int} (hx:xs.length=m):
    YZ P (do pure (.value (←Instr.loadAt e (.pointer (some ⟨b,0,none⟩))))) [tb b ty (Qv xs)] Unit (fun _=>XL (tb b ty (Qv xs))) (fun _=> [tb b ty (Qv xs)]) (fun _=>True):=by
  have:=Bf 0 m K ha hk hK b ty xs 0 (by simp) (by omega) (P:=P)
  rw [List.drop_zero,List.take_of_length_le (by omega)] at this
  exact this
def tset (xs:List Int) (n:Nat) (ys:List Int):List Int:=xs.take n++ys++xs.drop (n+ys.length)
theorem QdA {xs ys:List Int} {n:Nat} (h:n+ys.length<=xs.length):(tset xs n ys).length=xs.length:=by unfold tset;simp;omega
theorem QY.tset {m:Nat} {xs:List Int} (h:QY m xs) {ys:List Int} (hy: ∀y∈ys,R4 y) {n:Nat} (hn:n+ys.length<=m):QY m (tset xs n ys):=by
  refine ⟨by rw [QdA (by rw [h.1];exact hn),h.1],fun x hx=> ?_⟩
  unfold Sx.tset at hx
  rcases List.mem_append.1 hx with hx | hx
  · rcases List.mem_append.1 hx with hx | hx
    · exact h.2 x (List.mem_of_mem_take hx)
    · exact hy x hx
  · exact h.2 x (List.mem_of_mem_drop hx)
theorem Hn {xs:List Int} {n:Nat} {y:Int} (h:n<xs.length):tset xs n [y]=xs.set n y:=by
  unfold tset
  rw [List.set_eq_take_append_cons_drop,if_pos h];simp
theorem QeE {xs ys:List Int} {n:Nat} (h:n+ys.length<=xs.length):HR (tL xs).toArray (n*4) (tL ys)=(tL (tset xs n ys)).toArray:=by
  have h1:tL xs=tL (xs.take n)++tL ((xs.drop n).take ys.length)++tL (xs.drop (n+ys.length)):=by
    rw [←Ud,←Ud,List.append_assoc,←List.drop_drop,List.take_append_drop,List.take_append_drop]
  have hl:(tL (xs.take n)).length=n*4:=by rw [Vm,List.length_take,Nat.min_eq_left (by omega)]
  have:=Db (tL ys) (tL (xs.take n)) (tL ((xs.drop n).take ys.length)) (tL (xs.drop (n+ys.length))) (by rw [Vm,Vm,List.length_take,List.length_drop,Nat.min_eq_left (by omega)])
  rw [hl] at this
  rw [h1,this]
  unfold tset
  rw [Ud,Ud]
theorem Qd2 {P:Program} {e:TypeId} (K:Nat) (hk: ∀w,(sizeOf e).run P w= .ok K w) (b:Nat) (ty:TypeId) (xs ys:List Int) (n o:Nat) (ho:o=n*4) (hK:K=ys.length*4) (h:n+ys.length<=xs.length):
    YZ P (do Instr.storeAt e (.pointer (some ⟨b,o,none⟩)) (Qv ys);pure .skip) [tb b ty (Qv xs)] Unit (fun _=>undef) (fun _=> [tb b ty (Qv (tset xs n ys))]) (fun _=>True):=by
  intro R w hw
  have hw1:=Bh R w hw
  have hb:w.heap[b]? =some (.cells (tL xs).toArray ty (0,0)):=hw1.block (i:=0) rfl
  subst ho
  have hc: ∀j,j<(tL ys).length->(w.cell? ⟨b,n*4+0+j,none⟩).isSome=true:=by
    intro j hj
    rw [Vm] at hj
    have hlen' :n*4+j<(tL xs).length:=by rw [Vm];omega
    simp [World.cell?,hb,hlen']
  have hst:=run_storeCells_cells (P:=P) b (n*4) (tL ys) 0 w hc (fun j hj=>frozen_of_row w b _ _ ty hb) (Qdn ys)
  simp only [Nat.add_zero] at hst
  have hh:=Vn b ty (tL ys) (n*4) w _ hb
  rw [QeE h] at hh
  refine ⟨(),w.setCells b (n*4) (tL ys),trivial, .inr ⟨?_,rfl⟩,?_,yT b _ _ w⟩
  · have hsz:(sizeOf e).run P w= .ok K w:=hk w
    have h2:(Qv ys).cells.size=K:=by show (tL ys).toArray.size=K;rw [List.size_toArray,Vm,hK]
    have h3:(Qv ys).cells.toList=tL ys:=rfl
    simp [Instr.storeAt,Instr.sureAddr,storeVar,Sem.run_bind,hsz,h2,h3,hst]
  · have:=hw1.set (i:=0) (b:=b) rfl hh (fun c hc=>YA b _ _ w c hc)
    refine Bt R _ ((congrArg (fun H=>Own H R (w.setCells b (n*4) (tL ys))) ?_).mp this)
    funext i
    cases i<;>rfl
def Vf (ty:TypeId):List Value->List Qf->ZB:=fun vs hs=>⟨List Int,fun _=>undef,fun zs=> [tb (QJ (Qd vs 0)) ty (Qv zs)],fun zs=>zs=tset (Jj (XL (Qh hs 0))) (Jd (Qd vs 0)/4) (Jj (Qd vs 1))⟩
theorem zD {P:Program} {e:TypeId} {m:Nat} (K n:Nat) (hk: ∀w,(sizeOf e).run P w= .ok K w) (b:Nat) (ty:TypeId) {xs:List Int} (hx:QY m xs) (ys:List Int) (hy: ∀y∈ys,R4 y) (o:Nat) (ho:o=n*4) (hK:K=ys.length*4) (h:n+ys.length<=m):
    YZ P (do Instr.storeAt e (.pointer (some ⟨b,o,none⟩)) (Qv ys);pure .skip) [tb b ty (Qv xs)] (List Int) (fun _=>undef) (fun zs=> [tb b ty (Qv zs)]) (fun zs=>zs=tset (Jj (XL (tb b ty (Qv xs)))) (o/4) (Jj (Qv ys))):=by
  intro R w hw
  obtain ⟨_,w',_,hr,ho',he⟩:=Qd2 K hk b ty xs ys n o ho hK (by rw [hx.1];exact h) R w hw
  refine ⟨tset xs n ys,w',?_,hr,ho',he⟩
  show _=tset (Jj (Qv xs)) (o/4) (Jj (Qv ys))
  rw [QR hx,QR (n:=ys.length) ⟨rfl,hy⟩,ho,Nat.mul_div_cancel _ (by decide)]
theorem zG {m:Nat} {b:Nat} {ty:TypeId} {xs ys:List Int} (hx:QY m xs) (hy: ∀y∈ys,R4 y) {o n:Nat} (ho:o=n*4) {zs:List Int} (h:zs=tset (Jj (XL (tb b ty (Qv xs)))) (o/4) (Jj (Qv ys))):zs=tset xs n ys:=by
  have h' :zs=tset (Jj (Qv xs)) (o/4) (Jj (Qv ys)):=h
  rw [QR hx,QR (n:=ys.length) ⟨rfl,hy⟩,ho,Nat.mul_div_cancel _ (by decide)] at h';exact h'
theorem qh {a:Int} (h:R4 a): ∀y∈ [a],R4 y:=by intro y hy;simp at hy;subst hy;exact h
theorem qN {a b c d:Int} (h:Jw (a,b,c,d)): ∀y∈ [a,b,c,d],R4 y:=by
  intro y hy;simp at hy
  rcases hy with rfl | rfl | rfl | rfl
  · exact h.a
  · exact h.b
  · exact h.c
  · exact h.d
def QX (ty:TypeId):List Value->List Qf->ZB:=fun vs _=>⟨Unit,fun _=>undef,fun _=> [tb (QJ (Qd vs 0)) ty (Qd vs 1)],fun _=>True⟩
theorem Q5 {P:Program} {e:TypeId} {m:Nat} (K:Nat) (hk: ∀w,(sizeOf e).run P w= .ok K w) (b:Nat) (ty:TypeId) {xs ys:List Int} (hx:xs.length=m) (hy:ys.length=m) (hK:K=m*4):
    YZ P (do Instr.storeAt e (.pointer (some ⟨b,0,none⟩)) (Qv ys);pure .skip) [tb b ty (Qv xs)] Unit (fun _=>undef) (fun _=> [tb b ty (Qv ys)]) (fun _=>True):=by
  have h:=Qd2 K hk b ty xs ys 0 0 (by simp) (by rw [hK,hy]) (by omega) (P:=P)
  have e1:tset xs 0 ys=ys:=by unfold tset;rw [List.take_zero,List.nil_append,List.drop_eq_nil_of_le (by omega),List.append_nil]
  rw [e1] at h;exact h
end Go.Sx
namespace Go.Sx
open Go.RowKit
inductive RA where
  | acc (l:List xW)
  | tab (i:Nat)
def Zr (P:Program) (t:TypeId) (s:Qf) (a v:Value):Prop:= ∀ (R:HP) (w:World),Own (QL [s]) R w->(do loadVar t (←asAddr a):Sem Value).run P w= .ok v w
def vF (P : Program) (fr : Nat -> Value) (H : Hp) : List ResultVar -> List RA -> (List Value -> Prop) -> Prop
  | [],_,K=>K []
  | .tmp t::rs,ras,K=>vF P fr H rs ras fun vs=>K (fr t::vs)
  | .cell a t::rs, .acc l::ras,K=>kN P (do loadVar t (←asAddr (fr a))) l H fun v=>vF P fr H rs ras fun vs=>K (v::vs)
  | .cell a t :: rs, .tab i :: ras, K => match H i with
    | .par ns (.val v) A=>Zr P t (.par ns (.val v) A) (fr a) v/\vF P fr H rs ras fun vs=>K (v::vs)
    | _=>False
  | _,_,_=>False
def Qgr:List Value->Value
  | [v]=>v
  | vs=> .tuple vs.toArray
def QaE (fr:Nat->Value):ResultVar->Sem Value
  | .tmp t=>pure (fr t)
  | .cell a t=>do loadVar t (←asAddr (fr a))
theorem UG {P : Program} {fr : Nat -> Value} {H : Hp} {R : HP} {w : World} (ho : Own H R w) : ∀ (rs : List ResultVar) (ras : List RA) (K : List Value -> Prop), vF P fr H rs ras K -> ∃ vs, (rs.mapM (QaE fr)).run P w = .ok vs w /\ K vs
  | [],_,K,h=>⟨[],rfl,h⟩
  | .tmp t :: rs, ras, K, h => by
    obtain ⟨vs,hr,hk⟩:=UG ho rs ras _ h
    exact ⟨fr t::vs,by simp [QaE,Sem.run_bind,hr],hk⟩
  | .cell a t :: rs, .acc l :: ras, K, h => by
    obtain ⟨v,hv,hk⟩:=jW _ l H _ R w h ho
    obtain ⟨vs,hr,hk⟩:=UG ho rs ras _ hk
    refine ⟨v::vs,?_,hk⟩
    rw [List.mapM_cons,Sem.run_bind]
    show (((do loadVar t (←asAddr (fr a)):Sem Value).run P w).andThen _)=_
    rw [hv]
    simp [Sem.run_bind,hr]
  | .cell a t :: rs, .tab i :: ras, K, h => by
    unfold vF at h
    split at h
    · rename_i ns v A hi
      obtain ⟨hl,h⟩:=h
      obtain ⟨vs,hr,hk⟩:=UG ho rs ras _ h
      have hv:=hl _ w (by
        have:=Y8 (ids:= [i]) (by simp) ho
        simp only [List.map_cons,List.map_nil] at this
        rw [hi] at this
        exact this)
      refine ⟨v::vs,?_,hk⟩
      rw [List.mapM_cons,Sem.run_bind]
      show (((do loadVar t (←asAddr (fr a)):Sem Value).run P w).andThen _)=_
      rw [hv]
      simp [Sem.run_bind,hr]
    · exact h.elim
  | .cell a t::rs,[],K,h=>by simp [vF] at h
theorem Qci (fn:Func) (fr:Nat->Value) (P:Program) (w:World) {vs:List Value} (h:(fn.results.toList.mapM (QaE fr)).run P w= .ok vs w):(QbP fn fr).run P w= .ok (Qgr vs) w:=by
  have e:QbP fn fr=(do
      let vs←fn.results.mapM (QaE fr)
      pure (if h:vs.size=1 then vs[0] else .tuple vs)):=rfl
  rw [e,Array.mapM_eq_mapM_toList,Sem.run_bind]
  simp only [map_eq_pure_bind,Sem.run_bind,h,Result.andThen_ok]
  rcases vs with _ | ⟨v,_ | ⟨u,vs⟩⟩<;>rfl
def Qd5 (P:Program) (fn:Func) (ras:List RA) (outs:List Nat) {X:Type} (val:X->Value) (us:X->List Qf) (Φ:X->Prop) (e:Exit) (s:St) (_:ZD):Prop:=
  match e with
  | .normal | .ret=>vF P s.fr s.H fn.results.toList ras fun vs=> ∃x,Φ x/\Qgr vs=val x/\kK outs (us x) s.H (dfW s.df [] True)
  | _=>False
theorem VA {P:Program} {f:FuncId} {fn:Func} {c:Code} {n:Nat} {args:Array Value} {Hs:List Qf} {X:Type} {val:X->Value} {us:X->List Qf} {Φ:X->Prop}
    (hP : P.follows .mixedOrders = true) (hf : P.funcs[f]? = some fn) (hb : fn.body = some c) (hn : fn.ntmps = n) (hname : (fn.name == "runtime.NumGoroutine") = false)
    (fuel:Nat) (k:ZD) (ras:List RA) (outs:List Nat) (hsz:Nat.ble args.size n=true) (ho:JG outs=true)
    (h:QB P n none fuel none c k (Q2 args Hs) (Qd5 P fn ras outs val us Φ)):QC P f args Hs X val us Φ:=by
  refine ⟨Jt hf hb hname,fun R w hw=> ?_⟩
  subst hn
  have go:CallsIn Fence.wide 0 P f args w fun e w' => ∃x,Φ x/\e= .returned (val x)/\Own (QL (us x)) R w' /\YL w w' := ?_
  · exact callsIn_wide.1 go
  refine callsIn_of_wp hf hb trivial ?_
  have hc:=(Vi hP fuel).1 c k (Q2 args Hs) _ R _ w h (HF (Nat.le_of_ble_eq_true hsz)) hw
  refine wpIn_mono hc ?_
  have fin: ∀ (a' :Act) (w' :World) (s' :St),zP fn.ntmps s' a' ->Own s'.H R w' ->YL w w' ->(vF P s'.fr s'.H fn.results.toList ras fun vs=> ∃x,Φ x/\Qgr vs=val x/\kK outs (us x) s'.H (dfW s'.df [] True))->
      a'.defers= []/\ ∃v,(results fn a'.tmps).run P w' = .ok v w' /\ ∃x,Φ x/\Ending.returned v= .returned (val x)/\Own (QL (us x)) R w' /\YL w w' :=by
    intro a' w' s' hr ho' he hs
    obtain ⟨vs,hrun,x,hx,hv,hout⟩:=UG ho' _ ras _ hs
    obtain ⟨hd,hk⟩:=ze hout
    refine ⟨?_,val x,by rw [Br hr,←hv];exact Qci fn s'.fr P w' hrun,x,hx,rfl,(ja (X4.1 ho) ho').weaken fun k=>(hk k).symm,he⟩
    rw [hr.df]
    cases hdf:s'.df with
    | nil=>rfl
    | cons y l=>rw [hdf] at hd;exact absurd hd.1 (by simp)
  rintro e a' w' ⟨s',⟨k',hk⟩,hr,ho',he⟩
  cases e with
  | normal=>exact fin a' w' s' hr ho' he hk
  | ret=>exact fin a' w' s' hr ho' he hk
  | exit id=>exact hk.elim
  | goto l=>exact hk.elim
  | panic ch=>exact hk.elim
  | outgrown=>exact hk.elim
theorem Zk {P:Program} {t:TypeId} {m:Nat} (K:Nat) (ha: ∀w,(isAgg t).run P w= .ok true w) (hk: ∀w,(sizeOf t).run P w= .ok K w) (hK:K=m*4) {b:Nat} {ty:TypeId} {xs:List Int} (hx:xs.length=m):
    Zr P t (tb b ty (Qv xs)) (.pointer (some ⟨b,0,none⟩)) (Qv xs):=by
  intro R w ho
  have hb:=(Bh R w ho).block (i:=0) rfl
  have hl:((((Qv xs).cells.toList).drop 0).take (tL xs).length)=tL xs:=by
    show ((tL xs).toArray.toList.drop 0).take _=_
    rw [List.toList_toArray,List.drop_zero,List.take_length]
  have hrun:=run_loadCells_list (P:=P) w ⟨b,0,none⟩ (tL xs) (pb hb 0 (tL xs) hl)
  rw [Vm,hx,←hK] at hrun
  simp [asAddr,loadVar,Sem.run_bind,ha,hk w,hrun,Qv]
def ZP (k:Nat):List Value->Value:=fun vs=> .pointer (some ⟨QJ (Qd vs 0),Jd (Qd vs 0)+(ci (Qd vs 1)).toNat*k,none⟩)
theorem ZQ {P:Program} {t e:TypeId} {n K:Nat} (hu:P.underlying t=some (.array n e)) (hs: ∀w,(sizeOf e).run P w= .ok K w) (b o:Nat) (k:IntKind) (i:Int) (h0:0<=i) (h1:i<(n:Int)):
    Qg P (do pure (.value (←Instr.indexAt t (.pointer (some ⟨b,o,none⟩)) (.int k i)))) (.pointer (some ⟨b,o+i.toNat*K,none⟩)):=by
  intro w
  have hc:0<=i/\i<(n:Int):=⟨h0,h1⟩
  simp [Instr.indexAt,run_underlying hu,asIntOf,hc,hs w,Addr.add,Instr.sureAddr,Sem.run_bind]
end Go.Sx
namespace Go.Sx
open Go.RowKit
theorem QE (n:Nat):QY n (List.replicate n 0):=⟨by simp,fun x hx=>by rw [List.eq_of_mem_replicate hx];exact QI⟩
theorem zA {s:ST} (h:Jw s):R4 (asst s):=zd h.a h.b
noncomputable def xV (s:BS) (t n:Int):Int×Int:=Yx (asst (ZG s.1 t)) (ZG s.1 t).2.2.2 n
noncomputable def V6 (s:BS) (t n:Int):Int×Int:=XJ (asst (ZG s.1 t)) (ZG s.1 t).2.2.2 n
noncomputable def Jf (es eh:KV->Value->Zf) (s:BS) (t a n:Int):(Int×Int)×BS:=
  if 4<=t∨16<=a then ((0,1),s) else
  if (xV s t n).2≠0 then ((0,(xV s t n).2),s) else
  (((xV s t n).1, 0), ZF s.1 (.int .u8 t) (ZO ((Xl (ZG s.1 t).1 n).1, (ZG s.1 t).2.1, (ZG s.1 t).2.2.1, (Xl (ZG s.1 t).2.2.2 (xV s t n).1).1)),
    ZF s.2.1 (kk t a) (vI (Xl (Y4 s.2.1 t a) (xV s t n).1).1),s.2.2++ [es s.1 (.int .u8 t)]++ [eh s.2.1 (kk t a)])
noncomputable def ZS (es eh:KV->Value->Zf) (s:BS) (t a n:Int):(Int×Int)×BS:=
  if 4<=t∨16<=a then ((0,1),s) else
  if n=0 then ((0,3),s) else
  if Y4 s.2.1 t a<n then ((0,8),s) else
  if (V6 s t n).2≠0 then ((0,(V6 s t n).2),s) else
  if (ZG s.1 t).1<(V6 s t n).1 then ((0,8),s) else
  if (ZG s.1 t).1 - (V6 s t n).1<(ZG s.1 t).2.2.1 then ((0,11),s) else
  (((V6 s t n).1, 0), ZF s.1 (.int .u8 t) (ZO ((ZG s.1 t).1 - (V6 s t n).1, (ZG s.1 t).2.1, (ZG s.1 t).2.2.1, (Yp (ZG s.1 t).2.2.2 n).1)),
    ZF s.2.1 (kk t a) (vI (Y4 s.2.1 t a - n)),s.2.2++ [es s.1 (.int .u8 t)]++ [eh s.2.1 (kk t a)])
def Z3 (c n:Int):Int×Int:=if c<n then (8,c) else (0,c - n)
def Jp (c n:Int):Int×Int:=if Kw<=c+n then (2,c) else (0,c+n)
def Jy (s:ST) (n:Int):Int×ST:=if Kw<=asst s+n then (2,s) else ((Jp s.1 n).1,(Jp s.1 n).2,s.2)
def qA (s:ST) (n:Int):Int×ST:=((Jp s.2.2.1 n).1,s.1,s.2.1,(Jp s.2.2.1 n).2,s.2.2.2)
def qU (s:ST) (n:Int):Int×ST:=((Z3 s.2.2.1 n).1,s.1,s.2.1,(Z3 s.2.2.1 n).2,s.2.2.2)
def ZX (s:ST) (n:Int):Int×ST:=if (Z3 s.1 n).1≠0 then ((Z3 s.1 n).1,s) else ((Jp s.2.1 n).1,(Z3 s.1 n).2,(Jp s.2.1 n).2,s.2.2)
def Z5 (s:ST) (n:Int):Int×ST:=if (Z3 s.2.1 n).1≠0 then ((Z3 s.2.1 n).1,s) else ((Jp s.1 n).1,(Jp s.1 n).2,(Z3 s.2.1 n).2,s.2.2)
noncomputable def ZT (es:KV->Value->Zf) (f:ST->Int->Int×ST) (s:BS) (t n:Int):Int×BS:=
  if 4<=t then (1,s) else
  if (f (ZG s.1 t) n).1≠0 then ((f (ZG s.1 t) n).1,s) else
  (0,ZF s.1 (.int .u8 t) (ZO (f (ZG s.1 t) n).2),s.2.1,s.2.2++ [es s.1 (.int .u8 t)])
theorem zZ {c n:Int} (hc:R4 c) (hn:R4 n):R4 (Z3 c n).2:=by
  unfold Z3;split
  · exact hc
  · unfold R4 at *;dsimp only;omega
theorem xE {c n:Int} (hc:R4 c) (hn:R4 n):R4 (Jp c n).2:=by
  unfold Jp;split
  · exact hc
  · rename_i h;unfold Kw at h;unfold R4 at *;dsimp only;omega
theorem Qaz {s:ST} {n:Int} (hs:Jw s) (hn:R4 n):Jw (Jy s n).2:=by
  unfold Jy;split
  · exact hs
  · exact ⟨xE hs.a hn,hs.b,hs.c,hs.d⟩
theorem Qd9 {s:ST} {n:Int} (hs:Jw s) (hn:R4 n):Jw (qA s n).2:=⟨hs.a,hs.b,xE hs.c hn,hs.d⟩
theorem QdT {s:ST} {n:Int} (hs:Jw s) (hn:R4 n):Jw (qU s n).2:=⟨hs.a,hs.b,zZ hs.c hn,hs.d⟩
theorem G5 {s:ST} {n:Int} (hs:Jw s) (hn:R4 n):Jw (ZX s n).2:=by
  unfold ZX;split
  · exact hs
  · exact ⟨zZ hs.a hn,xE hs.b hn,hs.c,hs.d⟩
theorem Ha {s:ST} {n:Int} (hs:Jw s) (hn:R4 n):Jw (Z5 s n).2:=by
  unfold Z5;split
  · exact hs
  · exact ⟨xE hs.a hn,zZ hs.b hn,hs.c,hs.d⟩
def jB (k:Int):ST->Int->Int×ST:=if k=2 then Jy else if k=3 then qA else if k=4 then qU else if k=5 then ZX else Z5
noncomputable def pDo (es eh:KV->Value->Zf) (s:BS) (k t a n:Int):(Int×Int)×BS:=
  if k=0 then Jf es eh s t a n else if k=1 then ZS es eh s t a n else
  ((0,(ZT es (jB k) s t n).1),(ZT es (jB k) s t n).2)
def V4 (xs:List Int) (t:Nat):Int:=(XV (xs.getD (4*t) 0+xs.getD (4*t+1) 0)).1
def Ko (a b:Int):Int×Bool:=if a<b then (0,false) else (a - b,true)
theorem Gc {a b:Int} (ha:R4 a) (hb:R4 b):R4 (Ko a b).1:=by unfold Ko R4 at *;split<;>dsimp only<;>omega
def JT (xs:List Int) (i:Nat) (n:Int):List Int:=xs.set i (XV (xs.getD i 0+n)).1
def F1 (xs:List Int) (i:Nat) (n:Int):List Int:=xs.set i (Ko (xs.getD i 0) n).1
theorem QY.set {m:Nat} {xs:List Int} (h:QY m xs) (i:Nat) {y:Int} (hy:R4 y):QY m (xs.set i y):=⟨by rw [List.length_set];exact h.1,fun x hx=>(List.mem_or_eq_of_mem_set hx).elim (h.2 x) fun e=>e▸hy⟩
def K8 (xs : List Int) (t a n : Int) : List Int × Int × Int :=
  if 3<t∨15<a then (xs,0,1) else
  if (Yx (V4 xs t.toNat) (xs.getD (4*t.toNat+3) 0) n).2≠0 then (xs,0,(Yx (V4 xs t.toNat) (xs.getD (4*t.toNat+3) 0) n).2) else
  (JT (JT (JT xs (4*t.toNat) n) (4*t.toNat+3) (Yx (V4 xs t.toNat) (xs.getD (4*t.toNat+3) 0) n).1) (16+16*t.toNat+a.toNat) (Yx (V4 xs t.toNat) (xs.getD (4*t.toNat+3) 0) n).1,
    (Yx (V4 xs t.toNat) (xs.getD (4*t.toNat+3) 0) n).1,0)
def kf (xs:List Int) (t n:Int):Int×Int:=XJ (V4 xs t.toNat) (xs.getD (4*t.toNat+3) 0) n
def Xk (xs:List Int) (t a n:Int):List Int×Int×Int:=
  if 3<t∨15<a then (xs,0,1) else
  if n=0 then (xs,0,3) else
  if xs.getD (16+16*t.toNat+a.toNat) 0<n then (xs,0,8) else
  if (kf xs t n).2≠0 then (xs,0,(kf xs t n).2) else
  if xs.getD (4*t.toNat) 0<(kf xs t n).1 then (xs,0,8) else
  if xs.getD (4*t.toNat) 0 - (kf xs t n).1<xs.getD (4*t.toNat+2) 0 then (xs,0,11) else
  ((F1 (xs.set (4*t.toNat) (xs.getD (4*t.toNat) 0 - (kf xs t n).1)) (4*t.toNat+3) n).set (16+16*t.toNat+a.toNat) (xs.getD (16+16*t.toNat+a.toNat) 0 - n),(kf xs t n).1,0)
def WD (xs:List Int) (k t n:Int):Bool×Int×ST:=
  let s:=gS xs (4*t.toNat)
  if k=0 then ((XV (V4 xs t.toNat+n)).2,2,(XV (s.1+n)).1,s.2) else
  if k=1 then ((XV (s.2.2.1+n)).2,2,s.1,s.2.1,(XV (s.2.2.1+n)).1,s.2.2.2) else
  if k=2 then ((Ko s.2.2.1 n).2,8,s.1,s.2.1,(Ko s.2.2.1 n).1,s.2.2.2) else
  if k=3 then ((Ko s.1 n).2,8,(Ko s.1 n).1,(XV (s.2.1+n)).1,s.2.2) else
  ((Ko s.2.1 n).2,8,(XV (s.1+n)).1,(Ko s.2.1 n).1,s.2.2)
def qa (xs:List Int) (k t n:Int):List Int×Int:=
  if 3<t then (xs,1) else
  if (WD xs k t n).1=false then (xs,(WD xs k t n).2.1) else
  (tset xs (4*t.toNat) [(WD xs k t n).2.2.1,(WD xs k t n).2.2.2.1,(WD xs k t n).2.2.2.2.1,(WD xs k t n).2.2.2.2.2],0)
def rDo (xs:List Int) (k t a n:Int):List Int×Int×Int:=
  if k=0 then K8 xs t a n else if k=1 then Xk xs t a n else ((qa xs (k - 2) t n).1,0,(qa xs (k - 2) t n).2)
theorem Ul {m:Nat} {xs:List Int} (h:QY m xs) (i:Nat) {n:Int} (hn:R4 n):QY m (JT xs i n):=h.set i (kP (by have:=(h.get i).1;have:=hn.1;omega))
theorem dp {m:Nat} {xs:List Int} (h:QY m xs) (i:Nat) {n:Int} (hn:R4 n):QY m (F1 xs i n):=h.set i (Gc (h.get i) hn)
theorem Qao {m:Nat} {xs:List Int} (h:QY m xs) (t:Nat):R4 (V4 xs t):=kP (by have:=(h.get (4*t)).1;have:=(h.get (4*t+1)).1;omega)
theorem vc {xs:List Int} (h:QY 80 xs) (t a:Int) {n:Int} (hn:R4 n):QY 80 (K8 xs t a n).1/\R4 (K8 xs t a n).2.1:=by
  have hr:=Dx (Qao h t.toNat) (h.get (4*t.toNat+3)) hn
  unfold K8
  split
  · exact ⟨h,QI⟩
  · split
    · exact ⟨h,QI⟩
    · exact ⟨Ul (Ul (Ul h _ hn) _ hr) _ hr,hr⟩
theorem HO {xs:List Int} (h:QY 80 xs) (t a:Int) {n:Int} (hn:R4 n):QY 80 (Xk xs t a n).1/\R4 (Xk xs t a n).2.1:=by
  have hr:R4 (kf xs t n).1:=xf (Qao h t.toNat) (h.get (4*t.toNat+3)) hn
  unfold Xk
  split
  · exact ⟨h,QI⟩
  split
  · exact ⟨h,QI⟩
  split
  · exact ⟨h,QI⟩
  split
  · exact ⟨h,QI⟩
  split
  · exact ⟨h,QI⟩
  split
  · exact ⟨h,QI⟩
  · have h1:=h.get (4*t.toNat);have h2:=h.get (16+16*t.toNat+a.toNat)
    refine ⟨QY.set (dp (h.set _ ?_) _ hn) _ ?_,hr⟩
    · unfold R4 at *;omega
    · unfold R4 at *;omega
theorem Qgb {xs:List Int} (h:QY 80 xs) (k t:Int) {n:Int} (hn:R4 n):Jw (WD xs k t n).2.2:=by
  have s:=h.gS (4*t.toNat)
  have a: ∀ {x:Int},R4 x->R4 (XV (x+n)).1:=fun hx=>kP (by have:=hx.1;have:=hn.1;omega)
  unfold WD
  split
  · exact ⟨a s.a,s.b,s.c,s.d⟩
  split
  · exact ⟨s.a,s.b,a s.c,s.d⟩
  split
  · exact ⟨s.a,s.b,Gc s.c hn,s.d⟩
  split
  · exact ⟨Gc s.a hn,a s.b,s.c,s.d⟩
  · exact ⟨a s.a,Gc s.b hn,s.c,s.d⟩
theorem QdW {xs:List Int} (h:QY 80 xs) (k t:Int) {n:Int} (hn:R4 n) (ht:0<=t):QY 80 (qa xs k t n).1:=by
  have hb:=Qgb h k t hn
  unfold qa
  split
  · exact h
  split
  · exact h
  · exact h.tset (qN hb) (by simp;omega)
theorem Qhp {xs:List Int} (h:QY 80 xs) (k t a:Int) {n:Int} (hn:R4 n) (ht:0<=t):QY 80 (rDo xs k t a n).1/\R4 (rDo xs k t a n).2.1:=by
  unfold rDo
  split
  · exact vc h t a hn
  split
  · exact HO h t a hn
  · exact ⟨QdW h _ t hn ht,QI⟩
end Go.Sx
namespace Go.Sx
open Go.RowKit
section
variable {es eh:KV->Value->Zf} {s:BS} {t a n:Int} {st:ST} {A:Int} {g:Int×Int}
theorem QeD (hq:st=ZG s.1 t) (hA:A=asst st) (hg:g=Yx A st.2.2.2 n):g=xV s t n:=by subst hq hA hg;rfl
theorem WO (hq:st=ZG s.1 t) (hA:A=asst st) (hg:g=XJ A st.2.2.2 n):g=V6 s t n:=by subst hq hA hg;rfl
theorem kH (h:4<=t∨16<=a):Jf es eh s t a n=((0,1),s):=by unfold Jf;rw [if_pos h]
theorem QeC (h: ¬ (4<=t∨16<=a)) (hq:st=ZG s.1 t) (hA:A=asst st) (hg:g=Yx A st.2.2.2 n) (hz:g.2≠0):Jf es eh s t a n=((0,g.2),s):=by
  unfold Jf;rw [if_neg h,←QeD hq hA hg,if_pos hz]
theorem QcU (h: ¬ (4<=t∨16<=a)) (hq:st=ZG s.1 t) (hA:A=asst st) (hg:g=Yx A st.2.2.2 n) (hz:g.2=0) {x1 x2 x3:Int×Int} {y:Int} {m' h' :KV} {L' L'' :List Zf} (c1:x1=Xl st.1 n) (c2:x2=Xl st.2.2.2 g.1) (hb:y=Y4 s.2.1 t a) (c3:x3=Xl y g.1)
    (hm:m' =ZF s.1 (.int .u8 t) (ZO (x1.1,st.2.1,st.2.2.1,x2.1))) (hL:L' =s.2.2++ [es s.1 (.int .u8 t)]) (hh:h' =ZF s.2.1 (kk t a) (vI x3.1)) (hL2:L'' =L' ++ [eh s.2.1 (kk t a)]):Jf es eh s t a n=((g.1,0),m',h',L''):=by
  have e:=QeD hq hA hg
  unfold Jf
  rw [if_neg h,←e,if_neg (by rw [hz];exact fun q=>q rfl)]
  subst hm hh hL2 hL c3 hb c2 c1 hq;rfl
theorem Qfy {Ks Kh:MK} (hS:StK Ks) (hH:vE Kh) (hk:Xr Ks s.1) (hh:Xr Kh s.2.1) (hn:R4 n):R4 (Jf es eh s t a n).1.1:=by
  have q:=hS.of hk t
  unfold Jf
  split
  · exact QI
  split
  · exact QI
  · exact Dx (zA q) q.d hn
theorem xP (h:4<=t∨16<=a):ZS es eh s t a n=((0,1),s):=by unfold ZS;rw [if_pos h]
theorem pW (h: ¬ (4<=t∨16<=a)) (hn:n=0):ZS es eh s t a n=((0,3),s):=by unfold ZS;rw [if_neg h,if_pos hn]
theorem Qat (h: ¬ (4<=t∨16<=a)) (hn: ¬n=0) {y:Int} (hb:y=Y4 s.2.1 t a) (hlt:y<n):ZS es eh s t a n=((0,8),s):=by unfold ZS;rw [if_neg h,if_neg hn,←hb,if_pos hlt]
theorem QbZ (h: ¬ (4<=t∨16<=a)) (hn: ¬n=0) {y:Int} (hb:y=Y4 s.2.1 t a) (hlt: ¬y<n) (hq:st=ZG s.1 t) (hA:A=asst st) (hg:g=XJ A st.2.2.2 n) (hz:g.2≠0):ZS es eh s t a n=((0,g.2),s):=by
  unfold ZS;rw [if_neg h,if_neg hn,←hb,if_neg hlt,←WO hq hA hg,if_pos hz]
theorem gZ (h: ¬ (4<=t∨16<=a)) (hn: ¬n=0) {y:Int} (hb:y=Y4 s.2.1 t a) (hlt: ¬y<n) (hq:st=ZG s.1 t) (hA:A=asst st) (hg:g=XJ A st.2.2.2 n) (hz:g.2=0) (hc:st.1<g.1):ZS es eh s t a n=((0,8),s):=by
  unfold ZS;rw [if_neg h,if_neg hn,←hb,if_neg hlt,←WO hq hA hg,if_neg (by rw [hz];exact fun q=>q rfl),←hq,if_pos hc]
theorem Qag (h: ¬ (4<=t∨16<=a)) (hn: ¬n=0) {y:Int} (hb:y=Y4 s.2.1 t a) (hlt: ¬y<n) (hq:st=ZG s.1 t) (hA:A=asst st) (hg:g=XJ A st.2.2.2 n) (hz:g.2=0) (hc: ¬st.1<g.1) (hr:st.1 - g.1<st.2.2.1):ZS es eh s t a n=((0,11),s):=by
  unfold ZS;rw [if_neg h,if_neg hn,←hb,if_neg hlt,←WO hq hA hg,if_neg (by rw [hz];exact fun q=>q rfl),←hq,if_neg hc,if_pos hr]
theorem Qcq (h: ¬ (4<=t∨16<=a)) (hn: ¬n=0) {y:Int} (hb:y=Y4 s.2.1 t a) (hlt: ¬y<n) (hq:st=ZG s.1 t) (hA:A=asst st) (hg:g=XJ A st.2.2.2 n) (hz:g.2=0) (hc: ¬st.1<g.1) (hr: ¬st.1 - g.1<st.2.2.1)
    {c' y' :Int} {x2:Int×Int} {m' h' :KV} {L' L'' :List Zf} (hc' :c' =st.1 - g.1) (c2:x2=Yp st.2.2.2 n) (hy' :y' =y - n) (hm:m' =ZF s.1 (.int .u8 t) (ZO (c',st.2.1,st.2.2.1,x2.1))) (hL:L' =s.2.2++ [es s.1 (.int .u8 t)]) (hh:h' =ZF s.2.1 (kk t a) (vI y')) (hL2:L'' =L' ++ [eh s.2.1 (kk t a)]):ZS es eh s t a n=((g.1,0),m',h',L''):=by
  have e:=WO hq hA hg
  unfold ZS
  rw [if_neg h,if_neg hn,←hb,if_neg hlt,←e,if_neg (by rw [hz];exact fun q=>q rfl),←hq,if_neg hc,if_neg hr]
  subst hm hh hL2 hL hy' hc' c2;rfl
theorem Qdz {Ks Kh:MK} (hS:StK Ks) (hH:vE Kh) (hk:Xr Ks s.1) (hh:Xr Kh s.2.1) (hn:R4 n):R4 (ZS es eh s t a n).1.1:=by
  have q:=hS.of hk t
  unfold ZS
  repeat' split
  all_goals first | exact QI | exact xf (zA q) q.d hn
theorem Uh {f:ST->Int->Int×ST} (h:4<=t):ZT es f s t n=(1,s):=by unfold ZT;rw [if_pos h]
theorem yk {f:ST->Int->Int×ST} (h: ¬4<=t) (hq:st=ZG s.1 t) {x:Int×ST} (hx:x=f st n) (hz:x.1≠0):ZT es f s t n=(x.1,s):=by
  subst hq hx;unfold ZT;rw [if_neg h,if_pos hz]
theorem yF {f:ST->Int->Int×ST} (h: ¬4<=t) (hq:st=ZG s.1 t) {x:Int×ST} (hx:x=f st n) (hz:x.1=0) {m' :KV} {L' :List Zf} (hm:m' =ZF s.1 (.int .u8 t) (ZO x.2)) (hL:L' =s.2.2++ [es s.1 (.int .u8 t)]):ZT es f s t n=(0,m',s.2.1,L'):=by
  subst hq hx hm hL;unfold ZT;rw [if_neg h,if_neg (by rw [hz];exact fun q=>q rfl)]
end
section
variable {c n:Int} {x:Int×Int}
theorem Ho (h:x=Yp c n) (e:x.2≠0):Z3 c n=(8,c):=by
  have:=UV h;unfold Z3;rw [if_pos (by omega)]
theorem HZ (h:x=Yp c n) (e:x.2=0):Z3 c n=(0,x.1):=by
  have:=UV h;unfold Z3;rw [if_neg (by omega),show x.1=c - n by omega]
theorem DM (h:x=Xl c n) (e:x.2≠0):Jp c n=(x.2,c):=by
  have:=J3 h;unfold Jp Kw;rw [if_pos (by omega),show x.2=2 by omega]
theorem Bm (h:x=Xl c n) (e:x.2=0):Jp c n=(0,x.1):=by
  have:=J3 h;unfold Jp Kw;rw [if_neg (by omega),show x.1=c+n by omega]
theorem Qc4 {s:ST} {A:Int} (hA:A=asst s) (h:x=Xl A n) (e:x.2≠0):Jy s n=(x.2,s):=by
  have:=J3 h;unfold Jy Kw;rw [←hA,if_pos (by omega),show x.2=2 by omega]
theorem Qdv {s:ST} {A:Int} (hA:A=asst s) (h:x=Xl A n) (e:x.2=0) {y:Int×Int} (hy:y=Jp s.1 n):Jy s n=(y.1,y.2,s.2):=by
  have:=J3 h;unfold Jy Kw;rw [←hA,if_neg (by omega),hy]
theorem Qbq {s:ST} {y:Int×Int} (hy:y=Z3 s.1 n) (e:y.1≠0):ZX s n=(y.1,y.2,s.2):=by
  have h2:y.2=s.1:=by rw [hy];unfold Z3 at *;split at hy<;>simp_all
  unfold ZX;rw [←hy,if_pos e,h2]
theorem Qb4 {s:ST} {y z:Int×Int} (hy:y=Z3 s.1 n) (e:y.1=0) (hz:z=Jp s.2.1 n):ZX s n=(z.1,y.2,z.2,s.2.2):=by
  unfold ZX;rw [←hy,←hz,if_neg (by omega)]
theorem Qbz {s:ST} {y:Int×Int} (hy:y=Z3 s.2.1 n) (e:y.1≠0):Z5 s n=(y.1,s.1,y.2,s.2.2):=by
  have h2:y.2=s.2.1:=by rw [hy];unfold Z3 at *;split at hy<;>simp_all
  unfold Z5;rw [←hy,if_pos e,h2]
theorem Qcm {s:ST} {y z:Int×Int} (hy:y=Z3 s.2.1 n) (e:y.1=0) (hz:z=Jp s.1 n):Z5 s n=(z.1,z.2,y.2,s.2.2):=by
  unfold Z5;rw [←hy,←hz,if_neg (by omega)]
end
theorem QdJ {a b:Int} (ha:R4 a) (hb:R4 b):R4 (XV (a+b)).1:=kP (by have:=ha.1;have:=hb.1;omega)
theorem QdS {a b:Int} (h:b<=a) (ha:R4 a) (hb:R4 b):XV (a - b)=Ko a b:=by
  unfold XV Ko
  have:=ha.2;have:=hb.1
  rw [if_neg (show ¬a<b by omega),if_pos (by omega)]
section
variable {xs zs x1 x2 x3:List Int} {t a n k:Int} {m i j:Nat} {z:Int} {y:Int×Bool} {g:Int×Int} {A:Int}
theorem dD (e:i=j) (hj:j<m) (hx:QY m xs) (hz:z=xs.getD i 0) (hy:y=XV (z+n)) (hs:zs=tset xs i [y.1]):zs=JT xs j n:=by
  subst e;rw [hs,Hn (by rw [hx.1];exact hj),hy,hz];rfl
theorem Qgv (e:i=j) (hj:j<m) (hx:QY m xs) (hz:z=xs.getD i 0) (hy:y=Ko z n) (hs:zs=tset xs i [y.1]):zs=F1 xs j n:=by
  subst e;rw [hs,Hn (by rw [hx.1];exact hj),hy,hz];rfl
theorem Qew (e:i=j) (hj:j<m) (hx:QY m xs) (hs:zs=tset xs i [z]):zs=xs.set j z:=by
  subst e;rw [hs,Hn (by rw [hx.1];exact hj)]
theorem GG (e:i=j) (hz:z=xs.getD i 0):z=xs.getD j 0:=by subst e;exact hz
theorem kL (h:3<t∨15<a):K8 xs t a n=(xs,0,1):=by unfold K8;rw [if_pos h]
theorem Qdf (h: ¬ (3<t∨15<a)) (hA:A=V4 xs t.toNat) (hz:z=xs.getD (4*t.toNat+3) 0) (hg:g=Yx A z n) (h0:g.2≠0):K8 xs t a n=(xs,0,g.2):=by
  subst hA hz hg;unfold K8;rw [if_neg h,if_pos h0]
theorem Qd6 (h: ¬ (3<t∨15<a)) (hA:A=V4 xs t.toNat) (hz:z=xs.getD (4*t.toNat+3) 0) (hg:g=Yx A z n) (h0:g.2=0) (h1:x1=JT xs (4*t.toNat) n) (h2:x2=JT x1 (4*t.toNat+3) g.1) (h3:x3=JT x2 (16+16*t.toNat+a.toNat) g.1):K8 xs t a n=(x3,g.1,0):=by
  subst hA hz h1 h2 h3 hg;unfold K8;rw [if_neg h,if_neg (by rw [h0];exact fun q=>q rfl)]
theorem B4 (h:y=Ko z n) (e:y.2=false):z<n:=by
  subst h;unfold Ko at e;split at e
  · assumption
  · cases e
theorem Vt (h:y=Ko z n) (e:y.2=true): ¬z<n/\y.1=z - n:=by
  subst h;unfold Ko at e ⊢;split at e
  · cases e
  · rename_i q;exact ⟨q,by rw [if_neg q]⟩
theorem W5 {S:Int} (hA:A=V4 xs t.toNat) (hz:S=xs.getD (4*t.toNat+3) 0) (hg:g=XJ A S n):g=kf xs t n:=by subst hA hz hg;rfl
theorem xT (h:3<t∨15<a):Xk xs t a n=(xs,0,1):=by unfold Xk;rw [if_pos h]
theorem pg (h: ¬ (3<t∨15<a)) (hn:n=0):Xk xs t a n=(xs,0,3):=by unfold Xk;rw [if_neg h,if_pos hn]
theorem bO (h: ¬ (3<t∨15<a)) (hn: ¬n=0) (hb:z=xs.getD (16+16*t.toNat+a.toNat) 0) (hl:z<n):Xk xs t a n=(xs,0,8):=by unfold Xk;rw [if_neg h,if_neg hn,←hb,if_pos hl]
theorem Qcj (h: ¬ (3<t∨15<a)) (hn: ¬n=0) (hb:z=xs.getD (16+16*t.toNat+a.toNat) 0) (hl: ¬z<n) (hg:g=kf xs t n) (h0:g.2≠0):Xk xs t a n=(xs,0,g.2):=by
  unfold Xk;rw [if_neg h,if_neg hn,←hb,if_neg hl,←hg,if_pos h0]
variable {c r:Int}
theorem p5 (h: ¬ (3<t∨15<a)) (hn: ¬n=0) (hb:z=xs.getD (16+16*t.toNat+a.toNat) 0) (hl: ¬z<n) (hg:g=kf xs t n) (h0:g.2=0) (hc:c=xs.getD (4*t.toNat) 0) (hlt:c<g.1):Xk xs t a n=(xs,0,8):=by
  unfold Xk;rw [if_neg h,if_neg hn,←hb,if_neg hl,←hg,if_neg (by rw [h0];exact fun q=>q rfl),←hc,if_pos hlt]
theorem dG (h: ¬ (3<t∨15<a)) (hn: ¬n=0) (hb:z=xs.getD (16+16*t.toNat+a.toNat) 0) (hl: ¬z<n) (hg:g=kf xs t n) (h0:g.2=0) (hc:c=xs.getD (4*t.toNat) 0) (hlt: ¬c<g.1) (hr:r=xs.getD (4*t.toNat+2) 0) (hq:c - g.1<r):Xk xs t a n=(xs,0,11):=by
  unfold Xk;rw [if_neg h,if_neg hn,←hb,if_neg hl,←hg,if_neg (by rw [h0];exact fun q=>q rfl),←hc,if_neg hlt,←hr,if_pos hq]
theorem Qcb (h: ¬ (3<t∨15<a)) (hn: ¬n=0) (hb:z=xs.getD (16+16*t.toNat+a.toNat) 0) (hl: ¬z<n) (hg:g=kf xs t n) (h0:g.2=0) (hc:c=xs.getD (4*t.toNat) 0) (hlt: ¬c<g.1) (hr:r=xs.getD (4*t.toNat+2) 0) (hq: ¬c - g.1<r)
    {c' z' :Int} (hc' :c' =c - g.1) (hz' :z' =z - n) (h1:x1=xs.set (4*t.toNat) c') (h2:x2=F1 x1 (4*t.toNat+3) n) (h3:x3=x2.set (16+16*t.toNat+a.toNat) z'):Xk xs t a n=(x3,g.1,0):=by
  unfold Xk;rw [if_neg h,if_neg hn,←hb,if_neg hl,←hg,if_neg (by rw [h0];exact fun q=>q rfl),←hc,if_neg hlt,←hr,if_neg hq,←hc',←hz',←h1,←h2,←h3]
theorem gN (h:3<t):qa xs k t n=(xs,1):=by unfold qa;rw [if_pos h]
theorem yV {e:Int} {b:Bool} {st:ST} (h: ¬3<t) (hb:WD xs k t n=(b,e,st)) (he:b=false):qa xs k t n=(xs,e):=by
  unfold qa;rw [if_neg h,hb,if_pos he]
theorem yN {e:Int} {b:Bool} {st:ST} (h: ¬3<t) (hb:WD xs k t n=(b,e,st)) (he:b=true) (hi:i=4*t.toNat) (hz:zs=tset xs i [st.1,st.2.1,st.2.2.1,st.2.2.2]):qa xs k t n=(zs,0):=by
  unfold qa;subst he;rw [if_neg h,hb,if_neg (fun q=>Bool.noConfusion q),hz,hi]
variable {s:ST} {y' :Int×Bool}
theorem QhG (hk:k=0) (hs:s=gS xs i) (hi:i=4*t.toNat) (hA:A=V4 xs t.toNat) (h1:y=XV (A+n)) (h2:y' =XV (s.1+n)):WD xs k t n=(y.2,2,y'.1,s.2):=by subst hi hs hA h1 h2;unfold WD;rw [if_pos hk]
theorem QhT (k0: ¬k=0) (hk:k=1) (hs:s=gS xs i) (hi:i=4*t.toNat) (h1:y=XV (s.2.2.1+n)):WD xs k t n=(y.2,2,s.1,s.2.1,y.1,s.2.2.2):=by subst hi hs h1;unfold WD;rw [if_neg k0,if_pos hk]
theorem Qg8 (k0: ¬k=0) (k1: ¬k=1) (hk:k=2) (hs:s=gS xs i) (hi:i=4*t.toNat) (h1:y=Ko s.2.2.1 n):WD xs k t n=(y.2,8,s.1,s.2.1,y.1,s.2.2.2):=by subst hi hs h1;unfold WD;rw [if_neg k0,if_neg k1,if_pos hk]
theorem Qhr (k0: ¬k=0) (k1: ¬k=1) (k2: ¬k=2) (hk:k=3) (hs:s=gS xs i) (hi:i=4*t.toNat) (h1:y=Ko s.1 n) (h2:y' =XV (s.2.1+n)):WD xs k t n=(y.2,8,y.1,y'.1,s.2.2):=by subst hi hs h1 h2;unfold WD;rw [if_neg k0,if_neg k1,if_neg k2,if_pos hk]
theorem Qhc (k0: ¬k=0) (k1: ¬k=1) (k2: ¬k=2) (k3: ¬k=3) (hs:s=gS xs i) (hi:i=4*t.toNat) (h1:y=Ko s.2.1 n) (h2:y' =XV (s.1+n)):WD xs k t n=(y.2,8,y'.1,y.1,s.2.2):=by subst hi hs h1 h2;unfold WD;rw [if_neg k0,if_neg k1,if_neg k2,if_neg k3]
end
end Go.Sx
namespace Go.Sx
open Go.RowKit
def UX (f:Nat->Int):Nat->Int
  | 0=>0
  | n+1=>UX f n+f n
theorem Ue {f g:Nat->Int}: ∀ {n:Nat},(∀i,i<n->g i=f i)->UX g n=UX f n
  | 0,_=>rfl
  | n+1,h=>by rw [UX,UX,Ue fun i hi=>h i (by omega),h n (by omega)]
theorem pC {f g:Nat->Int} {k:Nat}: ∀ {n:Nat},k<n->(∀i,i≠k->g i=f i)->UX g n=UX f n - f k+g k
  | 0,h,_=>absurd h (Nat.not_lt_zero _)
  | n + 1, h, ho => by
    rcases Nat.lt_or_ge k n with q | q
    · rw [UX,UX,pC q ho,ho n (by omega)];omega
    · have:k=n:=by omega
      subst this
      rw [UX,UX,Ue fun i hi=>ho i (by omega)];omega
theorem wK {f:Nat->Int}: ∀ {n:Nat},(∀i,i<n->0<=f i)->0<=UX f n
  | 0,_=>Int.le_refl _
  | n+1,h=>by rw [UX];have:=wK fun i hi=>h i (Nat.lt_succ_of_lt hi);have:=h n (Nat.lt_succ_self n);omega
theorem Qa2 {f:Nat->Int} {k:Nat}: ∀ {n:Nat},k<n->(∀i,i<n->0<=f i)->f k<=UX f n
  | 0,h,_=>absurd h (Nat.not_lt_zero _)
  | n + 1, h, h0 => by
    rcases Nat.lt_or_ge k n with q | q
    · rw [UX];have:=Qa2 q fun i hi=>h0 i (Nat.lt_succ_of_lt hi);have:=h0 n (Nat.lt_succ_self n);omega
    · have:k=n:=by omega
      subst this
      rw [UX];have:=wK (n:=k) fun i hi=>h0 i (Nat.lt_succ_of_lt hi);omega
noncomputable def QfF (h:KV) (t:Int):Int:=UX (fun i=>Y4 h t (i:Int)) 16
structure KI (Ks Kh:MK) (m h:KV):Prop where
  k:Xr Ks m
  kh:Xr Kh h
  fit: ∀t,(ZG m t).1+(ZG m t).2.1<Kw
  sum: ∀t,QfF h t=(ZG m t).2.2.2
  le: ∀t,(ZG m t).2.2.2<=(ZG m t).1+(ZG m t).2.1
theorem KI.asst {Ks Kh:MK} {m h:KV} (v:KI Ks Kh m h) (t:Int):asst (ZG m t)=(ZG m t).1+(ZG m t).2.1:=by
  have:=v.fit t;unfold Kw at this;unfold Sx.asst Xl;rw [if_pos this]
theorem yr (t p:Int):Y4 [] t p=0:=by unfold Y4;rw [qo];exact Qc QI
theorem U0 (t:Int):ZG [] t=s0:=by unfold ZG;rw [qo];exact D7 QgV
theorem Dv: ∀n,UX (fun _=>0) n=0
  | 0=>rfl
  | n+1=>by rw [UX,Dv n];rfl
theorem KI.start {Ks Kh:MK}:KI Ks Kh [] []:=⟨Xr.nil,Xr.nil,fun t=>by rw [U0];decide,fun t=>by
  rw [U0];unfold QfF
  rw [Ue (f:=fun _=>0) fun i _=>yr t i,Dv];rfl,fun t=>by rw [U0];decide⟩
section
variable {Ks Kh:MK} {m h:KV}
theorem Gl (hH:vE Kh) (v:KI Ks Kh m h) (t p:Int):R4 (Y4 h t p):=Xr.R4v hH v.kh _
theorem KI.hold (hH:vE Kh) (v:KI Ks Kh m h) (t:Int) {a:Int} (h0:0<=a) (h1:a<16):Y4 h t a<=(ZG m t).2.2.2:=by
  have:=Qa2 (f:=fun i=>Y4 h t (i:Int)) (k:=a.toNat) (n:=16) (by omega) (fun i _=>(Gl hH v t i).1)
  rw [←v.sum t]
  simp only [Int.toNat_of_nonneg h0] at this
  exact this
theorem KI.put (hS:StK Ks) (hH:vE Kh) (v:KI Ks Kh m h) {t a x:Int} {s:ST} (ht:Ks.OkK (.int .u8 t)) (ha:Kh.OkK (kk t a)) (h0:0<=a) (h1:a<16) (hs:Jw s) (hx:R4 x) (f:s.1+s.2.1<Kw) (e:s.2.2.2 - (ZG m t).2.2.2=x - Y4 h t a) (l:s.2.2.2<=s.1+s.2.1):
    KI Ks Kh (ZF m (.int .u8 t) (ZO s)) (ZF h (kk t a) (vI x)):=by
  refine ⟨v.k.set ht ((hS _).2 ⟨s,hs,rfl⟩),v.kh.set ha ((hH _).2 ⟨x,hx,rfl⟩),fun t' => ?_,fun t' => ?_,fun t' => ?_⟩
  · rw [Kb m hs];split
    · exact f
    · exact v.fit t'
  · rw [Kb m hs]
    unfold QfF
    split
    · rename_i q;subst q
      rw [pC (f:=fun i=>Y4 h t' (i:Int)) (k:=a.toNat) (by omega) fun i hi=>by rw [Ux h hx,if_neg (by omega)],Ux h hx]
      simp only [Int.toNat_of_nonneg h0]
      have:=v.sum t'
      unfold QfF at this
      rw [if_pos ⟨trivial,trivial⟩,this];omega
    · rename_i q
      rw [Ue (f:=fun i=>Y4 h t' (i:Int)) fun i _=>by rw [Ux h hx,if_neg (by omega)]]
      exact v.sum t'
  · rw [Kb m hs];split
    · exact l
    · exact v.le t'
theorem KI.put1 (hS:StK Ks) (v:KI Ks Kh m h) {t:Int} {s:ST} (ht:Ks.OkK (.int .u8 t)) (hs:Jw s) (f:s.1+s.2.1<Kw) (e:s.2.2.2=(ZG m t).2.2.2) (l:s.2.2.2<=s.1+s.2.1):KI Ks Kh (ZF m (.int .u8 t) (ZO s)) h:=by
  refine ⟨v.k.set ht ((hS _).2 ⟨s,hs,rfl⟩),v.kh,fun t' => ?_,fun t' => ?_,fun t' => ?_⟩
  · rw [Kb m hs];split
    · exact f
    · exact v.fit t'
  · rw [Kb m hs];split
    · rename_i q;subst q;rw [e];exact v.sum t'
    · exact v.sum t'
  · rw [Kb m hs];split
    · exact l
    · exact v.le t'
structure Vs (Ks Kh:MK):Prop where
  s:StK Ks
  h:vE Kh
  kt: ∀t:Int,Ks.OkK (.int .u8 t)
  kh: ∀t a:Int,Kh.OkK (kk t a)
variable {es eh:KV->Value->Zf} {L:List Zf} {t a n:Int}
theorem KI.join (K:Vs Ks Kh) (v:KI Ks Kh m h) (hn:R4 n) (h0:0<=a) {x:(Int×Int)×BS} (hx:x=Jf es eh (m,h,L) t a n):
    (x.1.2≠0/\x.1.1=0/\x.2=(m,h,L))∨(x.1.2=0/\t<4/\a<16/\n≠0/\x.1.1≠0/\R4 x.1.1/\x.1.1=n*((ZG m t).2.2.2+1)/((ZG m t).1+(ZG m t).2.1+1)/\KI Ks Kh x.2.1 x.2.2.1/\
      (∀t',ZG x.2.1 t' =if t' =t then ((ZG m t).1+n,(ZG m t).2.1,(ZG m t).2.2.1,(ZG m t).2.2.2+x.1.1) else ZG m t')/\(∀t' a',Y4 x.2.2.1 t' a' =if t' =t/\a' =a then Y4 h t a+x.1.1 else Y4 h t' a')/\
      (ZG m t).1+n+(ZG m t).2.1<Kw/\x.2.2.2.length<=L.length+2):=by
  have S:=K.s.of v.k t
  have B:=Gl K.h v t a
  have F:=v.fit t
  have A:=v.asst t
  subst hx
  unfold Jf
  split
  · exact .inl ⟨(by decide:(1:Int)≠0),rfl,rfl⟩
  rename_i hc
  have g:=Qb7 (x:=xV (m,h,L) t n) rfl
  split
  · rename_i hz;exact .inl ⟨hz,rfl,rfl⟩
  rename_i hz
  have hz' :(xV (m,h,L) t n).2=0:=by simpa using hz
  have hR:R4 (xV (m,h,L) t n).1:=Dx (zA S) S.d hn
  obtain ⟨_,g2,g3,g4,g5,g6⟩:=g.resolve_right fun q=>q.1 hz'
  dsimp only at g2 g3 g4 g5 g6 A F S ⊢
  rw [A] at g2 g5
  have H:=v.hold K.h t h0 (by omega)
  have e1:(Xl (ZG m t).1 n).1=(ZG m t).1+n:=by unfold Xl;rw [if_pos (by have:=S.b.1;omega)]
  have e2:(Xl (ZG m t).2.2.2 (xV (m,h,L) t n).1).1=(ZG m t).2.2.2+(xV (m,h,L) t n).1:=by unfold Xl;rw [if_pos (by omega)]
  have e3:(Xl (Y4 h t a) (xV (m,h,L) t n).1).1=Y4 h t a+(xV (m,h,L) t n).1:=by unfold Xl;rw [if_pos (by omega)]
  rw [e1,e2,e3]
  have hs:Jw ((ZG m t).1+n,(ZG m t).2.1,(ZG m t).2.2.1,(ZG m t).2.2.2+(xV (m,h,L) t n).1):=by
    refine ⟨?_,S.b,S.c,?_⟩
    · have:=S.a.1;have:=S.b.1;have:=hn.1;unfold R4;dsimp only;omega
    · have:=S.d.1;have:=hR.1;unfold R4;dsimp only;omega
  have hb:R4 (Y4 h t a+(xV (m,h,L) t n).1):=by have:=B.1;have:=hR.1;unfold R4;omega
  have kp:=QfH (A:=(ZG m t).1+(ZG m t).2.1) (by have:=S.a.1;have:=S.b.1;omega) S.d.1 hn.1 (v.le t) g2
  refine .inr ⟨rfl,by omega,by omega,g4,g3,hR,g2,v.put K.s K.h (K.kt t) (K.kh t a) h0 (by omega) hs hb ?_ ?_ ?_,fun t' =>by rw [Kb m hs],fun t' a' =>by rw [Ux h hb],?_,by simp⟩
  · unfold Kw;dsimp only;omega
  · dsimp only;omega
  · dsimp only;omega
  · unfold Kw;omega
theorem KI.leave (K:Vs Ks Kh) (v:KI Ks Kh m h) (hn:R4 n) (h0:0<=a) {x:(Int×Int)×BS} (hx:x=ZS es eh (m,h,L) t a n):
    (x.1.2≠0/\x.1.1=0/\x.2=(m,h,L)/\(t<4->a<16->n≠0->n<=Y4 h t a->n*((ZG m t).1+(ZG m t).2.1+1)/((ZG m t).2.2.2+1)<=(ZG m t).1->x.1.2=11∨x.1.2=2))∨(x.1.2=0/\t<4/\a<16/\n<=Y4 h t a/\x.1.1=n*((ZG m t).1+(ZG m t).2.1+1)/((ZG m t).2.2.2+1)/\KI Ks Kh x.2.1 x.2.2.1/\
      (∀t',ZG x.2.1 t' =if t' =t then ((ZG m t).1 - x.1.1,(ZG m t).2.1,(ZG m t).2.2.1,(ZG m t).2.2.2 - n) else ZG m t')/\(∀t' a',Y4 x.2.2.1 t' a' =if t' =t/\a' =a then Y4 h t a - n else Y4 h t' a')/\x.2.2.2.length<=L.length+2):=by
  have S:=K.s.of v.k t
  have B:=Gl K.h v t a
  have F:=v.fit t
  have A:=v.asst t
  subst hx
  unfold ZS
  split
  · refine .inl ⟨(by decide:(1:Int)≠0),rfl,rfl,fun q1 q2=> ?_⟩;omega
  rename_i hc
  split
  · exact .inl ⟨(by decide:(3:Int)≠0),rfl,rfl,fun q1 q2 q3=>by omega⟩
  rename_i hn0
  split
  · rename_i q;exact .inl ⟨(by decide:(8:Int)≠0),rfl,rfl,fun q1 q2 q3 q4=>by dsimp only at q;omega⟩
  rename_i hle
  dsimp only at hle
  have H:=v.hold K.h t h0 (by omega)
  have g:=Qap (x:=V6 (m,h,L) t n) rfl
  have gA:Sx.asst (ZG (m,h,L).1 t)=(ZG m t).1+(ZG m t).2.1:=A
  rw [gA] at g
  dsimp only at g
  split
  · rename_i hz
    refine .inl ⟨hz,rfl,rfl,fun q1 q2 q3 q4 q5=> ?_⟩
    obtain ⟨g1,_⟩ | ⟨g1,g2,g3⟩:=g
    · exact absurd g1 hz
    · dsimp only
      have hd:=S.b.1
      rcases g3 with g3 | g3 | g3 | g3
      · exact .inr g3
      · omega
      · omega
      · omega
  rename_i hz
  have hz' :(V6 (m,h,L) t n).2=0:=by simpa using hz
  obtain ⟨_,g2,g3,g4,g5⟩:=g.resolve_right fun q=>q.1 hz'
  have hR:R4 (V6 (m,h,L) t n).1:=xf (zA S) S.d hn
  split
  · rename_i q
    refine .inl ⟨(by decide:(8:Int)≠0),rfl,rfl,fun q1 q2 q3 q4 q5=> ?_⟩
    dsimp only at q;rw [←g2] at q5;omega
  rename_i hca
  dsimp only at hca
  split
  · exact .inl ⟨(by decide:(11:Int)≠0),rfl,rfl,fun _ _ _ _ _=> .inl rfl⟩
  rename_i hre
  dsimp only at hre
  have e2:(Yp (ZG m t).2.2.2 n).1=(ZG m t).2.2.2 - n:=by unfold Yp;rw [if_pos (by omega)]
  dsimp only
  rw [e2]
  have hs:Jw ((ZG m t).1 - (V6 (m,h,L) t n).1,(ZG m t).2.1,(ZG m t).2.2.1,(ZG m t).2.2.2 - n):=by
    refine ⟨?_,S.b,S.c,?_⟩
    · have:=S.a.2;have:=hR.1;unfold R4;dsimp only;omega
    · have:=S.d.2;have:=hn.1;unfold R4;dsimp only;omega
  have hb:R4 (Y4 h t a - n):=by have:=B.2;have:=hn.1;unfold R4;omega
  have kp:=Qeb (A:=(ZG m t).1+(ZG m t).2.1) (by have:=S.a.1;have:=S.b.1;omega) S.d.1 hn.1 (v.le t) g3 g2
  refine .inr ⟨rfl,by omega,by omega,by omega,g2,v.put K.s K.h (K.kt t) (K.kh t a) h0 (by omega) hs hb ?_ ?_ ?_,fun t' =>by rw [Kb m hs],fun t' a' =>by rw [Ux h hb],by simp⟩
  · have:=hR.1;dsimp only;omega
  · dsimp only;omega
  · dsimp only;omega
theorem KI.chg (K:Vs Ks Kh) (v:KI Ks Kh m h) {f:ST->Int->Int×ST} (hf: ∀s n,Jw s->R4 n->(f s n).1=0->s.1+s.2.1<Kw->Jw (f s n).2/\(f s n).2.1+(f s n).2.2.1<Kw/\s.1+s.2.1<=(f s n).2.1+(f s n).2.2.1/\(f s n).2.2.2.2=s.2.2.2) (hn:R4 n) {x:Int×BS} (hx:x=ZT es f (m,h,L) t n):
    KI Ks Kh x.2.1 x.2.2.1/\(∀t',(ZG m t').1+(ZG m t').2.1<=(ZG x.2.1 t').1+(ZG x.2.1 t').2.1)/\x.2.2.2.length<=L.length+1:=by
  have S:=K.s.of v.k t
  subst hx
  unfold ZT
  split
  · exact ⟨v,fun _=>Int.le_refl _,Nat.le_succ _⟩
  split
  · exact ⟨v,fun _=>Int.le_refl _,Nat.le_succ _⟩
  rename_i hz
  have hz' :(f (ZG m t) n).1=0:=by simpa using hz
  obtain ⟨f1,f2,f3,f4⟩:=hf _ _ S hn hz' (v.fit t)
  refine ⟨v.put1 K.s (K.kt t) f1 f2 f4 (by have:=v.le t;dsimp only;omega),fun t' => ?_,by simp⟩
  dsimp only
  rw [Kb m f1]
  split
  · rename_i q;subst q;exact f3
  · exact Int.le_refl _
theorem QcA (k:Int) (s:ST) (n:Int) (hs:Jw s) (hn:R4 n) (hz:(jB k s n).1=0) (f:s.1+s.2.1<Kw):Jw (jB k s n).2/\(jB k s n).2.1+(jB k s n).2.2.1<Kw/\s.1+s.2.1<=(jB k s n).2.1+(jB k s n).2.2.1/\(jB k s n).2.2.2.2=s.2.2.2:=by
  have a1:=hs.a.1;have b1:=hs.b.1;have n1:=hn.1
  unfold jB at *
  split at hz
  · rename_i q
    simp only [if_pos q] at *
    have ha:Sx.asst s=s.1+s.2.1:=by unfold Sx.asst Xl Kw at *;rw [if_pos f]
    refine ⟨Qaz hs hn,?_⟩
    unfold Jy at hz ⊢
    rw [ha] at hz ⊢
    split at hz
    · cases hz
    rename_i hq
    rw [if_neg hq]
    unfold Jp at hz ⊢
    split at hz
    · cases hz
    rename_i hq2
    rw [if_neg hq2]
    refine ⟨by dsimp only;omega,by dsimp only;omega,rfl⟩
  split at hz
  · rename_i q0 q
    simp only [if_neg q0,if_pos q] at *
    exact ⟨Qd9 hs hn,f,Int.le_refl _,rfl⟩
  split at hz
  · rename_i q0 q1 q
    simp only [if_neg q0,if_neg q1,if_pos q] at *
    exact ⟨QdT hs hn,f,Int.le_refl _,rfl⟩
  split at hz
  · rename_i q0 q1 q2 q
    simp only [if_neg q0,if_neg q1,if_neg q2,if_pos q] at *
    refine ⟨G5 hs hn,?_⟩
    unfold ZX at hz ⊢
    split at hz
    · rename_i q;exact absurd hz q
    rename_i hq
    rw [if_neg hq]
    unfold Z3 Jp at *
    split at hz
    · cases hz
    rename_i hq2
    rw [if_neg hq2]
    split at hq
    · exact absurd (by dsimp only;decide) hq
    · rename_i hq3
      rw [if_neg hq3]
      refine ⟨by dsimp only;omega,by dsimp only;omega,rfl⟩
  · rename_i q0 q1 q2 q
    simp only [if_neg q0,if_neg q1,if_neg q2,if_neg q] at *
    refine ⟨Ha hs hn,?_⟩
    unfold Z5 at hz ⊢
    split at hz
    · rename_i q;exact absurd hz q
    rename_i hq
    rw [if_neg hq]
    unfold Z3 Jp at *
    split at hz
    · cases hz
    rename_i hq2
    rw [if_neg hq2]
    split at hq
    · exact absurd (by dsimp only;decide) hq
    · rename_i hq3
      rw [if_neg hq3]
      refine ⟨by dsimp only;omega,by dsimp only;omega,rfl⟩
theorem KI.deed (K:Vs Ks Kh) (v:KI Ks Kh m h) (k:Int) (hn:R4 n) (h0:0<=a) {x:BS} (hx:x=(pDo es eh (m,h,L) k t a n).2):
    KI Ks Kh x.1 x.2.1/\(k≠1-> ∀t',(ZG m t').1+(ZG m t').2.1<=(ZG x.1 t').1+(ZG x.1 t').2.1)/\x.2.2.length<=L.length+2:=by
  subst hx
  unfold pDo
  split
  · obtain ⟨_,_,e⟩ | ⟨_,_,_,_,_,_,_,j1,j2,_,_,j3⟩:=v.join K hn h0 (x:=Jf es eh (m,h,L) t a n) rfl
    · rw [e];exact ⟨v,fun _ _=>Int.le_refl _,by simp⟩
    · refine ⟨j1,fun _ t' => ?_,j3⟩
      rw [j2];split
      · rename_i q;subst q;have:=hn.1;dsimp only;omega
      · exact Int.le_refl _
  split
  · rename_i q
    obtain ⟨_,_,e,_⟩ | ⟨_,_,_,_,_,j1,_,_,j3⟩:=v.leave K hn h0 (x:=ZS es eh (m,h,L) t a n) rfl
    · rw [e];exact ⟨v,fun p=>absurd q p,by simp⟩
    · exact ⟨j1,fun p=>absurd q p,j3⟩
  · obtain ⟨c1,c2,c3⟩:=v.chg K (fun s n=>QcA k s n) hn (x:=ZT es (jB k) (m,h,L) t n) rfl
    exact ⟨c1,fun _=>c2,by dsimp only;omega⟩
end
end Go.Sx
namespace Go.Sx
def xJ (a b:Int):Int:=if a=0 then 0 else if b<=a then 1000000 else a*1000000/b
theorem HL {a b:Int} (ha:R4 a) (h0:a≠0) (hlt:a<b):0<=a*1000000/b/\a*1000000/b<1000000:=by
  have hb:0<b:=by have:=ha.1;omega
  refine ⟨Int.ediv_nonneg (by have:=ha.1;omega) (by omega),?_⟩
  exact Int.ediv_lt_of_lt_mul hb (by omega)
theorem QaO {a:Int} (h:R4 a):(a=Qb a 0)↔a<18446744073709551616:=by rw [Fu];unfold R4 at h;omega
theorem Qeg {a:Int} (i:Nat):R4 (Qb a i):=by have:=Qn a i;unfold W at this;unfold R4;omega
theorem QgR {a b:Int} (ha:R4 a) (h0:a≠0) (hlt:a<b):JH a 1000000 b=(a*1000000/b,0):=by
  have hb: ¬b=0:=by have:=ha.1;omega
  obtain ⟨h1,h2⟩:=HL ha h0 hlt
  unfold JH jm
  rw [if_neg hb,if_pos (by omega)]
theorem Da (b:Int):xJ 0 b=0:=rfl
theorem gF {a b:Int} (h0:a≠0) (h:b<=a):xJ a b=1000000:=by unfold xJ;rw [if_neg h0,if_pos h]
theorem F0 {a b:Int} (h0:a≠0) (h:a<b):xJ a b=a*1000000/b:=by unfold xJ;rw [if_neg h0,if_neg (by omega)]
theorem QbA {l:List Int} (hd:J5 l) {k:Nat} (hl:l.length=k+1) (hn:Ku k<=nv l):Zj l:=by
  intro h0
  obtain ⟨m,hm⟩: ∃m,l=m++ [0]:=by
    obtain ⟨ys,hy⟩:=List.getLast?_eq_some_iff.1 h0
    exact ⟨ys,hy⟩
  subst hm
  have h1:m.length=k:=by simpa using hl
  have h2:J5 m:=fun d hd' =>hd d (List.mem_append_left _ hd')
  have h3:=ya h2
  rw [yQ,h1] at hn
  rw [h1] at h3
  omega
theorem Qha {l:List Int} {a:Int} (hd:J5 l) (hc:Zj l) (ha:R4 a) (hn:nv l=a*1000000):l.length<=18:=by
  refine J7 hd hc ?_
  rw [hn,show Ku 18=497323236409786642155382248146820840100456150797347717440463976893159497012533375533056 from rfl]
  unfold R4 at ha;omega
theorem Qbr {n:Int} (h0:0<=n) (h1:n<1000000):Qb n 0=n:=by rw [Fu];omega
end Go.Sx
namespace Go.Sx
open Go.RowKit
def Fm (p r:Int×Int):Bool:=p.1==r.1 && p.2==r.2
noncomputable def doX (es eh:KV->Value->Zf) (xs:List Int) (s:BS) (k t a n:Int):List Int×Bool×BS:=
  ((rDo xs k t a n).1,Fm (pDo es eh s k t a n).1 (rDo xs k t a n).2,(pDo es eh s k t a n).2)
section
variable {es eh:KV->Value->Zf} {xs:List Int} {s:BS} {k t a n:Int}
theorem QhE (hk:k=0) {r:List Int×Int×Int} {p:(Int×Int)×BS} (hr:r=K8 xs t a n) (hp:p=Jf es eh s t a n) {b:Bool} (hb:b=Fm p.1 r.2):doX es eh xs s k t a n=(r.1,b,p.2):=by
  subst hr hp hb;unfold doX pDo rDo;rw [if_pos hk,if_pos hk]
theorem Qhu (h0: ¬k=0) (hk:k=1) {r:List Int×Int×Int} {p:(Int×Int)×BS} (hr:r=Xk xs t a n) (hp:p=ZS es eh s t a n) {b:Bool} (hb:b=Fm p.1 r.2):doX es eh xs s k t a n=(r.1,b,p.2):=by
  subst hr hp hb;unfold doX pDo rDo;rw [if_neg h0,if_neg h0,if_pos hk,if_pos hk]
theorem QgG (f:ST->Int->Int×ST) (m h:KV) (L:List Zf):ZT es f (m,h,L) t n=((ZT es f (m,[],L) t n).1,(ZT es f (m,[],L) t n).2.1,h,(ZT es f (m,[],L) t n).2.2.2):=by
  unfold ZT;split
  · rfl
  split<;>rfl
theorem Qc2 {m h:KV} {L:List Zf} (h0: ¬k=0) (h1: ¬k=1) {r:List Int×Int} {p:Int×BS} {f:ST->Int->Int×ST} (hf:jB k=f) (hr:r=qa xs (k - 2) t n) (hp:p=ZT es f (m,[],L) t n):doX es eh xs (m,h,L) k t a n=(r.1,p.1==r.2,p.2.1,h,p.2.2.2):=by
  subst hr hp hf;unfold doX pDo rDo Fm
  rw [if_neg h0,if_neg h0,if_neg h1,if_neg h1,QgG (jB k) m h L]
  simp
end
theorem Qii {k:Int} (h:k=2):jB k=Jy:=by unfold jB;rw [if_pos h]
theorem Qia {k:Int} (h:k=3):jB k=qA:=by unfold jB;rw [if_neg (by omega),if_pos h]
theorem Qig {k:Int} (h:k=4):jB k=qU:=by unfold jB;rw [if_neg (by omega),if_neg (by omega),if_pos h]
theorem Qie {k:Int} (h:k=5):jB k=ZX:=by unfold jB;rw [if_neg (by omega),if_neg (by omega),if_neg (by omega),if_pos h]
theorem Qim {k:Int} (h2: ¬k=2) (h3: ¬k=3) (h4: ¬k=4) (h5: ¬k=5):jB k=Z5:=by unfold jB;rw [if_neg h2,if_neg h3,if_neg h4,if_neg h5]
theorem Qbh {p r:Int×Int} (h:(p.1==r.1)=false):false=Fm p r:=by unfold Fm;rw [h];rfl
theorem gQ {p r:Int×Int} (h:(p.1==r.1)=true):(p.2==r.2)=Fm p r:=by unfold Fm;rw [h];rfl
theorem QgW {k:Int} (n:Int) (h0:0<=k) (h1:k<=255) (hn:0<n):Int.tmod k n=k%n:=Int.tmod_eq_emod_of_nonneg h0
noncomputable def qG (m:KV) (t:Int):Int:=(XJ (asst (ZG m t)) (ZG m t).2.2.2 (ZG m t).2.2.2).1
def QeP (s:ST):Int:=xJ (if (Xl s.2.2.1 s.2.1).2≠0 then Kw - 1 else (Xl s.2.2.1 s.2.1).1) (asst s)
noncomputable def Wz (m:KV) (t:Int):Int:=QeP (ZG m t)
theorem QbN {es eh:KV->Value->Zf} {x:(Int×Int)×BS} (h:x=Jf es eh ([],[],[]) 0 1 100):x.1=(100,0)/\ZG x.2.1 0=(100,0,0,100)/\x.2.2.2.length=2/\ ∀ {Ks Kh:MK},Vs Ks Kh->Xr Ks x.2.1/\Xr Kh x.2.2.1:=by
  have e1:xV (([],[],[]):BS) 0 100=(100,0):=by unfold xV;rw [show (([],[],[]):BS).1= [] from rfl,U0];decide+kernel
  have e2:x=((100,0),ZF [] (.int .u8 0) (ZO (100,0,0,100)),ZF [] (kk 0 1) (vI 100),[es [] (.int .u8 0)]++ [eh [] (kk 0 1)]):=by
    rw [h];unfold Jf
    rw [if_neg (by decide),e1,if_neg (by decide)]
    simp only [U0,yr,s0]
    congr 1
  have ok:Jw (100,0,0,100):=⟨by unfold R4;decide,QI,QI,by unfold R4;decide⟩
  refine ⟨by rw [e2],by rw [e2];dsimp only;rw [Kb [] ok,if_pos rfl],by rw [e2];rfl,fun K=> ?_⟩
  rw [e2]
  exact ⟨Xr.nil.set (K.kt 0) ((K.s _).2 ⟨_,ok,rfl⟩),Xr.nil.set (K.kh 0 1) ((K.h _).2 ⟨100,by unfold R4;decide,rfl⟩)⟩
theorem bG {es:KV->Value->Zf} {m:KV} {L:List Zf} (hm:ZG m 0=(100,0,0,100)) {x:Int×BS} (h:x=ZT es ZX (m,[],L) 0 40):x.1=0/\ZG x.2.1 0=(60,40,0,100)/\ ∀ {Ks:MK},StK Ks->Ks.OkK (.int .u8 0)->Xr Ks m->Xr Ks x.2.1:=by
  have ok:Jw (60,40,0,100):=⟨by unfold R4;decide,by unfold R4;decide,QI,by unfold R4;decide⟩
  have e1:ZX (100,0,0,100) 40=(0,60,40,0,100):=by decide+kernel
  have e2:x=(0,ZF m (.int .u8 0) (ZO (60,40,0,100)),[],L++ [es m (.int .u8 0)]):=by
    rw [h];unfold ZT;dsimp only;rw [if_neg (by decide),hm,e1,if_neg (by decide)]
  refine ⟨by rw [e2],by rw [e2];dsimp only;rw [Kb m ok,if_pos rfl],fun S k0 km=> ?_⟩
  rw [e2];exact km.set k0 ((S _).2 ⟨_,ok,rfl⟩)
theorem QcI {m:KV} (hm:ZG m 0=(60,40,0,100)) {z:Int} (h:z=Wz m 0):z=400000:=by
  rw [h];unfold Wz;rw [hm];decide+kernel
theorem QfG {Ks:MK} (hS:StK Ks) {m:KV} (hk:Xr Ks m) (t:Int):R4 (qG m t):=xf (zA (hS.of hk t)) (hS.of hk t).d (hS.of hk t).d
end Go.Sx
namespace Go.Sx
open Go.RowKit Go.Sort Go.Proofs Go.Shelf
end Go.Sx
namespace Go.Sx
open Go.RowKit Go.Sort Go.Proofs Go.Shelf
end Go.Sx
namespace Go.Sx
open Go.RowKit
theorem QcR {L:List Zf} {A:List N4} (h:A.length=L.length) (m:Nat):ents L A=ents (L.take m) (A.take m)++ents (L.drop m) (A.drop m):=by
  unfold ents
  rw [←List.flatMap_append,←List.zip_append (by simp [h]),List.take_append_drop,List.take_append_drop]
theorem Qei {L:List Zf} {A:List N4} (m:Nat):(fns L A).take m=fns (L.take m) (A.take m):=by
  unfold fns;rw [←List.map_take];congr 1;simp [List.zip,List.take_zipWith]
theorem Qe5 {L:List Zf} {A:List N4} {i:Nat} {e:Zf} {a:N4} (he:L[i]? =some e) (ha:A[i]? =some a):(fns L A)[i]? =some (e.fn a):=by
  unfold fns;rw [List.getElem?_map,(List.getElem?_zip_eq_some (z:=(e,a))).2 ⟨he,ha⟩];rfl
theorem QeY {P : Program} {f : FuncId} {K : JK} {bj : Nat} {L : List Zf} {mark : Int} {Ms : List Dk} (he : UQ P f) {A B : Code} {ps : Array Tmp} {n : Nat}
    (hraw: ∀ (row:QK) (T:Nat->List Qf),mark<=((QS row).length:Nat)->(QS row).length<=1073741824->
      (∀ (l D:Nat) (fn:FuncId) (tmps:Array Value),tmps.size=n-> ∀x,0<x->x<=vlen (ZC (sv row) (Int.toNat mark))->
        K2 P l #[.int .i64 (((x:Nat):Int) - 1),(QS row).getD (Int.toNat mark+Int.toNat (((x:Nat):Int) - 1)) undef] [ZY l (Z2 fn tmps ps A B D),Xd (T x)] Unit (fun _=> .bool true) (fun _=> [ZY l (Z2 fn tmps ps A B D),Xd (T (x - 1))]) (fun _=>True))->
      QC P f #[Yg bj, .int .i64 mark] [.blk bj (.cells #[sv row] K.tj (0,0)),ss K.ft row,Xd (T (vlen (ZC (sv row) (Int.toNat mark))))] Unit (fun _=> .bool true) (fun _=> [.blk bj (.cells #[JN (sv row) (Int.toNat mark)] K.tj (0,0)),ss K.ft row,Xd (T 0)]) (fun _=>True))
    (hround: ∀ (l D:Nat) (fn:FuncId) (tmps:Array Value) (i:Int) (e:Zf) (a:N4) (S1 S0:List Qf),tmps.size=n->
      QC P e.g #[Yg a.1,Yg a.2.1,Yg a.2.2.1,Yg a.2.2.2] [Xd S1] Unit (fun _=>undef) (fun _=> [Xd S0]) (fun _=>True)->
      K2 P l #[.int .i64 i,Zf.fn e a] [ZY l (Z2 fn tmps ps A B D),Xd S1] Unit (fun _=> .bool true) (fun _=> [ZY l (Z2 fn tmps ps A B D),Xd S0]) (fun _=>True))
    (h0:0<=mark) (h1:mark<=((L.length:Nat):Int)) (hl:L.length<=1000000) (hE: ∀e∈L.drop (Int.toNat mark),∃y∈Ms,y.2.1=e.b/\EOK P bj y.1 e):
    QC P f #[Yg bj, .int .i64 mark] (jS K bj L::B3 bj Ms) Unit (fun _=> .bool true) (fun _=>jS K bj (L.take (Int.toNat mark))::B3 bj (Jc (L.drop (Int.toNat mark)) Ms)) (fun _=>(Ms.map (·.2.1)).Nodup):=
  ⟨he,fun R w ho=>by
    obtain ⟨row,As,hv,hlen,ho'⟩:=DG ho
    have hvl:(QS row).length=L.length:=by rw [hv,Bx hlen]
    have hnd:(Ms.map (·.2.1)).Nodup:=by
      obtain ⟨p,q,hp,_⟩:=Vz.1 ho
      obtain ⟨p1,p2,_,hm,_⟩:=hp
      exact (kV hm).1
    have hm0:Int.toNat mark<=L.length:=by omega
    have hcut:=QcR hlen (Int.toNat mark)
    have hvd:vlen (ZC (sv row) (Int.toNat mark))=(L.drop (Int.toNat mark)).length:=by rw [zQ,hvl,List.length_drop]
    have hAl:(As.drop (Int.toNat mark)).length=(L.drop (Int.toNat mark)).length:=by simp [hlen]
    have c:=hraw row (kG bj Ms (L.drop (Int.toNat mark)) (As.drop (Int.toNat mark))) (by rw [hvl];exact h1) (by omega) (fun l D fn tmps hz x hx0 hx=>by
      rw [hvd] at hx
      obtain ⟨e,a,h1,h2,hc⟩:=QcB hAl hnd hE hx0 hx
      have h3:(QS row).getD (Int.toNat mark+Int.toNat (((x:Nat):Int) - 1)) undef=e.fn a:=by
        rw [List.getElem?_drop] at h1 h2
        have:Int.toNat mark+Int.toNat (((x:Nat):Int) - 1)=Int.toNat mark+(x - 1):=by omega
        rw [this,List.getD_eq_getElem?_getD,hv,Qe5 h1 h2];rfl
      rw [h3]
      exact hround l D fn tmps _ e a _ _ hz hc)
    have c2:=c.frame (ents (L.take (Int.toNat mark)) (As.take (Int.toNat mark)))
    have o2:Own (QL ([.blk bj (.cells #[sv row] K.tj (0,0)),ss K.ft row,Xd (kG bj Ms (L.drop (Int.toNat mark)) (As.drop (Int.toNat mark)) (vlen (ZC (sv row) (Int.toNat mark))))]++ents (L.take (Int.toNat mark)) (As.take (Int.toNat mark)))) R w:=by
      have hT:kG bj Ms (L.drop (Int.toNat mark)) (As.drop (Int.toNat mark)) (vlen (ZC (sv row) (Int.toNat mark)))=B3 bj Ms++ents (L.drop (Int.toNat mark)) (As.drop (Int.toNat mark)):=by
        unfold kG;rw [hvd,List.drop_length];rfl
      rw [hT]
      have o3:Own (QL ((B3 bj Ms++ents (L.drop (Int.toNat mark)) (As.drop (Int.toNat mark)))++(.blk bj (.cells #[sv row] K.tj (0,0))::ss K.ft row::ents (L.take (Int.toNat mark)) (As.take (Int.toNat mark))))) R w:=by
        refine Ua.perm ?_ R w ho'
        rw [hcut]
        classical
        rw [List.perm_iff_count]
        intro s
        simp only [List.count_append,List.count_cons]
        omega
      refine Ua.perm ?_ R w (FZ _ _ R w o3)
      classical
      rw [List.perm_iff_count]
      intro s
      simp only [List.count_append,List.count_cons,List.count_nil]
      omega
    refine (c2.calls R w o2).mono fun e w' hh=> ?_
    obtain ⟨_,_,e1,o4,ext⟩:=hh
    refine ⟨(),hnd,e1,?_,ext⟩
    have o5:Own (QL ((B3 bj (Jc (L.drop (Int.toNat mark)) Ms)++ents (L.drop (Int.toNat mark)) (As.drop (Int.toNat mark)))++(.blk bj (.cells #[JN (sv row) (Int.toNat mark)] K.tj (0,0))::ss K.ft row::ents (L.take (Int.toNat mark)) (As.take (Int.toNat mark))))) R w' :=by
      refine Dy _ _ R w' (Ua.perm ?_ R w' o4)
      classical
      rw [List.perm_iff_count]
      intro s
      simp only [List.count_append,List.count_cons,List.count_nil]
      show _=_+_
      unfold kG
      simp only [List.drop_zero]
      omega
    have hss:ss K.ft row=ss K.ft (row.take (Int.toNat mark)):=(zT row K.ft _).symm
    rw [Hx row _ (by rw [hvl];exact hm0),hss] at o5
    have hvt:QS (row.take (Int.toNat mark))=(QS row).take (Int.toNat mark):=F8 row _
    have o6:Own (QL ((.blk bj (.cells #[sv (row.take (Int.toNat mark))] K.tj (0,0))::ss K.ft (row.take (Int.toNat mark))::(ents (L.take (Int.toNat mark)) (As.take (Int.toNat mark))++B3 bj (Jc (L.drop (Int.toNat mark)) Ms)))++ents (L.drop (Int.toNat mark)) (As.drop (Int.toNat mark)))) R w' :=by
      refine Ua.perm ?_ R w' o5
      classical
      rw [List.perm_iff_count]
      intro s
      simp only [List.count_append,List.count_cons]
      omega
    exact WR (by rw [hvt,hv,Qei]) (by simp [hlen]) _ R w' (Ua.drop _ _ R w' o6)⟩
end Go.Sx
namespace Go.Sx
theorem wf8 {n:Int} (h:(Lit.int .u8 n).wf=true):0<=n/\n<=255:=by
  simp [Lit.wf,IntKind.min,IntKind.max,IntKind.signed,IntKind.bits] at h;omega
theorem WN (n:Int) (h0:0<=n) (h1:n<=255):IntKind.u8.wrap n=n:=by
  have:IntKind.u8.wrap n=n%256:=by simp [IntKind.wrap,IntKind.bits,IntKind.signed]
  rw [this];omega
end Go.Sx
namespace Go.Sx
theorem yb {n:Int} (h:(Lit.int .u8 n).wf=true):0<=n/\n<=255:=wf8 h
end Go.Sx
namespace Go.Sx
end Go.Sx
namespace Go.Sx
open Go.RowKit
def EqM (a b:KV):Prop:= ∀k,Q1 a k=Q1 b k
theorem EqM.refl (a:KV):EqM a a:=fun _=>rfl
theorem gW {m:KV} (hm:kr m) {e:Value×Value} (he:e∈m):Q1 m e.1=some e.2:=by
  induction m with
  | nil=>cases he
  | cons x m ih =>
    have hn:x.1∉m.map (·.1)/\(m.map (·.1)).Nodup:=List.nodup_cons.1 hm
    rw [XE]
    rcases List.mem_cons.1 he with rfl | h
    · rw [if_pos rfl]
    · rw [if_neg (fun e' =>hn.1 (by rw [e'];exact List.mem_map_of_mem h)),ih hn.2 h]
theorem Xr.of_eq {K:MK} {m m' :KV} (h:Xr K m) (hm:kr m') (e:EqM m' m):Xr K m' :=
  ⟨hm,fun x hx=>h.ok x (by
    have h1:=gW hm hx
    rw [e x.1] at h1
    have:=vP h1
    exact this)⟩
noncomputable def Kl (b:Nat) (E:List Zf) (m:KV):KV:=E.foldr (fun e m=>if b=e.b then e.undo m else m) m
theorem W7 (b:Nat) (E:List Zf) (e:Zf) (m:KV):Kl b (E++ [e]) m=Kl b E (if b=e.b then e.undo m else m):=by unfold Kl;rw [List.foldr_append];rfl
theorem gV (E:List Zf) (Ms:List Dk):Jc E Ms=Ms.map fun x=>(x.1,x.2.1,Kl x.2.1 E x.2.2):=by
  induction E with
  | nil=>unfold Jc;simp [Kl]
  | cons e E ih =>
    show wV e (Jc E Ms)=_
    rw [ih]
    unfold wV
    rw [List.map_map]
    refine List.map_congr_left fun x _=> ?_
    show (if x.2.1=e.b then (x.1,x.2.1,e.undo (Kl x.2.1 E x.2.2)) else (x.1,x.2.1,Kl x.2.1 E x.2.2))=(x.1,x.2.1,if x.2.1=e.b then e.undo (Kl x.2.1 E x.2.2) else Kl x.2.1 E x.2.2)
    split<;>rfl
def DD (b:Nat) (m m' :KV) (E:List Zf):Prop:= ∀m2,kr m2->EqM m2 m' ->kr (Kl b E m2)/\EqM (Kl b E m2) m
theorem DD.nil (b:Nat) (m:KV):DD b m m []:=fun m2 h e=>⟨h,e⟩
theorem DD.other {b:Nat} {m m' :KV} {E:List Zf} (h:DD b m m' E) {e:Zf} (hb:e.b≠b):DD b m m' (E++ [e]):=fun m2 h2 e2=>by
  rw [W7,if_neg (fun q=>hb q.symm)];exact h m2 h2 e2
theorem QcH {e:Zf} {m:KV} (h:kr m):kr (e.undo m):=by
  unfold Zf.undo
  cases e.was with
  | none=>exact h.del _
  | some v=>exact h.set _ _
theorem QbJ {e:Zf} {m:KV} (h:kr m) (k:Value):Q1 (e.undo m) k=if k=e.key then e.was else Q1 m k:=by
  unfold Zf.undo
  cases e.was with
  | none=>exact Qd1 h _ _
  | some v=>exact ka _ _ _ _
theorem DD.snoc {b:Nat} {m m' m3:KV} {E:List Zf} (h:DD b m m' E) {e:Zf} (hb:e.b=b) (hw:e.was=Q1 m' e.key) (ho: ∀k,k≠e.key->Q1 m3 k=Q1 m' k):DD b m m3 (E++ [e]):=fun m2 h2 e2=>by
  rw [W7,if_pos hb.symm]
  refine h _ (QcH h2) fun k=> ?_
  rw [QbJ h2]
  by_cases hk:k=e.key
  · rw [if_pos hk,hw,hk]
  · rw [if_neg hk,e2 k,ho k hk]
end Go.Sx
namespace Go.Sx
open Go.RowKit
structure YV (b:Nat) (ent:KV->Value->Zf):Prop where
  b: ∀m k,(ent m k).b=b
  key: ∀m k,(ent m k).key=k
  was: ∀m k,(ent m k).was=Q1 m k
end Go.Sx
namespace Go.Sx
open Go.RowKit
end Go.Sx
namespace Go.Sx
open Go.RowKit
end Go.Sx
namespace Go.Sx
open Go.RowKit
end Go.Sx
namespace Go.Sx
open Go.RowKit
abbrev BT:=(Nat->Int)×Bool
def b0:BT:=(fun _=>0,false)
end Go.Sx
namespace Go.Sx
open Go.RowKit
theorem jx {P : Program} (w : World) (d : Nat) (xs : Array Value) : ∀ (fs : List Field), (∀ f ∈ fs, f.name ≠ "_" /\ ∃ a, (part f.type xs f.offset).run P w = .ok a w /\ (Op.equalIn d f.type a a).run P w = .ok true w) -> (Op.eqFields d xs xs fs).run P w = .ok true w
  | [],_=>by simp [Op.eqFields]
  | f :: fs, h => by
    obtain ⟨hn,a,h1,h2⟩:=h f (List.mem_cons_self ..)
    have ih:=jx w d xs fs fun g hg=>h g (List.mem_cons_of_mem _ hg)
    simp only [Op.eqFields,hn,ne_eq,not_false_eq_true,if_true,Sem.run_bind,h1,h2,Result.andThen_ok,Bool.not_true,Bool.false_eq_true,if_false]
    exact ih
theorem y5 {P:Program} {t e:TypeId} {k:IntKind} {d n off:Nat} {xs:Array Value} (l:List Int) (w:World) (ht:P.underlying t=some (.array n e)) (he:P.underlying e=some (.int k)) (ha: ∀w,(isAgg e).run P w= .ok false w) (hsz: ∀w,(sizeOf e).run P w= .ok 1 w)
    (hat: ∀w,(isAgg t).run P w= .ok true w) (hst: ∀w,(sizeOf t).run P w= .ok n w) (hl:l.length=n) (hx:xs.extract off (off+n)=Qad k l):
    ∃a,(part t xs off).run P w= .ok a w/\(Op.equalIn (d+2) t a a).run P w= .ok true w:=
  ⟨.agg (Qad k l),by simp [part,Sem.run_bind,hat,hst,hx],by rw [QeR w d ht he ha hsz l l hl hl];simp⟩
end Go.Sx
namespace Go.Sx
open Go.RowKit
end Go.Sx
namespace Go.Sx
open Go.RowKit
end Go.Sx
namespace Go.Sx
open Go.RowKit
structure SEq (P:Program) (t ei e64:TypeId):Prop where
  und:P.underlying t=some (.struct (P.fieldsOf t))
  plain:P.stoodInHeld t=false
  guard:P.eqGuardType P.depth t=false
  fs : ∃ f0 f1 f2 f3, (P.fieldsOf t).toList = [f0, f1, f2, f3] /\ (f0.name ≠ "_" /\ f1.name ≠ "_" /\ f2.name ≠ "_" /\ f3.name ≠ "_") /\ (f0.type = ei /\ f1.type = ei /\ f2.type = ei /\ f3.type = ei) /\ (f0.offset = 0 /\ f1.offset = 4 /\ f2.offset = 8 /\ f3.offset = 12)
  u64:P.underlying e64=some (.int .u64)
  ui:P.underlying ei=some (.array 4 e64)
  a64: ∀w,(isAgg e64).run P w= .ok false w
  ai: ∀w,(isAgg ei).run P w= .ok true w
  s64: ∀w,(sizeOf e64).run P w= .ok 1 w
  si: ∀w,(sizeOf ei).run P w= .ok 4 w
theorem gY {P:Program} {t ei e64:TypeId} (T:SEq P t ei e64) (x:ST) (w:World):(Op.equalIn 10000 t (ZO x) (ZO x)).run P w= .ok true w:=by
  obtain ⟨f0,f1,f2,f3,hf,⟨n0,n1,n2,n3⟩,⟨t0,t1,t2,t3⟩,⟨o0,o1,o2,o3⟩⟩:=T.fs
  show (Op.equalIn (9999+1) t (.agg (ZO x).cells) (.agg (ZO x).cells)).run P w=_
  rw [run_equalIn_struct w 9999 t _ _ T.und T.plain,hf]
  refine jx w 9999 _ _ fun f hm=> ?_
  simp only [List.mem_cons,List.not_mem_nil,or_false] at hm
  rcases hm with rfl | rfl | rfl | rfl
  · rw [t0,o0];exact ⟨n0,y5 (d:=9997) [Qb x.1 0,Qb x.1 1,Qb x.1 2,Qb x.1 3] w T.ui T.u64 T.a64 T.s64 T.ai T.si rfl (by kernel_rfl)⟩
  · rw [t1,o1];exact ⟨n1,y5 (d:=9997) [Qb x.2.1 0,Qb x.2.1 1,Qb x.2.1 2,Qb x.2.1 3] w T.ui T.u64 T.a64 T.s64 T.ai T.si rfl (by kernel_rfl)⟩
  · rw [t2,o2];exact ⟨n2,y5 (d:=9997) [Qb x.2.2.1 0,Qb x.2.2.1 1,Qb x.2.2.1 2,Qb x.2.2.1 3] w T.ui T.u64 T.a64 T.s64 T.ai T.si rfl (by kernel_rfl)⟩
  · rw [t3,o3];exact ⟨n3,y5 (d:=9997) [Qb x.2.2.2 0,Qb x.2.2.2 1,Qb x.2.2.2 2,Qb x.2.2.2 3] w T.ui T.u64 T.a64 T.s64 T.ai T.si rfl (by kernel_rfl)⟩
theorem QbH {P:Program} {t ei e64:TypeId} (T:SEq P t ei e64) (x y:ST) (h:x=y):Qg P (Q0 .eql t (ZO x) (ZO y)) (.bool true):=by
  intro w
  rw [←h]
  have g:(eqGuard .eql t (.const (ZO x)) (.const (ZO x)) (ZO x) (ZO x)).run P w= .ok () w:=run_eqGuard_agg (w:=w) .eql t _ _ _ _ T.guard
  have q:(binOp .eql t (ZO x) (ZO x)).run P w= .ok (.bool true) w:=by
    show (binOp .eql t (.agg (ZO x).cells) (.agg (ZO x).cells)).run P w=_
    rw [run_eql_struct]
    show ((Op.equalIn 10000 t (ZO x) (ZO x)).run P w).andThen _=_
    rw [gY T];rfl
  simp [Q0,Sem.run_bind,g,q]
theorem QbU {P:Program} {t ei e64:TypeId} (T:SEq P t ei e64) (x y:ST) (h:x=y):Qg P (Q0 .neq t (ZO x) (ZO y)) (.bool false):=by
  intro w
  rw [←h]
  have g:(eqGuard .neq t (.const (ZO x)) (.const (ZO x)) (ZO x) (ZO x)).run P w= .ok () w:=run_eqGuard_agg (w:=w) .neq t _ _ _ _ T.guard
  have q:(binOp .neq t (ZO x) (ZO x)).run P w= .ok (.bool false) w:=by
    show (binOp .neq t (.agg (ZO x).cells) (.agg (ZO x).cells)).run P w=_
    rw [run_neq_struct]
    show ((Op.equalIn 10000 t (ZO x) (ZO x)).run P w).andThen _=_
    rw [gY T];rfl
  simp [Q0,Sem.run_bind,g,q]
end Go.Sx
namespace Go.Sx
open Go
theorem UB {H:Type} {enc:TypeId×Value->H} {P:Program} {w:World} {base:Nat} {sp:Nat->Bool} {held:Bool} {fs:Array Field} {cs:List Value} {xs:List (DataW H×List MemPlace)} {n:Nat} (hlen:xs.length=fs.size)
    (hf: ∀ (i:Nat) (f:Field),fs[i]? =some f->DataW.trod enc P w base sp held n f.type ((cs.drop f.offset).take (P.cellsOf f.type))=xs[i]?) (i:Nat) {f:Field} (h:fs[i]? =some f) {t off k:Nat} (ht:f.type=t) (ho:f.offset=off) (hk:P.cellsOf t=k):
    ∃y,DataW.trod enc P w base sp held n t ((cs.drop off).take k)=some y:=by
  have hi:i<fs.size:=by
    rcases Nat.lt_or_ge i fs.size with q | q
    · exact q
    · rw [Array.getElem?_eq_none q] at h;cases h
  have g:=hf i f h
  rw [ht,ho,hk,List.getElem?_eq_getElem (by omega)] at g
  exact ⟨_,g⟩
end Go.Sx
namespace Go.Sx
open Go.RowKit
structure jw (m h:KV) (xs:List Int):Prop where
  ok:QY 80 xs
  st: ∀t,0<=t->t<4->ZG m t=gS xs (4*t.toNat)
  hd: ∀t a,0<=t->t<4->0<=a->a<16->Y4 h t a=xs.getD (16+16*t.toNat+a.toNat) 0
  so: ∀t,4<=t->ZG m t=s0
  ho: ∀t a,4<=t∨16<=a->Y4 h t a=0
theorem vD (n j:Nat):(List.replicate n (0:Int)).getD j 0=0:=by
  rw [List.getD_eq_getElem?_getD,List.getElem?_replicate];split<;>rfl
theorem jw.start:jw [] [] (List.replicate 80 0):=
  ⟨QE 80,fun t _ _=>by rw [U0];unfold gS s0;simp only [vD],fun t a _ _ _ _=>by rw [yr,vD],fun t _=>U0 t,fun t a _=>yr t a⟩
theorem jw.eqm {m h m' h' :KV} {xs:List Int} (r:jw m h xs) (e: ∀k,Q1 m' k=Q1 m k) (f: ∀k,Q1 h' k=Q1 h k):jw m' h' xs:=by
  have e1: ∀t,ZG m' t=ZG m t:=fun t=>by unfold ZG;rw [e]
  have e2: ∀t a,Y4 h' t a=Y4 h t a:=fun t a=>by unfold Y4;rw [f]
  exact ⟨r.ok,fun t a b=>by rw [e1];exact r.st t a b,fun t a b c d f=>by rw [e2];exact r.hd t a b c d f,fun t a=>by rw [e1];exact r.so t a,fun t a b=>by rw [e2];exact r.ho t a b⟩
theorem Yv (xs:List Int) (a:Nat) (v:Int) (k:Nat) (ha:a<xs.length):(xs.set a v).getD k 0=if k=a then v else xs.getD k 0:=by
  rw [List.getD_eq_getElem?_getD,List.getD_eq_getElem?_getD,List.getElem?_set]
  by_cases h:a=k
  · subst h;simp [ha]
  · rw [if_neg h,if_neg (fun e=>h e.symm)]
theorem QhN {xs:List Int} {n:Nat} (h:n+4<=xs.length) (a b c d:Int) (j:Nat):(tset xs n [a,b,c,d]).getD j 0=if j=n then a else if j=n+1 then b else if j=n+2 then c else if j=n+3 then d else xs.getD j 0:=by
  unfold tset
  have hl:(xs.take n).length=n:=by rw [List.length_take];omega
  rw [List.getD_eq_getElem?_getD,List.getD_eq_getElem?_getD,List.append_assoc]
  rcases Nat.lt_or_ge j n with q | q
  · rw [List.getElem?_append_left (by omega),List.getElem?_take_of_lt q,if_neg (by omega),if_neg (by omega),if_neg (by omega),if_neg (by omega)]
  · rw [List.getElem?_append_right (by omega),hl]
    rcases Nat.lt_or_ge j (n+4) with q2 | q2
    · rw [List.getElem?_append_left (by simp;omega)]
      obtain ⟨k,rfl⟩: ∃k,j=n+k:=⟨j - n,by omega⟩
      have hk:k<4:=by omega
      rw [show n+k - n=k by omega]
      match k,hk with
      | 0,_=>simp
      | 1,_=>simp
      | 2,_=>simp
      | 3,_=>simp
    · rw [List.getElem?_append_right (by simp;omega),List.getElem?_drop,if_neg (by omega),if_neg (by omega),if_neg (by omega),if_neg (by omega)]
      congr 2
      simp only [List.length_cons,List.length_nil];omega
section
variable {m h:KV} {xs ys:List Int} {t a x:Int} {s:ST}
theorem jw.putS (r:jw m h xs) (t0:0<=t) (t4:t<4) (hs:Jw s) (hk:QY 80 ys) (hy: ∀j,ys.getD j 0=if j=4*t.toNat then s.1 else if j=4*t.toNat+1 then s.2.1 else if j=4*t.toNat+2 then s.2.2.1 else if j=4*t.toNat+3 then s.2.2.2 else xs.getD j 0):
    jw (ZF m (.int .u8 t) (ZO s)) h ys:=by
  refine ⟨hk,fun t' a b=> ?_,fun t' a' b c d e=> ?_,fun t' b=> ?_,r.ho⟩
  · rw [Kb m hs]
    unfold gS
    rw [hy,hy,hy,hy]
    by_cases e:t' =t
    · subst e;rw [if_pos rfl,if_pos rfl,if_neg (by omega),if_pos rfl,if_neg (by omega),if_neg (by omega),if_pos rfl,if_neg (by omega),if_neg (by omega),if_neg (by omega),if_pos rfl]
    · rw [if_neg e,r.st t' a b]
      unfold gS
      iterate 16 rw [if_neg (by omega)]
  · rw [r.hd t' a' b c d e,hy]
    iterate 4 rw [if_neg (by omega)]
  · rw [Kb m hs,if_neg (by omega)];exact r.so t' b
theorem jw.putH (r:jw m h xs) (t0:0<=t) (t4:t<4) (a0:0<=a) (a16:a<16) (hx:R4 x) (hk:QY 80 ys) (hy: ∀j,ys.getD j 0=if j=16+16*t.toNat+a.toNat then x else xs.getD j 0):jw m (ZF h (kk t a) (vI x)) ys:=by
  refine ⟨hk,fun t' b c=> ?_,fun t' a' b c d e=> ?_,r.so,fun t' a' b=> ?_⟩
  · rw [r.st t' b c]
    unfold gS
    rw [hy,hy,hy,hy]
    iterate 4 rw [if_neg (by omega)]
  · rw [Ux h hx,hy]
    by_cases q:t' =t/\a' =a
    · rw [if_pos q,if_pos (by rw [q.1,q.2])]
    · rw [if_neg q,if_neg (by omega)];exact r.hd t' a' b c d e
  · rw [Ux h hx,if_neg (by omega)];exact r.ho t' a' b
end
theorem zS (a b:Int):(Xl a b).1=(XV (a+b)).1:=by unfold Xl XV;split<;>rfl
theorem QcC (a b:Int):(Yp a b).1=(Ko a b).1:=by
  unfold Yp Ko
  by_cases h:b<=a
  · rw [if_pos h,if_neg (by omega)]
  · rw [if_neg h,if_pos (by omega)]
theorem ne2:(2:Int)≠0:=by decide
theorem ne8:(8:Int)≠0:=by decide
theorem Qhn {xs:List Int} {s:ST} {t n k:Int} (hg:gS xs (4*t.toNat)=s) (rA:V4 xs t.toNat=asst s) (hS:Jw s) (hf:s.1+s.2.1<Kw) (n0:0<=n):
    ((jB k s n).1=0/\(WD xs (k - 2) t n).1=true/\(jB k s n).2=(WD xs (k - 2) t n).2.2)∨((jB k s n).1≠0/\(WD xs (k - 2) t n).1=false/\(jB k s n).1=(WD xs (k - 2) t n).2.1):=by
  obtain ⟨c,d,e,f⟩:=s
  have h1:0<=c:=hS.a.1
  have h2:0<=d:=hS.b.1
  have hf:c+d<Kw:=hf
  have hA:asst (c,d,e,f)=c+d:=by
    unfold asst Xl;rw [if_pos (show c+d<_ from hf)]
  have yes: ∀x:Int,x<Kw->XV x=(x,true):=fun x h=>if_pos h
  have no: ∀x:Int,¬x<Kw->XV x=(0,false):=fun x h=>if_neg h
  unfold WD
  rw [hg,rA,hA]
  unfold jB
  by_cases k2:k=2
  · rw [if_pos k2]
    simp only [if_pos (show k - 2=0 by omega)]
    by_cases q:Kw<=c+d+n
    · have e1:Jy (c,d,e,f) n=(2,c,d,e,f):=by unfold Jy;rw [hA,if_pos q]
      rw [e1,no _ (by omega)];exact .inr ⟨ne2,rfl,rfl⟩
    · have e0:Jp c n=(0,c+n):=if_neg (by omega)
      have e1:Jy (c,d,e,f) n=(0,c+n,d,e,f):=by unfold Jy;rw [hA,if_neg q];show ((Jp c n).1,(Jp c n).2,d,e,f)=_;rw [e0]
      rw [e1,yes _ (by omega),yes _ (by omega)];exact .inl ⟨rfl,rfl,rfl⟩
  rw [if_neg k2]
  simp only [if_neg (show ¬k - 2=0 by omega)]
  by_cases k3:k=3
  · rw [if_pos k3]
    simp only [if_pos (show k - 2=1 by omega)]
    unfold qA
    dsimp only
    by_cases q:Kw<=e+n
    · rw [show Jp e n=(2,e) from if_pos q,no _ (by omega)];exact .inr ⟨ne2,rfl,rfl⟩
    · rw [show Jp e n=(0,e+n) from if_neg q,yes _ (by omega)];exact .inl ⟨rfl,rfl,rfl⟩
  rw [if_neg k3]
  simp only [if_neg (show ¬k - 2=1 by omega)]
  by_cases k4:k=4
  · rw [if_pos k4]
    simp only [if_pos (show k - 2=2 by omega)]
    unfold qU
    dsimp only
    by_cases q:e<n
    · rw [show Z3 e n=(8,e) from if_pos q,show Ko e n=(0,false) from if_pos q];exact .inr ⟨ne8,rfl,rfl⟩
    · rw [show Z3 e n=(0,e - n) from if_neg q,show Ko e n=(e - n,true) from if_neg q];exact .inl ⟨rfl,rfl,rfl⟩
  rw [if_neg k4]
  simp only [if_neg (show ¬k - 2=2 by omega)]
  by_cases k5:k=5
  · rw [if_pos k5]
    simp only [if_pos (show k - 2=3 by omega)]
    by_cases q:c<n
    · have e1:ZX (c,d,e,f) n=(8,c,d,e,f):=by unfold ZX;dsimp only;rw [show Z3 c n=(8,c) from if_pos q,if_pos ne8]
      rw [e1,show Ko c n=(0,false) from if_pos q];exact .inr ⟨ne8,rfl,rfl⟩
    · have e1:ZX (c,d,e,f) n=(0,c - n,d+n,e,f):=by unfold ZX;dsimp only;rw [show Z3 c n=(0,c - n) from if_neg q,if_neg (fun z=>z rfl),show Jp d n=(0,d+n) from if_neg (by omega)]
      rw [e1,show Ko c n=(c - n,true) from if_neg q,yes _ (by omega)];exact .inl ⟨rfl,rfl,rfl⟩
  · rw [if_neg k5]
    simp only [if_neg (show ¬k - 2=3 by omega)]
    by_cases q:d<n
    · have e1:Z5 (c,d,e,f) n=(8,c,d,e,f):=by unfold Z5;dsimp only;rw [show Z3 d n=(8,d) from if_pos q,if_pos ne8]
      rw [e1,show Ko d n=(0,false) from if_pos q];exact .inr ⟨ne8,rfl,rfl⟩
    · have e1:Z5 (c,d,e,f) n=(0,c+n,d - n,e,f):=by unfold Z5;dsimp only;rw [show Z3 d n=(0,d - n) from if_neg q,if_neg (fun z=>z rfl),show Jp c n=(0,c+n) from if_neg (by omega)]
      rw [e1,show Ko d n=(d - n,true) from if_neg q,yes _ (by omega)];exact .inl ⟨rfl,rfl,rfl⟩
section
variable {Ks Kh:MK} {m h:KV} {L:List Zf} {xs:List Int} {es eh:KV->Value->Zf} {t a n:Int}
theorem jw.ast (r:jw m h xs) (t0:0<=t) (t4:t<4):V4 xs t.toNat=asst (ZG m t):=by
  rw [r.st t t0 t4];unfold V4 asst gS;rw [zS]
theorem jw.at3 (r:jw m h xs) (t0:0<=t) (t4:t<4):xs.getD (4*t.toNat) 0=(ZG m t).1/\xs.getD (4*t.toNat+1) 0=(ZG m t).2.1/\xs.getD (4*t.toNat+2) 0=(ZG m t).2.2.1/\xs.getD (4*t.toNat+3) 0=(ZG m t).2.2.2:=by
  rw [r.st t t0 t4];exact ⟨rfl,rfl,rfl,rfl⟩
theorem wb (p:Int×Int):Fm p p=true:=by unfold Fm;simp
theorem jw.join (K : Vs Ks Kh) (v : KI Ks Kh m h) (r : jw m h xs) (hn : R4 n) (t0 : 0 <= t) (a0 : 0 <= a) : (Jf es eh (m, h, L) t a n).1 = (K8 xs t a n).2 /\ jw (Jf es eh (m, h, L) t a n).2.1 (Jf es eh (m, h, L) t a n).2.2.1 (K8 xs t a n).1 := by
  by_cases hb:4<=t∨16<=a
  · rw [kH hb,kL (by omega)];exact ⟨rfl,r⟩
  · have t4 : t < 4 := by omega
    have a16:a<16:=by omega
    obtain ⟨q0,q1,q2,q3⟩:=r.at3 t0 t4
    have hl:=r.ok.1
    have hS:=K.s.of v.k t
    have hG:Yx (V4 xs t.toNat) (xs.getD (4*t.toNat+3) 0) n=xV (m,h,L) t n:=by unfold xV;rw [r.ast t0 t4,q3]
    have hg:R4 (xV (m,h,L) t n).1:=Dx (zA hS) hS.d hn
    unfold Jf K8
    rw [if_neg hb,if_neg (show ¬ (3<t∨15<a) by omega),hG]
    by_cases hz:(xV (m,h,L) t n).2≠0
    · rw [if_pos hz,if_pos hz];exact ⟨rfl,r⟩
    · rw [if_neg hz, if_neg hz]
      refine ⟨rfl,?_⟩
      have ok1:=Ul r.ok (4*t.toNat) hn
      have ok2:=Ul ok1 (4*t.toNat+3) hg
      have r1 : jw (ZF m (.int .u8 t) (ZO ((Xl (ZG m t).1 n).1, (ZG m t).2.1, (ZG m t).2.2.1, (Xl (ZG m t).2.2.2 (xV (m, h, L) t n).1).1))) h (JT (JT xs (4 * t.toNat) n) (4 * t.toNat + 3) (xV (m, h, L) t n).1) := by
        refine r.putS t0 t4 ⟨zd hS.a hn,hS.b,hS.c,zd hS.d hg⟩ ok2 fun j=> ?_
        unfold JT
        rw [Yv _ _ _ _ (by rw [List.length_set,hl];omega),Yv _ _ _ _ (by rw [hl];omega),Yv _ _ _ _ (by rw [hl];omega),if_neg (show ¬4*t.toNat+3=4*t.toNat by omega),q3,q0,zS,zS]
        by_cases e0:j=4*t.toNat
        · subst e0;rw [if_neg (by omega),if_pos rfl,if_pos rfl]
        · by_cases e3:j=4*t.toNat+3
          · subst e3;rw [if_pos rfl,if_neg (by omega),if_neg (by omega),if_neg (by omega),if_pos rfl]
          · rw [if_neg e3,if_neg e0,if_neg e0,if_neg e3]
            by_cases e1:j=4*t.toNat+1
            · rw [if_pos e1,e1,q1]
            · rw [if_neg e1]
              by_cases e2:j=4*t.toNat+2
              · rw [if_pos e2,e2,q2]
              · rw [if_neg e2]
      have hB:=r.hd t a t0 t4 a0 a16
      refine r1.putH t0 t4 a0 a16 (zd (Gl K.h v t a) hg) (Ul ok2 _ hg) fun j=> ?_
      have hl2:(JT (JT xs (4*t.toNat) n) (4*t.toNat+3) (xV (m,h,L) t n).1).length=80:=ok2.1
      rw [show JT (JT (JT xs (4*t.toNat) n) (4*t.toNat+3) (xV (m,h,L) t n).1) (16+16*t.toNat+a.toNat) (xV (m,h,L) t n).1=List.set (JT (JT xs (4*t.toNat) n) (4*t.toNat+3) (xV (m,h,L) t n).1) (16+16*t.toNat+a.toNat) (XV ((JT (JT xs (4*t.toNat) n) (4*t.toNat+3) (xV (m,h,L) t n).1).getD (16+16*t.toNat+a.toNat) 0+(xV (m,h,L) t n).1)).1 from rfl,Yv _ _ _ _ (by rw [hl2];omega)]
      have e5:(JT (JT xs (4*t.toNat) n) (4*t.toNat+3) (xV (m,h,L) t n).1).getD (16+16*t.toNat+a.toNat) 0=Y4 h t a:=by
        rw [hB];unfold JT
        rw [Yv _ _ _ _ (by rw [List.length_set,hl];omega),if_neg (by omega),Yv _ _ _ _ (by rw [hl];omega),if_neg (by omega)]
      rw [e5,zS]
theorem jw.leave (K : Vs Ks Kh) (v : KI Ks Kh m h) (r : jw m h xs) (hn : R4 n) (t0 : 0 <= t) (a0 : 0 <= a) : (ZS es eh (m, h, L) t a n).1 = (Xk xs t a n).2 /\ jw (ZS es eh (m, h, L) t a n).2.1 (ZS es eh (m, h, L) t a n).2.2.1 (Xk xs t a n).1 := by
  by_cases hb:4<=t∨16<=a
  · rw [xP hb,xT (by omega)];exact ⟨rfl,r⟩
  · have t4 : t < 4 := by omega
    have a16:a<16:=by omega
    obtain ⟨q0,q1,q2,q3⟩:=r.at3 t0 t4
    have hl:=r.ok.1
    have hS:=K.s.of v.k t
    have hG:kf xs t n=V6 (m,h,L) t n:=by unfold V6 kf;rw [r.ast t0 t4,q3]
    have hg:R4 (V6 (m,h,L) t n).1:=xf (zA hS) hS.d hn
    have hB:=r.hd t a t0 t4 a0 a16
    have hBR:=Gl K.h v t a
    unfold ZS Xk
    rw [if_neg hb,if_neg (show ¬ (3<t∨15<a) by omega),hG,←hB,q0,q2]
    by_cases hn0:n=0
    · rw [if_pos hn0,if_pos hn0];exact ⟨rfl,r⟩
    rw [if_neg hn0,if_neg hn0]
    by_cases hlt:Y4 h t a<n
    · rw [if_pos hlt,if_pos hlt];exact ⟨rfl,r⟩
    rw [if_neg hlt,if_neg hlt]
    by_cases hz:(V6 (m,h,L) t n).2≠0
    · rw [if_pos hz,if_pos hz];exact ⟨rfl,r⟩
    rw [if_neg hz,if_neg hz]
    by_cases hc:(ZG m t).1<(V6 (m,h,L) t n).1
    · rw [if_pos hc,if_pos hc];exact ⟨rfl,r⟩
    rw [if_neg hc,if_neg hc]
    by_cases hr:(ZG m t).1 - (V6 (m,h,L) t n).1<(ZG m t).2.2.1
    · rw [if_pos hr,if_pos hr];exact ⟨rfl,r⟩
    rw [if_neg hr,if_neg hr]
    refine ⟨rfl,?_⟩
    have rc:R4 ((ZG m t).1 - (V6 (m,h,L) t n).1):=by have:=hS.a;have:=hg.1;unfold R4 at *;omega
    have rb:R4 (Y4 h t a - n):=by have:=hn.1;unfold R4 at *;omega
    have ok1:QY 80 (xs.set (4*t.toNat) ((ZG m t).1 - (V6 (m,h,L) t n).1)):=r.ok.set _ rc
    have ok2:=dp ok1 (4*t.toNat+3) hn
    have r1 : jw (ZF m (.int .u8 t) (ZO ((ZG m t).1 - (V6 (m, h, L) t n).1, (ZG m t).2.1, (ZG m t).2.2.1, (Yp (ZG m t).2.2.2 n).1))) h (F1 (xs.set (4 * t.toNat) ((ZG m t).1 - (V6 (m, h, L) t n).1)) (4 * t.toNat + 3) n) := by
      refine r.putS t0 t4 ⟨rc,hS.b,hS.c,bC hS.d hn⟩ ok2 fun j=> ?_
      unfold F1
      rw [Yv _ _ _ _ (by rw [List.length_set,hl];omega),Yv _ _ _ _ (by rw [hl];omega),Yv _ _ _ _ (by rw [hl];omega),if_neg (show ¬4*t.toNat+3=4*t.toNat by omega),q3,QcC]
      by_cases e0:j=4*t.toNat
      · subst e0;rw [if_neg (by omega),if_pos rfl,if_pos rfl]
      · by_cases e3:j=4*t.toNat+3
        · subst e3;rw [if_pos rfl,if_neg (by omega),if_neg (by omega),if_neg (by omega),if_pos rfl]
        · rw [if_neg e3,if_neg e0,if_neg e0,if_neg e3]
          by_cases e1:j=4*t.toNat+1
          · rw [if_pos e1,e1,q1]
          · rw [if_neg e1]
            by_cases e2:j=4*t.toNat+2
            · rw [if_pos e2,e2,q2]
            · rw [if_neg e2]
    refine r1.putH t0 t4 a0 a16 rb (ok2.set _ rb) fun j=> ?_
    rw [Yv _ _ _ _ (by rw [ok2.1];omega)]
theorem jw.chg (K:Vs Ks Kh) (v:KI Ks Kh m h) (r:jw m h xs) (hn:R4 n) (t0:0<=t) {k:Int}:(ZT es (jB k) (m,h,L) t n).1=(qa xs (k - 2) t n).2/\jw (ZT es (jB k) (m,h,L) t n).2.1 (ZT es (jB k) (m,h,L) t n).2.2.1 (qa xs (k - 2) t n).1:=by
  by_cases hb:4<=t
  · rw [Uh hb,gN (by omega)];exact ⟨rfl,r⟩
  · have t4:t<4:=by omega
    have hS:=K.s.of v.k t
    have hf:=v.fit t
    have hA:=v.asst t
    have rA:=r.ast t0 t4
    have hg:gS xs (4*t.toNat)=ZG m t:=(r.st t t0 t4).symm
    have key:=Qhn (k:=k) hg rA hS hf hn.1
    unfold ZT qa
    rw [if_neg hb,if_neg (show ¬3<t by omega)]
    rcases key with ⟨c1,c2,c3⟩ | ⟨c1,c2,c3⟩
    · have e1: ¬ (jB k (ZG m t) n).1≠0:=fun q=>q c1
      rw [if_neg e1,c2,if_neg (by decide),c3]
      have hb:=Qgb r.ok (k - 2) t hn
      refine ⟨rfl,r.putS t0 t4 hb (r.ok.tset (qN hb) (by simp;omega)) fun j=> ?_⟩
      rw [QhN (by rw [r.ok.1];omega)]
    · rw [if_pos c1,if_pos c2];exact ⟨c3,r⟩
theorem jw.deed (K:Vs Ks Kh) (v:KI Ks Kh m h) (r:jw m h xs) (hn:R4 n) (t0:0<=t) (a0:0<=a) {k:Int} {x:List Int×Bool×BS} (hx:x=doX es eh xs (m,h,L) k t a n):x.2.1=true/\jw x.2.2.1 x.2.2.2.1 x.1:=by
  subst hx
  unfold doX pDo rDo
  by_cases k0:k=0
  · rw [if_pos k0,if_pos k0]
    obtain ⟨e,q⟩:=r.join (es:=es) (eh:=eh) (L:=L) K v hn t0 a0
    exact ⟨by rw [e];exact wb _,q⟩
  · rw [if_neg k0,if_neg k0]
    by_cases k1:k=1
    · rw [if_pos k1,if_pos k1]
      obtain ⟨e,q⟩:=r.leave (es:=es) (eh:=eh) (L:=L) K v hn t0 a0
      exact ⟨by rw [e];exact wb _,q⟩
    · rw [if_neg k1,if_neg k1]
      obtain ⟨e,q⟩:=r.chg (es:=es) (L:=L) K v hn t0 (k:=k)
      exact ⟨by dsimp only;rw [e];exact wb _,q⟩
end
end Go.Sx
namespace Go.Sx
open Go.RowKit Go.Sort Go.Proofs Go.Shelf
noncomputable def c2 (v:Value):Int×Int:=(ci (cell v 0),ci (cell v 1))
end Go.Sx
set_option linter.unusedVariables false
set_option linter.unusedSimpArgs false
namespace Go.Sx
open Go.RowKit
end Go.Sx
namespace Go.Sx
open Go.RowKit
end Go.Sx
set_option linter.unusedVariables false
set_option linter.unusedSimpArgs false
namespace Go.Sx
def pcn:Nat->Nat->Nat
  | 0,_=>0
  | n+1,x=>x%2+pcn n (x/2)
end Go.Sx
set_option linter.unusedVariables false
set_option linter.unusedSimpArgs false
namespace Go.Sx
end Go.Sx
set_option linter.unusedVariables false
set_option linter.unusedSimpArgs false
namespace Go.Sx
open Go.RowKit
end Go.Sx
set_option linter.unusedVariables false
set_option linter.unusedSimpArgs false
namespace Go.Sx
open Go.RowKit
def GI (l:List Value):ByteArray:=(l.map ci).foldl (fun r n=>r.push (UInt8.ofNat n.toNat)) ByteArray.empty
def QhK:List Value->List Qf->ZB:=fun vs hs=>⟨Unit,fun _=> .string (GI (ZZ (Qd vs 0) (Qh hs 0))),fun _=>hs,fun _=>True⟩
theorem Qhy {P:Program} {src dst e:TypeId} (hs:P.underlying src=some (.slice e)) (he:P.underlying e=some (.int .u8)) (hd:P.underlying dst=some .string) (r:QK) (te:TypeId) (hb:Vj r):
    YZ P (do pure (.value (←convert src dst (sv r)))) [ss te r] Unit (fun _=> .string (GI (ZZ (sv r) (ss te r)))) (fun _=> [ss te r]) (fun _=>True):=by
  intro R w ho
  refine ⟨(),w,trivial, .inl ?_,ho,YL.refl w⟩
  rw [Zd]
  cases r with
  | nil =>
    simp only [sv]
    simp only [Sem.run_bind,run_convert_bytes_string w src dst e none 0 0 hs he hd]
    rfl
  | mk b vs ex =>
    have hb' :=ho.block (i:=0) rfl
    have hr:=run_loadCells_list (P:=P) w ⟨b,0,none⟩ vs (by
      intro j c hj
      have ea:(⟨b,0,none⟩:Addr).add j=⟨b,j,none⟩:=by rw [Addr.add_lit,Nat.zero_add]
      rw [ea,XB hb' rfl]
      have hlt:=(List.getElem?_eq_some_iff.1 hj).1
      simp [List.getElem?_append_left hlt,hj])
    have hv:vs=(vs.map ci).map (Value.int .u8):=hb.eq
    simp only [sv]
    simp only [Sem.run_bind,run_convert_bytes_string w src dst e (some ⟨b,0,none⟩) vs.length _ hs he hd]
    rw [run_bytesToString w ⟨b,0,none⟩ vs.length _ (vs.map ci) (by rw [←hv];exact hr)]
    rfl
theorem QhR {a b:ByteArray} (h:a=b):(a.toList==b.toList)=true:=by rw [h];exact beq_self_eq_true _
def nb8 (x:Int):List Int:= [IntKind.u8.wrap (Int.fdiv x (2^56)),IntKind.u8.wrap (Int.fdiv x (2^48)),IntKind.u8.wrap (Int.fdiv x (2^40)),IntKind.u8.wrap (Int.fdiv x (2^32)),IntKind.u8.wrap (Int.fdiv x (2^24)),IntKind.u8.wrap (Int.fdiv x (2^16)),IntKind.u8.wrap (Int.fdiv x (2^8)),IntKind.u8.wrap (Int.fdiv x (2^0))]
end Go.Sx
set_option linter.unusedVariables false
set_option linter.unusedSimpArgs false
namespace Go.Sx
open Go.RowKit
end Go.Sx
set_option linter.unusedVariables false
namespace Go.Sx
open Go.RowKit
end Go.Sx
namespace Go.Sx
open Go.RowKit
theorem QdC {n:Int} (h0:0<=n) (h1:n<=255):(Lit.int .u8 n).wf=true:=by
  simp [Lit.wf,IntKind.min,IntKind.max,IntKind.signed,IntKind.bits];omega
theorem Qhz {n k:Int} (h:(Lit.int .u8 n).wf=true) (hk:0<k):Int.tmod n k=n%k:=Int.tmod_eq_emod_of_nonneg (wf8 h).1
theorem QfC {n k:Int} (hk:0<k) (hk2:k<=255):(Lit.int .u8 (n%k)).wf=true:=QdC (Int.emod_nonneg _ (by omega)) (by have:=Int.emod_lt_of_pos n hk;omega)
end Go.Sx
namespace Go.Sx
end Go.Sx
set_option linter.unusedVariables false
set_option linter.unusedSimpArgs false
namespace Go.Sx
open Go.RowKit
end Go.Sx
set_option linter.unusedVariables false
set_option linter.unusedSimpArgs false
namespace Go.Sx
open Go.RowKit
end Go.Sx
set_option linter.unusedVariables false
set_option linter.unusedSimpArgs false
namespace Go.Sx
open Go.RowKit
end Go.Sx
set_option linter.unusedVariables false
set_option linter.unusedSimpArgs false
namespace Go.Sx
open Go.RowKit
def dg4 (x:Int):List Int:= [x/256/256/256%256,x/256/256%256,x/256%256,x%256]
def Uj (x:Int):List Int:= [x/256/256/256/256/256/256/256%256,x/256/256/256/256/256/256%256,x/256/256/256/256/256%256,x/256/256/256/256%256]++dg4 x
theorem fb {x:Int} (h:0<=x) (q:Int) (hq:0<=q):IntKind.u8.wrap (Int.fdiv x q)=x/q%256:=by
  rw [Int.fdiv_eq_ediv_of_nonneg _ hq];rfl
theorem QgD {x:Int} (h:W x):nb4 x=dg4 x:=by
  unfold W at h
  unfold nb4 dg4
  simp only [Int.reducePow]
  rw [fb h.1 16777216 (by decide),fb h.1 65536 (by decide),fb h.1 256 (by decide),fb h.1 1 (by decide)]
  have e1:x/16777216%256=x/256/256/256%256:=by omega
  have e2:x/65536%256=x/256/256%256:=by omega
  have e3:x/1%256=x%256:=by omega
  rw [e1,e2,e3]
theorem B5 {x:Int} (h:W x):nb8 x=Uj x:=by
  have h4:=QgD h
  unfold W at h
  unfold Uj
  rw [←h4]
  unfold nb8 nb4
  simp only [Int.reducePow]
  rw [fb h.1 72057594037927936 (by decide),fb h.1 281474976710656 (by decide),fb h.1 1099511627776 (by decide),fb h.1 4294967296 (by decide)]
  have e1:x/72057594037927936%256=x/256/256/256/256/256/256/256%256:=by omega
  have e2:x/281474976710656%256=x/256/256/256/256/256/256%256:=by omega
  have e3:x/1099511627776%256=x/256/256/256/256/256%256:=by omega
  have e4:x/4294967296%256=x/256/256/256/256%256:=by omega
  rw [e1,e2,e3,e4];rfl
def QA (l:List Int):ByteArray:=GI (bv l)
theorem QfT (l:List Int):QA l=l.foldl (fun r n=>r.push (UInt8.ofNat n.toNat)) ByteArray.empty:=by unfold QA GI;rw [wU]
theorem Qck (l:List Int): ∀ (b:ByteArray),(l.foldl (fun r n=>r.push (UInt8.ofNat n.toNat)) b).data=b.data++(l.map fun n=>UInt8.ofNat n.toNat).toArray:=by
  induction l with
  | nil=>intro b;simp
  | cons a l ih =>
    intro b
    rw [List.foldl_cons,ih]
    show (b.data.push _)++_=_
    apply Array.ext'
    simp
theorem zX (l:List Int):(QA l).data=(l.map fun n=>UInt8.ofNat n.toNat).toArray:=by rw [QfT,Qck];show #[]++_=_;simp
theorem yn (a b:List Int):QA a++QA b=QA (a++b):=by
  apply ByteArray.ext
  rw [ByteArray.data_append,zX,zX,zX]
  simp
theorem Z8 (l:List Int):(QA l).size=l.length:=by
  show (QA l).data.size=_
  rw [zX];simp
theorem wC {P:Program} {src dst e:TypeId} (hs:P.underlying src=some (.slice e)) (he:P.underlying e=some (.int .u8)) (hd:P.underlying dst=some .string) (b:Nat) (l:List Int) (te:TypeId):
    YZ P (do pure (.value (←convert src dst (.slice (some ⟨b,0,none⟩) l.length l.length)))) [.blk b (.cells (bv l).toArray te (0,0))] Unit (fun _=> .string (QA l)) (fun _=> [.blk b (.cells (bv l).toArray te (0,0))]) (fun _=>True):=by
  have h:=Qhy hs he hd (.mk b (bv l) []) te (WZ b l [])
  rw [Zd] at h
  simp only [sv,ss,QS,List.append_nil,bv,List.length_map,List.length_nil,Nat.add_zero] at h
  exact h
def Qhw:Value->ByteArray | .string a=>a | _=>ByteArray.empty
def Y1:List Value->Value:=fun vs=> .string (Qhw (Qd vs 0)++Qhw (Qd vs 1))
theorem X8 {P:Program} {t:TypeId} (a b:ByteArray) (h:a.size+b.size<=1000000):Qg P (Q0 .add t (.string a) (.string b)) (.string (a++b)):=by
  intro w
  have hs: ¬ ((a.size+b.size:Nat):Int)>IntKind.i64.max:=by
    have:IntKind.i64.max=9223372036854775807:=rfl
    omega
  simp only [Q0,eqGuard,binOp,Op.stringOp,hs,if_false]
  rfl
def zq:List Value->List Qf->ZB:=fun _ hs=>⟨Unit,fun _=> .string (QA [ci (Qw (Qh hs 0) 0)]),fun _=>hs,fun _=>True⟩
theorem Qd8:(⟨#[]⟩:ByteArray)=QA []:=rfl
theorem Qh2 (a b c d e f g h:Int):QA [a]++(QA [b]++(QA [c]++(QA [d]++(QA [e]++(QA [f]++(QA [g]++(QA [h]++(⟨#[]⟩:ByteArray))))))))=QA [a,b,c,d,e,f,g,h]:=by
  rw [Qd8];simp only [yn];rfl
theorem Ja (x:Int):(dg4 x).length=4:=rfl
theorem X9 (x:Int):(Uj x).length=8:=rfl
theorem zk {x:Int} (h:W x):IntKind.u8.wrap (Int.tmod x 256)=x%256:=by
  unfold W at h
  rw [Int.tmod_eq_emod_of_nonneg h.1]
  show x%256%256=x%256
  omega
theorem qX {x:Int} (h:W x):IntKind.u64.wrap (Int.tdiv x 256)=x/256:=by
  unfold W at h
  rw [Int.tdiv_eq_ediv_of_nonneg h.1,Xq];omega
theorem Q7 {x:Int} (h:W x):W (x/256):=by unfold W at *;omega
theorem Xp:(⟨#[]⟩:ByteArray).size=0:=rfl
end Go.Sx
set_option linter.unusedVariables false
set_option linter.unusedSimpArgs false
namespace Go.Sx
open Go.RowKit
theorem QbL (b:Nat) (E F:List Zf) (m:KV):Kl b (E++F) m=Kl b E (Kl b F m):=by unfold Kl;rw [List.foldr_append]
end Go.Sx
namespace Go.Sx
open Go.RowKit
end Go.Sx
namespace Go.Sx
open Go.RowKit
end Go.Sx
namespace Go.Sx
open Go.RowKit
end Go.Sx
namespace Go.Sx
open Go.RowKit
noncomputable abbrev nxt (p:KV):Int:=ci ((Q1 p (.int .u8 0)).getD (.int .u32 0))
end Go.Sx
namespace Go.Sx
open Go.RowKit
end Go.Sx
namespace Go.Sx
open Go.RowKit
end Go.Sx
set_option linter.unusedVariables false
namespace Go.Sx
open Go.RowKit
theorem DD.trans {b:Nat} {m m' m'' :KV} {E F:List Zf} (h:DD b m m' E) (g:DD b m' m'' F):DD b m m'' (E++F):=fun m2 h2 e2=>by
  obtain ⟨a1,a2⟩:=g m2 h2 e2
  rw [QbL]
  exact h _ a1 a2
def Dm (K:MK) (E:Nat->KV->Value->Zf) (b:Nat) (m m' :KV) (L L' :List Zf) (k:Nat):Prop:=
  ∃Es:List Zf,L' =L++Es/\Es.length<=k/\DD b m m' Es/\ ∀e∈Es,∃a key,e=E b a key/\K.OkK key/\Xr K a
theorem Dm.one {K:MK} {E:Nat->KV->Value->Zf} {b:Nat} (hE:YV b (E b)) {m m' :KV} {L L' :List Zf} {key:Value} (hk:K.OkK key) (hm:Xr K m) (ho: ∀k,k≠key->Q1 m' k=Q1 m k) (hL:L' =L++ [E b m key]):Dm K E b m m' L L' 1:=
  ⟨[E b m key],hL,Nat.le_refl _,(DD.nil b m).snoc (hE.b _ _) (by rw [hE.was,hE.key]) (fun k q=>ho k (by rw [hE.key] at q;exact q)),fun e h=>by simp at h;subst h;exact ⟨_,_,rfl,hk,hm⟩⟩
theorem Dm.set {K:MK} {E:Nat->KV->Value->Zf} {b:Nat} (hE:YV b (E b)) {m m' :KV} {L L' :List Zf} {key v:Value} (hk:K.OkK key) (hm:Xr K m) (h:m' =ZF m key v/\L' =L++ [E b m key]):Dm K E b m m' L L' 1:=
  Dm.one hE hk hm (fun k q=>by rw [h.1,ka,if_neg q]) h.2
theorem Dm.trans {K:MK} {E:Nat->KV->Value->Zf} {b:Nat} {m m' m'' :KV} {L L' L'' :List Zf} {j k:Nat} (h:Dm K E b m m' L L' j) (g:Dm K E b m' m'' L' L'' k):Dm K E b m m'' L L'' (j+k):=by
  obtain ⟨E1,rfl,l1,u1,a1⟩:=h
  obtain ⟨E2,rfl,l2,u2,a2⟩:=g
  refine ⟨E1++E2,List.append_assoc _ _ _,by rw [List.length_append];omega,u1.trans u2,fun e he=> ?_⟩
  rcases List.mem_append.1 he with q | q
  · exact a1 e q
  · exact a2 e q
theorem DD.others {b:Nat} (m:KV): ∀ {Es:List Zf},(∀e∈Es,e.b≠b)->DD b m m Es:=by
  intro Es
  induction Es with
  | nil=>exact fun _=>DD.nil b m
  | cons e Es ih=>exact fun h=>DD.trans (m' :=m) (E:= [e]) (DD.other (E:= []) (DD.nil b m) (h e (List.mem_cons_self ..))) (ih fun x hx=>h x (List.mem_cons_of_mem _ hx))
def Dp (K K' :MK) (E E' :Nat->KV->Value->Zf) (b b' :Nat) (m p m' p' :KV) (L L' :List Zf) (k:Nat):Prop:=
  ∃Es:List Zf,L' =L++Es/\Es.length<=k/\DD b m m' Es/\DD b' p p' Es/\ ∀e∈Es,(∃a key,e=E b a key/\K.OkK key/\Xr K a)∨(∃a key,e=E' b' a key/\K'.OkK key/\Xr K' a)
theorem Dp.of {K K' :MK} {E E' :Nat->KV->Value->Zf} {b b' :Nat} (hE:YV b (E b)) (hn:b≠b') {m p m' :KV} {L L' :List Zf} {k:Nat} (h:Dm K E b m m' L L' k):Dp K K' E E' b b' m p m' p L L' k:=by
  obtain ⟨Es,e,l,u,a⟩:=h
  exact ⟨Es,e,l,u,DD.others p fun x hx=>(by obtain ⟨a0,k0,rfl,_⟩:=a x hx;rw [hE.b];exact hn),fun x hx=> .inl (a x hx)⟩
theorem Dp.of2 {K K' :MK} {E E' :Nat->KV->Value->Zf} {b b' :Nat} (hE:YV b (E b)) (hE' :YV b' (E' b')) (hn:b≠b') {m p m' p' :KV} {L L1 L' :List Zf} {j k:Nat} (h:Dm K E b m m' L L1 j) (g:Dm K' E' b' p p' L1 L' k):Dp K K' E E' b b' m p m' p' L L' (j+k):=by
  obtain ⟨E1,rfl,l1,u1,a1⟩:=h
  obtain ⟨E2,rfl,l2,u2,a2⟩:=g
  refine ⟨E1++E2,List.append_assoc _ _ _,by rw [List.length_append];omega,u1.trans (DD.others m' fun x hx=> ?_),(DD.others p fun x hx=> ?_).trans u2,fun e he=> ?_⟩
  · obtain ⟨a0,k0,rfl,_⟩:=a2 x hx;rw [hE'.b];exact hn.symm
  · obtain ⟨a0,k0,rfl,_⟩:=a1 x hx;rw [hE.b];exact hn
  · rcases List.mem_append.1 he with q | q
    · exact .inl (a1 e q)
    · exact .inr (a2 e q)
theorem Dp.refl {K K' :MK} {E E' :Nat->KV->Value->Zf} {b b' :Nat} {m p:KV} {L:List Zf} {k:Nat}:Dp K K' E E' b b' m p m p L L k:=⟨[],(List.append_nil _).symm,Nat.zero_le _,DD.nil b m,DD.nil b' p,fun e h=>by cases h⟩
theorem Dp.trans {K K' :MK} {E E' :Nat->KV->Value->Zf} {b b' :Nat} {m p m' p' m'' p'' :KV} {L L' L'' :List Zf} {j k:Nat} (h:Dp K K' E E' b b' m p m' p' L L' j) (g:Dp K K' E E' b b' m' p' m'' p'' L' L'' k):Dp K K' E E' b b' m p m'' p'' L L'' (j+k):=by
  obtain ⟨E1,rfl,l1,u1,v1,a1⟩:=h
  obtain ⟨E2,rfl,l2,u2,v2,a2⟩:=g
  refine ⟨E1++E2,List.append_assoc _ _ _,by rw [List.length_append];omega,u1.trans u2,v1.trans v2,fun e he=> ?_⟩
  rcases List.mem_append.1 he with q | q
  · exact a1 e q
  · exact a2 e q
theorem Dp.back {K K' :MK} {E E' :Nat->KV->Value->Zf} {b b' :Nat} {m p m' p' :KV} {L L' :List Zf} {k:Nat} (h:Dp K K' E E' b b' m p m' p' L L' k) (hm:kr m') (hp:kr p') {m2 p2:KV} (u0:m2=Kl b (L'.drop L.length) m') (u1:p2=Kl b' (L'.drop L.length) p'):
    L'.take L.length=L/\kr m2/\EqM m2 m/\kr p2/\EqM p2 p:=by
  obtain ⟨Es,rfl,l,u,v,a⟩:=h
  rw [List.drop_left] at u0 u1
  obtain ⟨a1,a2⟩:=u m' hm (EqM.refl _)
  obtain ⟨a3,a4⟩:=v p' hp (EqM.refl _)
  rw [u0,u1]
  exact ⟨List.take_left,a1,a2,a3,a4⟩
end Go.Sx
set_option linter.unusedVariables false
namespace Go.Sx
open Go.RowKit
end Go.Sx
set_option linter.unusedVariables false
set_option linter.unusedSimpArgs false
namespace Go.Sx
open Go.RowKit
end Go.Sx
set_option linter.unusedVariables false
set_option linter.unusedSimpArgs false
namespace Go.Sx
open Go.RowKit
end Go.Sx
set_option linter.unusedVariables false
set_option linter.unusedSimpArgs false
namespace Go.Sx
open Go.RowKit
end Go.Sx
set_option linter.unusedVariables false
set_option linter.unusedSimpArgs false
namespace Go.Sx
open Go.RowKit
end Go.Sx
set_option linter.unusedVariables false
set_option linter.unusedSimpArgs false
namespace Go.Sx
open Go.RowKit
end Go.Sx
set_option linter.unusedVariables false
set_option linter.unusedSimpArgs false
namespace Go.Sx
open Go.RowKit
end Go.Sx
set_option linter.unusedVariables false
set_option linter.unusedSimpArgs false
namespace Go.Sx
open Go.RowKit
theorem Qff {y:QK} {l:List Int} {e:TypeId} (hb:Vj y) (h:dg y=l):GI (ZZ (sv y) (ss e y))=QA l:=by rw [Zd,hb.eq,h];rfl
end Go.Sx
set_option linter.unusedVariables false
set_option linter.unusedSimpArgs false
namespace Go.Sx
open Go.RowKit
end Go.Sx
set_option linter.unusedVariables false
set_option linter.unusedSimpArgs false
namespace Go.Sx
open Go.RowKit
end Go.Sx
set_option linter.unusedVariables false
set_option linter.unusedSimpArgs false
namespace Go.Sx
open Go.RowKit
end Go.Sx
set_option linter.unusedVariables false
set_option linter.unusedSimpArgs false
namespace Go.Sx
open Go.RowKit
end Go.Sx
set_option linter.unusedVariables false
set_option linter.unusedSimpArgs false
namespace Go.Sx
open Go.RowKit
end Go.Sx
set_option linter.unusedVariables false
set_option linter.unusedSimpArgs false
namespace Go.Sx
open Go.RowKit
theorem QgY {a b:Nat} (h: [a,b].Nodup): ¬ (a=b):=by simpa using h
theorem vd {K K' :MK} {b0 b1:Nat} {m0 m1 m0' m1' :KV} {E:List Zf} (h:Jc E [(K,b0,m0),(K',b1,m1)]= [(K,b0,m0'),(K',b1,m1')]):m0' =Kl b0 E m0/\m1' =Kl b1 E m1:=by
  rw [gV] at h
  simp only [List.map_cons,List.map_nil,List.cons.injEq,Prod.mk.injEq,true_and,and_true] at h
  exact ⟨h.1.symm,h.2.symm⟩
end Go.Sx
namespace Go.Sx
open Go.RowKit
end Go.Sx
namespace Go.Sx
open Go.RowKit
def Xv (n:Int):List Int:=Uj (Qb n 3)++(Uj (Qb n 2)++(Uj (Qb n 1)++Uj (Qb n 0)))
theorem Kk (n:Int):(Xv n).length=32:=rfl
theorem HK {n:Int}:l32 (JJ (Qb n 0) (Qb n 1) (Qb n 2) (Qb n 3))=Xv n:=by
  have h0:=B5 (Qn n 0);have h1:=B5 (Qn n 1);have h2:=B5 (Qn n 2);have h3:=B5 (Qn n 3)
  unfold Xv
  rw [←h0,←h1,←h2,←h3]
  rfl
end Go.Sx
namespace Go.Sx
open Go.RowKit
section
variable {Ks Kh:MK} {E E' :Nat->KV->Value->Zf} {b b' :Nat} {m h:KV} {L:List Zf} {t a n:Int}
theorem QcP (K:Vs Ks Kh) (hE:YV b (E b)) (hE' :YV b' (E' b')) (hn:b≠b') (k1:Xr Ks m) (k2:Xr Kh h):Dp Ks Kh E E' b b' m h (Jf (E b) (E' b') (m,h,L) t a n).2.1 (Jf (E b) (E' b') (m,h,L) t a n).2.2.1 L (Jf (E b) (E' b') (m,h,L) t a n).2.2.2 2:=by
  unfold Jf
  split
  · exact Dp.refl
  · split
    · exact Dp.refl
    · exact Dp.of2 (j:=1) (k:=1) hE hE' hn (Dm.set hE (K.kt t) k1 ⟨rfl,rfl⟩) (Dm.set hE' (K.kh t a) k2 ⟨rfl,rfl⟩)
theorem QbE (K:Vs Ks Kh) (hE:YV b (E b)) (hE' :YV b' (E' b')) (hn:b≠b') (k1:Xr Ks m) (k2:Xr Kh h):Dp Ks Kh E E' b b' m h (ZS (E b) (E' b') (m,h,L) t a n).2.1 (ZS (E b) (E' b') (m,h,L) t a n).2.2.1 L (ZS (E b) (E' b') (m,h,L) t a n).2.2.2 2:=by
  unfold ZS
  repeat' split
  all_goals first
    | exact Dp.refl
    | exact Dp.of2 (j:=1) (k:=1) hE hE' hn (Dm.set hE (K.kt t) k1 ⟨rfl,rfl⟩) (Dm.set hE' (K.kh t a) k2 ⟨rfl,rfl⟩)
theorem Qe6 (K:Vs Ks Kh) (hE:YV b (E b)) (hn:b≠b') (k1:Xr Ks m) {f:ST->Int->Int×ST}:Dp Ks Kh E E' b b' m h (ZT (E b) f (m,h,L) t n).2.1 (ZT (E b) f (m,h,L) t n).2.2.1 L (ZT (E b) f (m,h,L) t n).2.2.2 2:=by
  unfold ZT
  split
  · exact Dp.refl
  · split
    · exact Dp.refl
    · obtain ⟨Es,e1,e2,r⟩:=Dp.of (K' :=Kh) (E' :=E') (b' :=b') (p:=h) hE hn (Dm.set (m:=m) (L:=L) hE (K.kt t) k1 ⟨rfl,rfl⟩)
      exact ⟨Es,e1,by omega,r⟩
theorem QgM (K:Vs Ks Kh) (hE:YV b (E b)) (hE' :YV b' (E' b')) (hn:b≠b') (k1:Xr Ks m) (k2:Xr Kh h) {xs:List Int} {k:Int} {x:List Int×Bool×BS} (hx:x=doX (E b) (E' b') xs (m,h,L) k t a n):Dp Ks Kh E E' b b' m h x.2.2.1 x.2.2.2.1 L x.2.2.2.2 2:=by
  subst hx
  unfold doX pDo
  split
  · exact QcP K hE hE' hn k1 k2
  · split
    · exact QbE K hE hE' hn k1 k2
    · exact Qe6 K hE hn k1
theorem KI.eqm {m' h' :KV} (v:KI Ks Kh m h) (a1:kr m') (a2:EqM m' m) (a3:kr h') (a4:EqM h' h):KI Ks Kh m' h' :=by
  have e1: ∀t,ZG m' t=ZG m t:=fun t=>by unfold ZG;rw [a2]
  have e2: ∀t a,Y4 h' t a=Y4 h t a:=fun t a=>by unfold Y4;rw [a4]
  refine ⟨v.k.of_eq a1 a2,v.kh.of_eq a3 a4,fun t=>by rw [e1];exact v.fit t,fun t=> ?_,fun t=>by rw [e1];exact v.le t⟩
  rw [e1,←v.sum t]
  exact Ue fun i _=>e2 t i
structure Fg (Ks Kh:MK) (E E' :Nat->KV->Value->Zf) (b b' :Nat) (i:Nat) (m h:KV) (L:List Zf) (xs xk:List Int) (mark:Int):Prop where
  v:KI Ks Kh m h
  r:jw m h xs
  l:L.length<=2*i
  okk:QY 80 xk
  ex: ∃ (mk hk:KV) (L0:List Zf) (k:Nat),mark=((L0.length:Nat):Int)/\Dp Ks Kh E E' b b' mk hk m h L0 L k/\KI Ks Kh mk hk/\jw mk hk xk
theorem Fg.start:Fg Ks Kh E E' b b' 0 [] [] [] (List.replicate 80 0) (List.replicate 80 0) 0:=⟨KI.start,jw.start,Nat.zero_le _,QE 80,[],[],[],0,rfl,Dp.refl,KI.start,jw.start⟩
theorem Fg.act (K:Vs Ks Kh) (hE:YV b (E b)) (hE' :YV b' (E' b')) (hn:b≠b') {i:Nat} {xs xk:List Int} {mark:Int} (p:Fg Ks Kh E E' b b' i m h L xs xk mark) (rn:R4 n) (t0:0<=t) (a0:0<=a) {k:Int} {x:List Int×Bool×BS} (hx:x=doX (E b) (E' b') xs (m,h,L) k t a n):
    x.2.1=true/\Fg Ks Kh E E' b b' (i+1) x.2.2.1 x.2.2.2.1 x.2.2.2.2 x.1 xk mark:=by
  obtain ⟨e,r'⟩:=p.r.deed K p.v rn t0 a0 hx
  have d:=QgM K hE hE' hn p.v.k p.v.kh hx
  obtain ⟨v',_,_⟩:=p.v.deed (L:=L) (es:=E b) (eh:=E' b') K k (t:=t) (n:=n) (a:=a) rn a0 (x:=x.2.2) (by rw [hx];rfl)
  obtain ⟨mk,hk,L0,j,e1,e2,e3,e4⟩:=p.ex
  refine ⟨e,v',r',?_,p.okk,mk,hk,L0,_,e1,e2.trans d,e3,e4⟩
  obtain ⟨Es,g1,g2,_⟩:=d
  have:=p.l
  rw [g1,List.length_append];omega
theorem Fg.mark {i:Nat} {xs xk:List Int} {mark:Int} (p:Fg Ks Kh E E' b b' i m h L xs xk mark):Fg Ks Kh E E' b b' (i+1) m h L xs xs ((L.length:Nat):Int):=
  ⟨p.v,p.r,by have:=p.l;omega,p.r.ok,m,h,L,0,rfl,Dp.refl,p.v,p.r⟩
theorem Fg.mk_le {i:Nat} {xs xk:List Int} {mark:Int} (p:Fg Ks Kh E E' b b' i m h L xs xk mark):0<=mark/\mark<=((L.length:Nat):Int):=by
  obtain ⟨mk,pk,L0,k,rfl,⟨Es,e,_⟩,e3⟩:=p.ex
  rw [e,List.length_append];omega
theorem Fg.back {i:Nat} {xs xk:List Int} {mark:Int} (p:Fg Ks Kh E E' b b' i m h L xs xk mark) {m2 p2:KV} (u0:m2=Kl b (L.drop (Int.toNat mark)) m) (u1:p2=Kl b' (L.drop (Int.toNat mark)) h):
    Fg Ks Kh E E' b b' (i+1) m2 p2 (L.take (Int.toNat mark)) xk xk mark:=by
  obtain ⟨mk,hk,L0,k,rfl,e2,e3,e4⟩:=p.ex
  rw [Int.toNat_natCast] at *
  obtain ⟨t,a1,a2,a3,a4⟩:=e2.back p.v.k.once p.v.kh.once u0 u1
  have hL:=p.l
  have hv:=e3.eqm a1 a2 a3 a4
  have hr:=e4.eqm a2 a4
  rw [t]
  have hL0:L0.length<=L.length:=by rw [←t,List.length_take];omega
  exact ⟨hv,hr,by omega,p.okk,m2,p2,L0,0,rfl,Dp.refl,hv,hr⟩
theorem Fg.ents {i:Nat} {xs xk:List Int} {mark:Int} (p:Fg Ks Kh E E' b b' i m h L xs xk mark): ∀e∈L.drop (Int.toNat mark),(∃a key,e=E b a key/\Ks.OkK key/\Xr Ks a)∨(∃a key,e=E' b' a key/\Kh.OkK key/\Xr Kh a):=by
  obtain ⟨mk,pk,L0,k,rfl,⟨Es,e,_,_,_,ha⟩,e3⟩:=p.ex
  rw [e,Int.toNat_natCast,List.drop_left]
  exact ha
end
def vi (xs:List Int) (t:Int):Int:=if 3<t then 0 else
  xJ (if (XV (xs.getD (4*t.toNat+2) 0+xs.getD (4*t.toNat+1) 0)).2=false then Kw - 1 else (XV (xs.getD (4*t.toNat+2) 0+xs.getD (4*t.toNat+1) 0)).1) (V4 xs t.toNat)
theorem QgJ {m h:KV} {xs:List Int} (r:jw m h xs) {t:Int} (t0:0<=t) (t4:t<4):Wz m t=vi xs t:=by
  obtain ⟨q0,q1,q2,q3⟩:=r.at3 t0 t4
  unfold Wz QeP vi
  rw [if_neg (show ¬3<t by omega),r.ast t0 t4,q1,q2]
  congr 1
  unfold Xl XV
  by_cases q:(ZG m t).2.2.1+(ZG m t).2.1<115792089237316195423570985008687907853269984665640564039457584007913129639936
  · rw [if_pos q,if_pos q,if_neg (fun e=>e rfl),if_neg (by simp)]
  · rw [if_neg q,if_neg q,if_pos (by decide),if_pos rfl]
theorem Qec {m h:KV} {xs:List Int} (r:jw m h xs) {t:Int} (t4:4<=t):Wz m t=0:=by
  unfold Wz;rw [r.so t t4];decide+kernel
theorem dV {m h:KV} {xs:List Int} (r:jw m h xs) {t:Int} (t4:4<=t):qG m t=0:=by
  unfold qG;rw [r.so t t4];decide+kernel
def vC (s:ST):List Int:=Xv s.1++(Xv s.2.1++(Xv s.2.2.1++Xv s.2.2.2))
def Gy (f:Nat->Int):Nat->List Int
  | 0=> []
  | n+1=>Gy f n++Xv (f n)
def YK (fs:Nat->ST) (fh:Nat->Nat->Int):Nat->List Int
  | 0=> []
  | n+1=>YK fs fh n++(vC (fs n)++Gy (fh n) 16)
theorem WM (f:Nat->Int): ∀n,(Gy f n).length=32*n
  | 0=>rfl
  | n+1=>by rw [Gy,List.length_append,WM f n,Kk];omega
theorem DL (s:ST):(vC s).length=128:=by unfold vC;simp only [List.length_append,Kk]
theorem WX (fs:Nat->ST) (fh:Nat->Nat->Int): ∀n,(YK fs fh n).length=640*n
  | 0=>rfl
  | n+1=>by rw [YK,List.length_append,List.length_append,WX fs fh n,DL,WM];omega
theorem Qet {f g:Nat->Int}: ∀ {n:Nat},(∀q,q<n->f q=g q)->Gy f n=Gy g n
  | 0,_=>rfl
  | n+1,h=>by rw [Gy,Gy,Qet fun q hq=>h q (by omega),h n (by omega)]
theorem QdQ {fs gs:Nat->ST} {fh gh:Nat->Nat->Int}: ∀ {n:Nat},(∀k,k<n->fs k=gs k)->(∀k q,k<n->q<16->fh k q=gh k q)->YK fs fh n=YK gs gh n
  | 0,_,_=>rfl
  | n+1,h1,h2=>by rw [YK,YK,QdQ (fun k hk=>h1 k (by omega)) (fun k q hk hq=>h2 k q (by omega) hq),h1 n (by omega),Qet fun q hq=>h2 n q (by omega) hq]
def dS (zs:List Int) (k:Nat):ST:=gS zs (4*k)
def dH (zs:List Int) (k q:Nat):Int:=zs.getD (16+16*k+q) 0
noncomputable def pS (m:KV) (k:Nat):ST:=ZG m ((k:Nat):Int)
noncomputable def pH (h:KV) (k q:Nat):Int:=Y4 h ((k:Nat):Int) ((q:Nat):Int)
theorem jw.text {m h:KV} {xs:List Int} (r:jw m h xs):YK (pS m) (pH h) 4=YK (dS xs) (dH xs) 4:=
  QdQ (fun k hk=>by have:=r.st ((k:Nat):Int) (by omega) (by omega);rwa [Int.toNat_natCast] at this) fun k q hk hq=>by
    have:=r.hd ((k:Nat):Int) ((q:Nat):Int) (by omega) (by omega) (by omega) (by omega)
    rwa [Int.toNat_natCast,Int.toNat_natCast] at this
theorem Qfh (l:List Int): ∃y:QK,Vj y/\dg y=l:=⟨.mk 0 (bv l) [],WZ 0 _ _,wU _⟩
structure PlX where
  i:Nat
  m:KV
  h:KV
  L:List Zf
  xs:List Int
  xk:List Int
  mark:Int
  bj:Nat
  b:Nat
  bm:Nat
  bh:Nat
  bt:Nat
  bk:Nat
end Go.Sx
namespace Go.Sx
theorem Qik {zs:List Int} (h:QY 80 zs) (k q:Nat):R4 (dH zs k q):=h.get _
end Go.Sx
set_option linter.unusedVariables false
namespace Go.Sx
open Go.RowKit
def QfJ (k:Nat):List Value->List Qf->ZB:=fun vs hs=>⟨List Int,Qv,fun _=>hs,fun z=>QY k z/\z=((Jj (XL (Qh hs 0))).drop (Jd (Qd vs 0)/4)).take k⟩
theorem gI {m:Nat} {xs:List Int} (h:QY m xs) {n k:Nat} (hn:n+k<=m):QY k ((xs.drop n).take k):=
  ⟨by rw [List.length_take,List.length_drop,h.1];omega,fun x hx=>h.2 x (List.mem_of_mem_drop (List.mem_of_mem_take hx))⟩
theorem Qfi {P:Program} {e:TypeId} {m:Nat} (n k K:Nat) (ha: ∀w,(isAgg e).run P w= .ok true w) (hk: ∀w,(sizeOf e).run P w= .ok K w) (hK:K=k*4) (b:Nat) (ty:TypeId) {xs:List Int} (hx:QY m xs) (o:Nat) (ho:o=n*4) (h:n+k<=m):
    YZ P (do pure (.value (←Instr.loadAt e (.pointer (some ⟨b,o,none⟩))))) [tb b ty (Qv xs)] (List Int) Qv (fun _=> [tb b ty (Qv xs)]) (fun z=>QY k z/\z=((Jj (XL (tb b ty (Qv xs)))).drop (o/4)).take k):=by
  intro R w hw
  obtain ⟨_,w',_,hr,ho',he⟩:=Bf (P:=P) n k K ha hk hK b ty xs o ho (by rw [hx.1];exact h) R w hw
  refine ⟨(xs.drop n).take k,w',⟨gI hx h,?_⟩,hr,ho',he⟩
  show _=((Jj (Qv xs)).drop (o/4)).take k
  rw [QR hx,ho,Nat.mul_div_cancel _ (by decide)]
theorem QgQ {m:Nat} {b:Nat} {ty:TypeId} {xs:List Int} (hx:QY m xs) (k n o:Nat) (ho:o=n*4) (h:n+k<=m): ∃z,(fun z=>QY k z/\z=((Jj (XL (tb b ty (Qv xs)))).drop (o/4)).take k) z:=
  ⟨(xs.drop n).take k,gI hx h,by show _=((Jj (Qv xs)).drop (o/4)).take k;rw [QR hx,ho,Nat.mul_div_cancel _ (by decide)]⟩
theorem QgO {m:Nat} {b:Nat} {ty:TypeId} {xs:List Int} (hx:QY m xs) {k n o:Nat} (ho:o=n*4) {z:List Int} (h:QY k z/\z=((Jj (XL (tb b ty (Qv xs)))).drop (o/4)).take k):z=(xs.drop n).take k:=by
  have h2:z=((Jj (Qv xs)).drop (o/4)).take k:=h.2
  rw [QR hx,ho,Nat.mul_div_cancel _ (by decide)] at h2;exact h2
theorem Qht {P:Program} {t e:TypeId} {n:Nat} (hu:P.underlying t=some (.array n e)) (hs: ∀w,(sizeOf e).run P w= .ok 4 w) (ha: ∀w,(isAgg e).run P w= .ok true w) {ys:List Int} (hy:ys.length=n) (ki:IntKind) (i:Int) (h0:0<=i) (h1:i<n):
    Qg P (do pure (.value (←Instr.index t (Qv ys) (.int ki i)))) (vI (ys.getD i.toNat 0)):=by
  intro w
  obtain ⟨j,rfl⟩: ∃j:Nat,i=(j:Int):=⟨i.toNat,by omega⟩
  have hj:j<ys.length:=by omega
  have hc:0<=(j:Int)/\(j:Int)<(n:Int):=⟨h0,h1⟩
  have hex:(tL ys).toArray.extract (j*4) (j*4+4)=(tL [ys.getD j 0]).toArray:=by
    apply Array.ext'
    rw [Array.toList_extract,List.extract_eq_take_drop,List.toList_toArray]
    show List.take (j*4+4 - j*4) (List.drop (j*4) (tL ys))=tL [ys.getD j 0]
    rw [show j*4+4 - j*4=1*4 by omega,QaW,Qa0,gR hj]
  have hv:(Value.agg (tL [ys.getD j 0]).toArray)=vI (ys.getD j 0):=rfl
  have hv2: ∀z:Value,vI (ys.getD j 0)=z->Value.agg (tL [ys.getD j 0]).toArray=z:=fun z h=>hv.trans h
  unfold Qv
  simp only [Instr.index,run_underlying hu,asIntOf,Sem.run_bind,Sem.run_pure,Result.andThen_ok,hs w]
  simp only [hc,and_self,if_true,Int.toNat_natCast]
  have hsz:(tL ys).length=ys.length*4:=Vm ys
  have hb:j*4+4<=(tL ys).toArray.size:=by rw [List.size_toArray,hsz];omega
  simp only [part,Sem.run_bind,ha w,hs w,Result.andThen_ok,if_true,Sem.run_pure,hex,hv]
def QhM:List Value->List Qf->ZB:=fun vs hs=>⟨Int,vI,fun _=>hs,fun z=>R4 z/\z=(Jj (Qd vs 0)).getD (ci (Qd vs 1)).toNat 0⟩
theorem Qgp {P:Program} {t e:TypeId} {n:Nat} (hu:P.underlying t=some (.array n e)) (hs: ∀w,(sizeOf e).run P w= .ok 4 w) (ha: ∀w,(isAgg e).run P w= .ok true w) {ys:List Int} (hy:QY n ys) (ki:IntKind) (i:Int) (h0:0<=i) (h1:i<n):
    YZ P (do pure (.value (←Instr.index t (Qv ys) (.int ki i)))) [] Int vI (fun _=> []) (fun z=>R4 z/\z=(Jj (Qv ys)).getD i.toNat 0):=by
  intro R w ho
  refine ⟨ys.getD i.toNat 0,w,⟨hy.get _,by rw [QR hy]⟩, .inl (Qht hu hs ha hy.1 ki i h0 h1 w),ho,YL.refl w⟩
theorem QhV {n:Nat} {ys:List Int} (hy:QY n ys) (i:Int): ∃z,(fun z=>R4 z/\z=(Jj (Qv ys)).getD i.toNat 0) z:=⟨ys.getD i.toNat 0,hy.get _,by rw [QR hy]⟩
theorem QhP {n:Nat} {ys:List Int} (hy:QY n ys) {i z:Int} (h:R4 z/\z=(Jj (Qv ys)).getD i.toNat 0):z=ys.getD i.toNat 0:=by have:=h.2;rwa [QR hy] at this
end Go.Sx
namespace Go.Sx
theorem QhC (a b c d:List Int):QA a++QA b++QA c++QA d=QA (a++(b++(c++d))):=by
  simp only [yn,List.append_assoc]
end Go.Sx
namespace Go.Sx
open Go.RowKit
end Go.Sx
namespace Go.Sx
end Go.Sx
namespace Go.Sx
open Go.RowKit Go.ChangeShapes Go.WideShapes
end Go.Sx
namespace Go.Sx
open Go.RowKit
abbrev TT:=List Int×List Int
abbrev DT:=Int×Int×Int×Int×Int×Int
structure PS where
  m0:KV
  s0:KV
  m1:KV
  s1:KV
  L:List Zf
end Go.Sx
namespace Go.Sx
open Go.RowKit Go.ChangeShapes Go.WideShapes
end Go.Sx
namespace Go.Sx
open Go.RowKit Go.ChangeShapes Go.WideShapes
end Go.Sx
namespace Go.Sx
open Go.RowKit
end Go.Sx
