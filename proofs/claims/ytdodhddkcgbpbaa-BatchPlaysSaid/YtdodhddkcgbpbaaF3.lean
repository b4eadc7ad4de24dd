/- A part of the prover's own frame for walking code (see the claim's other texts). -/
import Derived.Test.YtdodhddkcgbpbaaF1
import Derived.Test.YtdodhddkcgbpbaaF2
set_option linter.unusedVariables false
set_option linter.unusedSimpArgs false
namespace Go.Sx
open Go.RowKit
theorem eqFields_self {P : Program} (w : World) (d : Nat) (xs : Array Value) : ∀ (fs : List Field), (∀ f ∈ fs, f.name ≠ "_" /\ ∃ a, (part f.type xs f.offset).run P w = .ok a w /\ (Op.equalIn d f.type a a).run P w = .ok true w) -> (Op.eqFields d xs xs fs).run P w = .ok true w
  | [],_=>by simp [Op.eqFields]
  | f :: fs, h => by
    obtain ⟨hn,a,h1,h2⟩:=h f (List.mem_cons_self ..)
    have ih:=eqFields_self w d xs fs fun g hg=>h g (List.mem_cons_of_mem _ hg)
    simp only [Op.eqFields,hn,ne_eq,not_false_eq_true,if_true,Sem.run_bind,h1,h2,Result.andThen_ok,Bool.not_true,Bool.false_eq_true,if_false]
    exact ih
theorem self_int {P:Program} {e:TypeId} {k:IntKind} {d off:Nat} {xs:Array Value} {n:Int} (w:World) (he:P.underlying e=some (.int k)) (ha: ∀w,(isAgg e).run P w= .ok false w) (hx:xs[off]? =some (.int k n)):
    ∃a,(part e xs off).run P w= .ok a w/\(Op.equalIn (d+1) e a a).run P w= .ok true w:=
  ⟨_,run_part1 w ha hx,by rw [run_equalIn_int w d e k k n n he];simp⟩
theorem self_bool {P:Program} {e:TypeId} {d off:Nat} {xs:Array Value} {b:Bool} (w:World) (he:P.underlying e=some .bool) (ha: ∀w,(isAgg e).run P w= .ok false w) (hx:xs[off]? =some (.bool b)):
    ∃a,(part e xs off).run P w= .ok a w/\(Op.equalIn (d+1) e a a).run P w= .ok true w:=
  ⟨_,run_part1 w ha hx,by rw [run_equalIn_bool w d e b b he];simp⟩
theorem self_arr {P:Program} {t e:TypeId} {k:IntKind} {d n off:Nat} {xs:Array Value} (l:List Int) (w:World) (ht:P.underlying t=some (.array n e)) (he:P.underlying e=some (.int k)) (ha: ∀w,(isAgg e).run P w= .ok false w) (hsz: ∀w,(sizeOf e).run P w= .ok 1 w)
    (hat: ∀w,(isAgg t).run P w= .ok true w) (hst: ∀w,(sizeOf t).run P w= .ok n w) (hl:l.length=n) (hx:xs.extract off (off+n)=arrV k l):
    ∃a,(part t xs off).run P w= .ok a w/\(Op.equalIn (d+2) t a a).run P w= .ok true w:=
  ⟨.agg (arrV k l),by simp [part,Sem.run_bind,hat,hst,hx],by rw [eq_arrn w d ht he ha hsz l l hl hl];simp⟩
structure BTy (P:Program) (t:TypeId) (e32 e64 eh e8 ei eb:TypeId):Prop where
  und:P.underlying t=some (.struct (P.fieldsOf t))
  plain:P.stoodInHeld t=false
  guard:P.eqGuardType P.depth t=false
  fs : ∃ f0 f1 f2 f3 f4 f5 f6 f7, (P.fieldsOf t).toList = [f0, f1, f2, f3, f4, f5, f6, f7] /\ (f0.name ≠ "_" /\ f1.name ≠ "_" /\ f2.name ≠ "_" /\ f3.name ≠ "_" /\ f4.name ≠ "_" /\ f5.name ≠ "_" /\ f6.name ≠ "_" /\ f7.name ≠ "_") /\
    (f0.type=e32/\f1.type=e64/\f2.type=e64/\f3.type=eh/\f4.type=e8/\f5.type=ei/\f6.type=e64/\f7.type=eb)/\(f0.offset=0/\f1.offset=1/\f2.offset=2/\f3.offset=3/\f4.offset=35/\f5.offset=36/\f6.offset=40/\f7.offset=41)
  u32:P.underlying e32=some (.int .u32)
  u64:P.underlying e64=some (.int .u64)
  u8:P.underlying e8=some (.int .u8)
  uh:P.underlying eh=some (.array 32 e8)
  ui:P.underlying ei=some (.array 4 e64)
  ub:P.underlying eb=some .bool
  a32: ∀w,(isAgg e32).run P w= .ok false w
  a64: ∀w,(isAgg e64).run P w= .ok false w
  a8: ∀w,(isAgg e8).run P w= .ok false w
  ab: ∀w,(isAgg eb).run P w= .ok false w
  ah: ∀w,(isAgg eh).run P w= .ok true w
  ai: ∀w,(isAgg ei).run P w= .ok true w
  s64: ∀w,(sizeOf e64).run P w= .ok 1 w
  s8: ∀w,(sizeOf e8).run P w= .ok 1 w
  sh: ∀w,(sizeOf eh).run P w= .ok 32 w
  si: ∀w,(sizeOf ei).run P w= .ok 4 w
theorem eqB_self {P:Program} {t e32 e64 eh e8 ei eb:TypeId} (T:BTy P t e32 e64 eh e8 ei eb) (x:BT) (w:World):(Op.equalIn 10000 t (bV x) (bV x)).run P w= .ok true w:=by
  obtain ⟨f0,f1,f2,f3,f4,f5,f6,f7,hf,⟨n0,n1,n2,n3,n4,n5,n6,n7⟩,⟨t0,t1,t2,t3,t4,t5,t6,t7⟩,⟨o0,o1,o2,o3,o4,o5,o6,o7⟩⟩:=T.fs
  show (Op.equalIn (9999+1) t (.agg (bV x).cells) (.agg (bV x).cells)).run P w=_
  rw [run_equalIn_struct w 9999 t _ _ T.und T.plain,hf]
  refine eqFields_self w 9999 _ _ fun f hm=> ?_
  simp only [List.mem_cons,List.not_mem_nil,or_false] at hm
  rcases hm with rfl | rfl | rfl | rfl | rfl | rfl | rfl | rfl
  · rw [t0,o0];exact ⟨n0,self_int (d:=9998) w T.u32 T.a32 rfl⟩
  · rw [t1,o1];exact ⟨n1,self_int (d:=9998) w T.u64 T.a64 rfl⟩
  · rw [t2,o2];exact ⟨n2,self_int (d:=9998) w T.u64 T.a64 rfl⟩
  · rw [t3,o3];exact ⟨n3,self_arr (d:=9997) ((List.range 32).map fun i=>x.1 (3+i)) w T.uh T.u8 T.a8 T.s8 T.ah T.sh (by simp) (by kernel_rfl)⟩
  · rw [t4,o4];exact ⟨n4,self_int (d:=9998) w T.u8 T.a8 rfl⟩
  · rw [t5,o5];exact ⟨n5,self_arr (d:=9997) ((List.range 4).map fun i=>x.1 (36+i)) w T.ui T.u64 T.a64 T.s64 T.ai T.si (by simp) (by kernel_rfl)⟩
  · rw [t6,o6];exact ⟨n6,self_int (d:=9998) w T.u64 T.a64 rfl⟩
  · rw [t7,o7];exact ⟨n7,self_bool (d:=9998) w T.ub T.ab rfl⟩
theorem xeqB_self {P:Program} {t e32 e64 eh e8 ei eb:TypeId} (T:BTy P t e32 e64 eh e8 ei eb) (x y:BT) (h:bV x=bV y):PureRun P (xBin .eql t (bV x) (bV y)) (.bool true):=by
  intro w
  rw [←h]
  have g:(eqGuard .eql t (.const (bV x)) (.const (bV x)) (bV x) (bV x)).run P w= .ok () w:=run_eqGuard_agg (w:=w) .eql t _ _ _ _ T.guard
  have q:(binOp .eql t (bV x) (bV x)).run P w= .ok (.bool true) w:=by
    show (binOp .eql t (.agg (bV x).cells) (.agg (bV x).cells)).run P w=_
    rw [run_eql_struct]
    show ((Op.equalIn 10000 t (bV x) (bV x)).run P w).andThen _=_
    rw [eqB_self T];rfl
  simp [xBin,Sem.run_bind,g,q]
theorem xneB_self {P:Program} {t e32 e64 eh e8 ei eb:TypeId} (T:BTy P t e32 e64 eh e8 ei eb) (x y:BT) (h:bV x=bV y):PureRun P (xBin .neq t (bV x) (bV y)) (.bool false):=by
  intro w
  rw [←h]
  have g:(eqGuard .neq t (.const (bV x)) (.const (bV x)) (bV x) (bV x)).run P w= .ok () w:=run_eqGuard_agg (w:=w) .neq t _ _ _ _ T.guard
  have q:(binOp .neq t (bV x) (bV x)).run P w= .ok (.bool false) w:=by
    show (binOp .neq t (.agg (bV x).cells) (.agg (bV x).cells)).run P w=_
    rw [run_neq_struct]
    show ((Op.equalIn 10000 t (bV x) (bV x)).run P w).andThen _=_
    rw [eqB_self T];rfl
  simp [xBin,Sem.run_bind,g,q]
end Go.Sx
namespace Go.Sx
open Go.RowKit
open Classical in
noncomputable def srt (kk:IntKind) (m:KV):List Value:=if h: ∃ks,KeysOf kk m ks then h.choose else []
theorem srt_eq {kk:IntKind} {m:KV} (hm:MOK m) {ks:List Value} (h:KeysOf kk m ks):srt kk m=ks:=by
  unfold srt
  have hx: ∃ks,KeysOf kk m ks:=⟨ks,h⟩
  rw [dif_pos hx]
  exact keys_eq hm hm (EqM.refl _) hx.choose_spec h
theorem srt_keys {kk:IntKind} {m:KV} (hi:IntKeys kk m):KeysOf kk m (srt kk m):=by
  obtain ⟨z,hz⟩:=keysOf_wit hi.1 hi.2
  have h:KeysOf kk m (vals z):=hz
  rw [srt_eq hi.2 h];exact h
noncomputable def allB (m:KV):List BT:=(srt .u32 m).map fun k=>unB ((mget m k).getD (bV b0))
noncomputable def lastB (m:KV):BT:=(allB m).getLastD b0
def openB (w b a:Int):Bool:=decide (a<b+w)
structure KB (K:MK):Prop where
  k: ∀v,K.OkK v-> ∃n:Int,v= .int .u32 n
  k' : ∀n:Int,K.OkK (.int .u32 n)
  v: ∀x,K.OkV x-> ∃y,okB y/\x=bV y
  v' : ∀y,okB y->K.OkV (bV y)
theorem KB.int {K:MK} (B:KB K) {m:KV} (h:KOK K m):IntKeys .u32 m:=⟨fun v hv=>by
  obtain ⟨e,he,rfl⟩:=List.mem_map.1 hv
  exact B.k _ (h.ok e he).1,h.once⟩
theorem KB.get {K:MK} (B:KB K) {m:KV} (h:KOK K m) (k:Value): ∃y,okB y/\(mget m k).getD (bV b0)=bV y:=B.v _ (kok_val h (B.v' _ okB0) k)
theorem KB.un {K:MK} (B:KB K) {m:KV} (h:KOK K m) (k:Value):bV (unB ((mget m k).getD (bV b0)))=(mget m k).getD (bV b0)/\okB (unB ((mget m k).getD (bV b0))):=by
  obtain ⟨y,hy,e⟩:=B.get h k
  rw [e,unB_bV hy];exact ⟨rfl,hy⟩
noncomputable def rowB (m:KV) (l:List Value):List Value:=l.map fun k=>(mget m k).getD (bV b0)
theorem rowB_take {m:KV} {l:List Value} {i:Nat} (h:i<l.length):rowB m (l.take (i+1))=rowB m (l.take i)++ [(mget m (l.getD i undef)).getD (bV b0)]:=by
  unfold rowB
  rw [List.take_add_one,List.getElem?_eq_getElem h,List.map_append,List.getD_eq_getElem?_getD,List.getElem?_eq_getElem h];rfl
theorem rowB_all {K:MK} (B:KB K) {m:KV} (h:KOK K m) {l:List Value} (hl:KeysOf .u32 m l):rowB m l=(allB m).map bV:=by
  unfold rowB allB
  rw [srt_eq h.once hl,List.map_map]
  exact List.map_congr_left fun k _=>((B.un h k).1).symm
theorem allB_ok {K:MK} (B:KB K) {m:KV} (h:KOK K m): ∀b∈allB m,okB b:=by
  intro b hb
  obtain ⟨k,_,rfl⟩:=List.mem_map.1 hb
  exact (B.un h k).2
theorem allB_len {K:MK} (B:KB K) {m:KV} (h:KOK K m):(allB m).length=m.length:=by
  unfold allB
  rw [List.length_map,(srt_keys (B.int h)).len]
theorem wit_rows (l:List BT): ∃y:RK 42,(fun y:RK 42=>vals y.1=l.map bV) y:=
  ⟨⟨.mk 0 (l.map bV) [], fun v hv => by
    simp only [List.append_nil] at hv
    obtain ⟨b,_,rfl⟩:=List.mem_map.1 hv
    exact bV_Ag b⟩,rfl⟩
theorem wit_rowB {K:MK} (B:KB K) {m:KV} (h:KOK K m) (l:List Value): ∃y:RK 42,(fun y:RK 42=>vals y.1=rowB m l) y:=
  ⟨⟨.mk 0 (rowB m l) [], fun v hv => by
    simp only [List.append_nil] at hv
    obtain ⟨k,_,rfl⟩:=List.mem_map.1 hv
    obtain ⟨y,_,e⟩:=B.get h k
    rw [e];exact bV_Ag y⟩,rfl⟩
theorem lastB_ok {K:MK} (B:KB K) {m:KV} (h:KOK K m):okB (lastB m):=by
  unfold lastB
  cases hl:(allB m).getLast? with
  | none=>rw [List.getLastD_eq_getLast?,hl];exact okB0
  | some b=>rw [List.getLastD_eq_getLast?,hl];exact allB_ok B h b (List.mem_of_getLast? hl)
noncomputable def postB (m p:KV) (to:Int) (r:Nat->Int) (poster:Int) (h:Nat->Int) (block:Int):(BT×Int)×KV×KV:=
  if 16<=poster∨1099511627776<block then ((b0,1),m,p)
  else if to<(lastB m).1 2∨block<(lastB m).1 40 then ((b0,11),m,p)
  else if ci ((mget p (.int .u8 0)).getD (.int .u32 0))=4294967295 then ((b0,7),m,p)
  else
    let n:=ci ((mget p (.int .u8 0)).getD (.int .u32 0))
    let b:BT:=(fnL [n,(lastB m).1 2,to,r 0,r 1,r 2,r 3,r 4,r 5,r 6,r 7,r 8,r 9,r 10,r 11,r 12,r 13,r 14,r 15,r 16,r 17,r 18,r 19,r 20,r 21,r 22,r 23,r 24,r 25,r 26,r 27,r 28,r 29,r 30,r 31,poster,h 0,h 1,h 2,h 3,block],false)
    ((b,0),mset m (.int .u32 n) (bV b),mset p (.int .u8 0) (.int .u32 (n+1)))
noncomputable def finB (m:KV) (w a:Int):(BT×Int)×KV:=
  match (allB m).find? fun b=> !b.2 with
  | none=>((b0,10),m)
  | some b=>if openB w (b.1 40) a then ((b0,15),m) else (((b.1,true),0),mset m (.int .u32 (b.1 0)) (bV (b.1,true)))
noncomputable def covB (m:KV) (n i:Int):Int:=
  let b:=unB ((mget m (.int .u32 n)).getD (bV b0))
  if (mget m (.int .u32 n)).isSome=false then 10 else if b.2=false then 11 else if b.1 2<=i then 10 else 0
noncomputable def dropB (m:KV) (l:List BT):KV:=l.foldl (fun m b=>mdel m (.int .u32 (b.1 0))) m
noncomputable def revB (m:KV) (w n a:Int):(List BT×Int)×KV:=
  let b:=unB ((mget m (.int .u32 n)).getD (bV b0))
  if (mget m (.int .u32 n)).isSome=false then (([],10),m) else if b.2=true then (([],11),m) else if openB w (b.1 40) a=false then (([],15),m)
  else (((allB m).filter fun b=> !decide (b.1 0<n),0),dropB m ((allB m).filter fun b=> !decide (b.1 0<n)))
theorem dropB_take {m:KV} {l:List BT} {i:Nat} {b:BT} (h:l[i]? =some b):dropB m (l.take (i+1))=mdel (dropB m (l.take i)) (.int .u32 (b.1 0)):=by
  unfold dropB
  rw [List.take_add_one,h,List.foldl_append];rfl
theorem srt_one {n:Int} {v:Value}:srt .u32 [(.int .u32 n,v)]= [.int .u32 n]:=by
  have hm:MOK [(Value.int .u32 n,v)]:=by unfold MOK;simp
  exact srt_eq hm ⟨by simp,by unfold Rise;simp,fun x hx=>by simp at hx;exact ⟨n,hx⟩⟩
theorem allB_one {n:Int} {b:BT} (hb:okB b):allB [(.int .u32 n,bV b)]= [b]:=by
  unfold allB
  rw [srt_one]
  have:mget [(Value.int .u32 n,bV b)] (.int .u32 n)=some (bV b):=by rw [mget_cons,if_pos rfl]
  simp [this,unB_bV hb]
theorem allB_nil:allB []= []:=by
  unfold allB
  have:srt .u32 []= []:=srt_eq MOK.nil ⟨List.Perm.refl _,List.Pairwise.nil,fun v h=>by cases h⟩
  rw [this];rfl
theorem mset_nil (k v:Value):mset [] k v= [(k,v)]:=by
  unfold mset;simp [mget_nil]
end Go.Sx
namespace Go.Sx
open Go.RowKit
theorem wfW {n:Int} (h:(Lit.int .u64 n).wf=true):W n:=wf_W h
def winB (wi:Int):Int:=if (if (1048576:Int)<wi then (1048576:Int) else wi)>(1:Int) then (if (1048576:Int)<wi then (1048576:Int) else wi) else (1:Int)
theorem winB_in (wi:Int):1<=winB wi/\winB wi<=1048576:=by unfold winB;split<;>split<;>omega
theorem imp_free1 {a:Slot}:Imp [a] [a, .free]:= .same fun p hp=>(sep_free (a:= [a])).2 hp
theorem rows_at {r:RK 42} {l:List BT} (h:vals r.1=l.map bV) {i:Nat} (hi:i<l.length): ∃x0,(vals r.1)[i]? =some (bV x0):=
  ⟨l[i],by rw [h,List.getElem?_map,List.getElem?_eq_getElem hi];rfl⟩
theorem lastB_nil {m:KV} (h:(allB m).length=0):lastB m=b0:=by
  unfold lastB;rw [List.eq_nil_of_length_eq_zero h];rfl
theorem lastB_of {m:KV} {r:RK 42} (h:vals r.1=(allB m).map bV) {i:Nat} (hi:i+1=(allB m).length) {x:BT} (hx:(vals r.1)[i]? =some (bV x)):bV x=bV (lastB m):=by
  rw [h,List.getElem?_map] at hx
  unfold lastB
  rw [List.getLastD_eq_getLast?,List.getLast?_eq_getElem?]
  have:(allB m).length - 1=i:=by omega
  rw [this]
  cases hg:(allB m)[i]? with
  | none=>rw [hg] at hx;cases hx
  | some b=>rw [hg] at hx;injection hx with hx;exact hx.symm
theorem wf32 {n:Int} (h:(Lit.int .u32 n).wf=true):0<=n/\n<=4294967295:=by
  simp only [Lit.wf,Bool.and_eq_true,decide_eq_true_eq] at h
  exact h
theorem wf32' {n:Int} (h0:0<=n) (h1:n<=4294967295):(Lit.int .u32 n).wf=true:=by
  simp only [Lit.wf,Bool.and_eq_true,decide_eq_true_eq]
  exact ⟨h0,h1⟩
theorem wrap32 {n:Int} (h0:0<=n) (h1:n<=4294967295):IntKind.u32.wrap n=n:=by
  simp [IntKind.wrap,IntKind.bits,IntKind.signed];omega
theorem find_at: ∀ {l:List BT} {i:Nat} {b:BT} (_: ∀j c,j<i->l[j]? =some c->c.2=true) (_:l[i]? =some b) (_:b.2=false),l.find? (fun b=> !b.2)=some b
  | [],i,b,_,h,_=>by simp at h
  | a :: l, 0, b, _, h, hb => by
    simp at h;subst h
    simp [hb]
  | a :: l, i + 1, b, ha, h, hb => by
    have h0:a.2=true:=ha 0 a (Nat.succ_pos _) rfl
    rw [List.find?_cons]
    simp only [h0,Bool.not_true]
    exact find_at (fun j c hj hc=>ha (j+1) c (Nat.succ_lt_succ hj) (by simpa using hc)) (by simpa using h) hb
theorem find_no {l:List BT} (h: ∀j c,j<l.length->l[j]? =some c->c.2=true):l.find? (fun b=> !b.2)=none:=by
  rw [List.find?_eq_none]
  intro b hb
  obtain ⟨j,hj⟩:=List.getElem?_of_mem hb
  simp [h j b (List.getElem?_eq_some_iff.1 hj).1 hj]
theorem row_el {r:RK 42} {l:List BT} (h:vals r.1=l.map bV) {i:Nat} {x:BT} (hx:(vals r.1)[i]? =some (bV x)): ∃b,l[i]? =some b/\bV b=bV x:=by
  rw [h,List.getElem?_map] at hx
  cases hl:l[i]? with
  | none=>rw [hl] at hx;cases hx
  | some b=>rw [hl] at hx;injection hx with hx;exact ⟨b,rfl,hx⟩
def F_getKO (k:Nat) {X:Type} (val:X->Value) (Ok:X->Prop):List Value->List Slot->Ctr:=fun vs hs=>⟨X,val,fun _=>hs,fun zx=>rdK k (scells (sarg hs 0)) (voff (varg vs 0))=val zx/\Ok zx⟩
theorem xgetKO {P:Program} {t e:TypeId} {k:Nat} {z:Value} (h:SkT P t e k z) {X:Type} (val:X->Value) (Ok:X->Prop) (r:RK k) (n:Nat) (hx: ∃x0,(vals r.1)[n]? =some (val x0)/\Ok x0):
    OpT P (do pure (.value (←Instr.loadAt e (.pointer (some ⟨vblk (sv r.1),n*k,none⟩))))) [sk e r.1] X val (fun _=> [sk e r.1]) (fun x=>rdK k (scells (sk e r.1)) (n*k)=val x/\Ok x):=by
  obtain ⟨x0,hx,ho0⟩:=hx
  intro R w ho
  obtain ⟨_,w',_,hr,ho',he⟩:=xgetK h r n (val x0) hx R w ho
  exact ⟨x0,w',⟨rdK_row r e hx,ho0⟩,hr,ho',he⟩
theorem wgetKO {e:TypeId} {k:Nat} {X:Type} {val:X->Value} {Ok:X->Prop} {r:RK k} {n:Nat} (hx: ∃x0,(vals r.1)[n]? =some (val x0)/\Ok x0): ∃x,(fun x=>rdK k (scells (sk e r.1)) (n*k)=val x/\Ok x) x:=
  let ⟨x0,h,h'⟩:=hx;⟨x0,rdK_row r e h,h'⟩
theorem egetKO {e:TypeId} {k:Nat} {X:Type} {val:X->Value} {Ok:X->Prop} {r:RK k} {n:Nat} (hx: ∃x0,(vals r.1)[n]? =some (val x0)/\Ok x0) {x:X} (h:rdK k (scells (sk e r.1)) (n*k)=val x/\Ok x):(vals r.1)[n]? =some (val x)/\Ok x:=by
  obtain ⟨x0,h0,_⟩:=hx
  exact ⟨by rw [←h.1,rdK_row r e h0];exact h0,h.2⟩
theorem rows_ok {r:RK 42} {l:List BT} (h:vals r.1=l.map bV) (ho: ∀b∈l,okB b) {i:Nat} (hi:i<l.length): ∃x0,(vals r.1)[i]? =some (bV x0)/\okB x0:=
  ⟨l[i],by rw [h,List.getElem?_map,List.getElem?_eq_getElem hi];rfl,ho _ (List.getElem_mem hi)⟩
theorem row_is {r:RK 42} {l:List BT} (h:vals r.1=l.map bV) (ho: ∀b∈l,okB b) {i:Nat} {x:BT} (hx:(vals r.1)[i]? =some (bV x)/\okB x):l[i]? =some x:=by
  obtain ⟨b,h1,h2⟩:=row_el h hx.1
  rw [h1,bV_inj (ho b (List.mem_of_getElem? h1)) hx.2 h2]
theorem fin_step {l:List BT} {i:Nat} {x:BT} (h: ∀j b,j<i->l[j]? =some b->b.2=true) (hx:l[i]? =some x) (hf:x.2=true) {j:Nat} {b:BT} (hj:j<i+1) (hb:l[j]? =some b):b.2=true:=by
  rcases Nat.lt_or_ge j i with q | q
  · exact h j b q hb
  · have:j=i:=by omega
    subst this
    rw [hx] at hb;injection hb with hb;rw [←hb];exact hf
theorem okB_fin {b:BT} (h:okB b) (t:Bool):okB (b.1,t):=⟨h.n,h.fr,h.to,h.bl,h.rest⟩
end Go.Sx
namespace Go.Sx
open Go.RowKit
def bP (to:Int) (r:Nat->Int) (poster:Int) (h:Nat->Int) (block:Int):BT:=(fnL [0,0,to,r 0,r 1,r 2,r 3,r 4,r 5,r 6,r 7,r 8,r 9,r 10,r 11,r 12,r 13,r 14,r 15,r 16,r 17,r 18,r 19,r 20,r 21,r 22,r 23,r 24,r 25,r 26,r 27,r 28,r 29,r 30,r 31,poster,h 0,h 1,h 2,h 3,block],false)
theorem okBP {to:Int} {r:Nat->Int} {poster:Int} {h:Nat->Int} {block:Int} (h1:(Lit.int .u64 to).wf=true) (h2:(Lit.int .u64 block).wf=true):okB (bP to r poster h block):=⟨rfl,rfl,h1,h2,fnL_rest rfl⟩
theorem lastB_none:lastB []=b0:=by unfold lastB;rw [allB_nil];rfl
theorem postB_nil {to:Int} {r:Nat->Int} {poster:Int} {h:Nat->Int} {block:Int} (h1:poster<16) (h2:block<=1099511627776) (h3:0<=to) (h4:0<=block):
    postB [] [] to r poster h block=((bP to r poster h block,0),[(.int .u32 0,bV (bP to r poster h block))],[(.int .u8 0, .int .u32 1)]):=by
  unfold postB
  rw [lastB_none,if_neg (by omega),if_neg (by show ¬ (to<0∨block<0);omega)]
  have e:ci ((mget [] (Value.int .u8 0)).getD (.int .u32 0))=0:=rfl
  rw [e,if_neg (by omega)]
  simp only [mset_nil]
  rfl
theorem kok_one {K:MK} (B:KB K) {n:Int} {b:BT} (hb:okB b):KOK K [(.int .u32 n,bV b)]:=by
  rw [←mset_nil];exact KOK.nil.set (B.k' n) (B.v' b hb)
theorem finB_one {n:Int} {b:BT} (hb:okB b) (hf:b.2=false) (hn:b.1 0=n) (w a:Int):
    finB [(.int .u32 n,bV b)] w a=if openB w (b.1 40) a then ((b0,15),[(.int .u32 n,bV b)]) else (((b.1,true),0),[(.int .u32 n,bV (b.1,true))]):=by
  have e:mset [(Value.int .u32 n,bV b)] (.int .u32 n) (bV (b.1,true))= [(.int .u32 n,bV (b.1,true))]:=by
    unfold mset;rw [mget_cons,if_pos rfl];simp
  unfold finB
  rw [allB_one hb]
  simp only [List.find?_cons,hf,Bool.not_false]
  rw [hn,e]
theorem revB_one {n:Int} {b:BT} (hb:okB b) (hf:b.2=false) (hn:b.1 0=n) (w a:Int):
    revB [(.int .u32 n,bV b)] w n a=if openB w (b.1 40) a then (([b],0),[]) else (([],15),[(.int .u32 n,bV b)]):=by
  have e:mget [(Value.int .u32 n,bV b)] (.int .u32 n)=some (bV b):=by rw [mget_cons,if_pos rfl]
  have ed:mdel [(Value.int .u32 n,bV b)] (.int .u32 n)= []:=by unfold mdel;simp
  unfold revB
  rw [e,allB_one hb]
  simp only [Option.getD_some,unB_bV hb,hf,Option.isSome_some]
  cases ho:openB w (b.1 40) a
  · simp
  · simp [hn,dropB,ed]
structure One (K:MK) (m:KV) (b:BT):Prop where
  ok:okB b
  n:b.1 0=0
  nf:b.2=false
  eq:m= [(.int .u32 0,bV b)]
  k:KOK K m
theorem One.of {K:MK} (B:KB K) {x:BT×Int} {m p:KV} {to:Int} {r:Nat->Int} {poster:Int} {h:Nat->Int} {block:Int} (h1:poster<16) (h2:block<=1099511627776) (h3:(Lit.int .u64 to).wf=true) (h4:(Lit.int .u64 block).wf=true)
    (e:(x,m,p)=postB [] [] to r poster h block):x=(bP to r poster h block,0)/\One K m (bP to r poster h block):=by
  have q3:=wf64 h3
  have q4:=wf64 h4
  rw [postB_nil h1 h2 q3.1 q4.1] at e
  injection e with e1 e2
  injection e2 with e2 e3
  subst e2
  exact ⟨e1,⟨okBP h3 h4,rfl,rfl,rfl,kok_one B (okBP h3 h4)⟩⟩
theorem One.len {K:MK} {m:KV} {b:BT} (o:One K m b):m.length<=1000:=by rw [o.eq];simp
theorem One.all {K:MK} {m:KV} {b:BT} (o:One K m b):allB m= [b]:=by rw [o.eq];exact allB_one o.ok
theorem One.fin {K:MK} {m:KV} {b:BT} (o:One K m b) (w a:Int) {x:(BT×Int)} {m' :KV} (e:(x,m')=finB m w a):(openB w (b.1 40) a=true/\x=(b0,15)/\m' =m)∨(openB w (b.1 40) a=false/\x=((b.1,true),0)/\m' = [(.int .u32 0,bV (b.1,true))]):=by
  rw [o.eq,finB_one o.ok o.nf o.n] at e
  cases ho:openB w (b.1 40) a with
  | true=>rw [ho,if_pos rfl] at e;injection e with e1 e2;exact .inl ⟨rfl,e1,by rw [e2,o.eq]⟩
  | false=>rw [ho,if_neg (by decide)] at e;injection e with e1 e2;exact .inr ⟨rfl,e1,e2⟩
theorem One.fin_t {K:MK} {m:KV} {b:BT} (o:One K m b) {w a:Int} {x:(BT×Int)} {m' :KV} (e:(x,m')=finB m w a) (ho:openB w (b.1 40) a=true):x=(b0,15)/\m' =m:=by
  rcases o.fin w a e with ⟨_,h⟩ | ⟨h,_⟩
  · exact h
  · rw [ho] at h;cases h
theorem One.fin_f {K:MK} {m:KV} {b:BT} (o:One K m b) {w a:Int} {x:(BT×Int)} {m' :KV} (e:(x,m')=finB m w a) (ho:openB w (b.1 40) a=false):x=((b.1,true),0)/\m' = [(.int .u32 0,bV (b.1,true))]:=by
  rcases o.fin w a e with ⟨h,_⟩ | ⟨_,h⟩
  · rw [ho] at h;cases h
  · exact h
theorem One.rev {K:MK} {m:KV} {b:BT} (o:One K m b) (w a:Int):revB m w 0 a=if openB w (b.1 40) a then (([b],0),[]) else (([],15),m):=by
  rw [o.eq];exact revB_one o.ok o.nf o.n w a
theorem open_t {w b a:Int} (h:a<b+w):openB w b a=true:=by unfold openB;exact decide_eq_true h
theorem open_f {w b a:Int} (h: ¬ (a<b+w)):openB w b a=false:=by unfold openB;exact decide_eq_false h
end Go.Sx
namespace Go.Sx
open Go.RowKit
abbrev nk (b:BT):Value:= .int .u32 (b.1 0)
structure MB (K:MK) (m:KV) (l:List BT):Prop where
  kok:KOK K m
  ok: ∀b∈l,okB b
  up:l.Pairwise fun a b=>a.1 0<b.1 0
  get: ∀k v,mget m k=some v↔ ∃b∈l,k=nk b/\v=bV b
theorem MB.nil {K:MK}:MB K [] []:=⟨KOK.nil,(fun b h=>by cases h),List.Pairwise.nil,fun k v=>by rw [mget_nil];simp⟩
theorem MB.keys {K:MK} {m:KV} {l:List BT} (h:MB K m l):KeysOf .u32 m (l.map nk):=by
  have up:Rise (l.map nk):=by unfold Rise;rw [List.pairwise_map];exact h.up
  have nd:(l.map nk).Nodup:=up.imp fun {a b} hab e=>by rw [e] at hab;omega
  refine ⟨?_,up,fun v hv=> ?_⟩
  · refine (List.perm_ext_iff_of_nodup nd h.kok.once).2 fun k=> ?_
    constructor
    · intro hk
      obtain ⟨b,hb,rfl⟩:=List.mem_map.1 hk
      exact List.mem_map_of_mem (f:=(·.1)) (mget_mem ((h.get _ _).2 ⟨b,hb,rfl,rfl⟩))
    · intro hk
      obtain ⟨e,he,rfl⟩:=List.mem_map.1 hk
      obtain ⟨b,hb,e1,_⟩:=(h.get _ _).1 (mget_of_mem h.kok.once he)
      rw [e1];exact List.mem_map_of_mem hb
  · obtain ⟨b,_,rfl⟩:=List.mem_map.1 hv
    exact ⟨_,rfl⟩
theorem MB.at {K:MK} {m:KV} {l:List BT} (h:MB K m l) {b:BT} (hb:b∈l):mget m (nk b)=some (bV b):=(h.get _ _).2 ⟨b,hb,rfl,rfl⟩
theorem MB.all {K:MK} {m:KV} {l:List BT} (h:MB K m l):allB m=l:=by
  unfold allB
  rw [srt_eq h.kok.once h.keys,List.map_map]
  have: ∀b∈l,((fun k=>unB ((mget m k).getD (bV b0)))∘nk) b=b:=fun b hb=>by
    simp only [Function.comp]
    rw [h.at hb,Option.getD_some,unB_bV (h.ok b hb)]
  rw [List.map_congr_left this,List.map_id']
theorem MB.len {K:MK} {m:KV} {l:List BT} (h:MB K m l):m.length=l.length:=by
  have:=h.keys.len
  simpa using this.symm
theorem MB.inj {K:MK} {m:KV} {l:List BT} (h:MB K m l) {a b:BT} (ha:a∈l) (hb:b∈l) (e:a.1 0=b.1 0):a=b:=by
  have h1:=h.at ha
  have h2:=h.at hb
  rw [show nk a=nk b by unfold nk;rw [e],h2] at h1
  injection h1 with h1
  exact (bV_inj (h.ok b hb) (h.ok a ha) h1).symm
theorem MB.add {K : MK} (B : KB K) {m : KV} {l : List BT} (h : MB K m l) {b : BT} (hb : okB b) (hn : ∀ a ∈ l, a.1 0 < b.1 0) : MB K (mset m (nk b) (bV b)) (l ++ [b]) := by
  refine ⟨h.kok.set (B.k' _) (B.v' b hb),fun a ha=> ?_,?_,fun k v=> ?_⟩
  · rcases List.mem_append.1 ha with ha | ha
    · exact h.ok a ha
    · simp at ha;subst ha;exact hb
  · rw [List.pairwise_append]
    exact ⟨h.up,by simp,fun a ha c hc=>by simp at hc;subst hc;exact hn a ha⟩
  · rw [mget_set]
    by_cases e:k=nk b
    · rw [if_pos e]
      constructor
      · intro hv;injection hv with hv;exact ⟨b,by simp,e,hv.symm⟩
      · rintro ⟨c,hc,e1,rfl⟩
        rcases List.mem_append.1 hc with hc | hc
        · have:=hn c hc
          rw [e1] at e
          injection e with _ e;omega
        · simp at hc;subst hc;rfl
    · rw [if_neg e,h.get]
      constructor
      · rintro ⟨c,hc,e1,e2⟩;exact ⟨c,List.mem_append_left _ hc,e1,e2⟩
      · rintro ⟨c,hc,e1,e2⟩
        rcases List.mem_append.1 hc with hc | hc
        · exact ⟨c,hc,e1,e2⟩
        · simp at hc;subst hc;exact absurd e1 e
theorem MB.put {K : MK} (B : KB K) {m : KV} {l : List BT} (h : MB K m l) {i : Nat} {b c : BT} (hi : l[i]? = some b) (hc : okB c) (hn : c.1 0 = b.1 0) : MB K (mset m (nk b) (bV c)) (l.set i c) := by
  have hlt:=(List.getElem?_eq_some_iff.1 hi).1
  have hbm:=List.mem_of_getElem? hi
  have hk:nk c=nk b:=by unfold nk;rw [hn]
  have mem: ∀a,a∈l.set i c↔a=c∨(a∈l/\a.1 0≠b.1 0):=by
    intro a
    constructor
    · intro ha
      obtain ⟨j,hj⟩:=List.getElem?_of_mem ha
      rw [List.getElem?_set] at hj
      by_cases e:i=j
      · subst e
        rw [if_pos rfl,if_pos hlt] at hj
        injection hj with hj;exact .inl hj.symm
      · rw [if_neg e] at hj
        refine .inr ⟨List.mem_of_getElem? hj,fun e2=> ?_⟩
        obtain ⟨g1,g2⟩:=List.getElem?_eq_some_iff.1 hi
        obtain ⟨g3,g4⟩:=List.getElem?_eq_some_iff.1 hj
        rcases Nat.lt_or_gt_of_ne e with q | q
        · have:=List.pairwise_iff_getElem.1 h.up i j g1 g3 q;rw [g2,g4] at this;omega
        · have:=List.pairwise_iff_getElem.1 h.up j i g3 g1 q;rw [g2,g4] at this;omega
    · rintro (rfl | ⟨ha,hne⟩)
      · exact List.mem_iff_getElem?.2 ⟨i,by rw [List.getElem?_set,if_pos rfl,if_pos hlt]⟩
      · obtain ⟨j,hj⟩:=List.getElem?_of_mem ha
        refine List.mem_iff_getElem?.2 ⟨j,?_⟩
        rw [List.getElem?_set,if_neg (fun e=> ?_)];· exact hj
        subst e
        rw [hi] at hj;injection hj with hj;subst hj;exact hne rfl
  refine ⟨h.kok.set (B.k' _) (B.v' c hc),fun a ha=> ?_,?_,fun k v=> ?_⟩
  · rcases (mem a).1 ha with rfl | ⟨ha,_⟩
    · exact hc
    · exact h.ok a ha
  · rw [List.pairwise_iff_getElem]
    intro j k hj hk' hjk
    have hu:=List.pairwise_iff_getElem.1 h.up j k (by simpa using hj) (by simpa using hk') hjk
    obtain ⟨g1,g2⟩:=List.getElem?_eq_some_iff.1 hi
    rw [List.getElem_set,List.getElem_set]
    split
    · rename_i e;subst e
      rw [if_neg (by omega)];rw [g2] at hu;omega
    · split
      · rename_i e;subst e;rw [g2] at hu;omega
      · exact hu
  · rw [mget_set]
    by_cases e:k=nk b
    · rw [if_pos e]
      constructor
      · intro hv;injection hv with hv;exact ⟨c,(mem c).2 (.inl rfl),by rw [hk];exact e,hv.symm⟩
      · rintro ⟨a,ha,e1,rfl⟩
        rcases (mem a).1 ha with rfl | ⟨_,hne⟩
        · rfl
        · rw [e1] at e;injection e with _ e;exact absurd e hne
    · rw [if_neg e,h.get]
      constructor
      · rintro ⟨a,ha,e1,e2⟩
        exact ⟨a,(mem a).2 (.inr ⟨ha,fun e3=>e (by rw [e1];unfold nk;rw [e3])⟩),e1,e2⟩
      · rintro ⟨a,ha,e1,e2⟩
        rcases (mem a).1 ha with rfl | ⟨ha,_⟩
        · exact absurd (e1.trans hk) e
        · exact ⟨a,ha,e1,e2⟩
theorem mget_drop {m : KV} (hm : MOK m) : ∀ (g : List BT) (k : Value), mget (dropB m g) k = (if ∃ b ∈ g, k = nk b then none else mget m k) /\ MOK (dropB m g) := by
  intro g
  induction g generalizing m with
  | nil=>intro k;exact ⟨by simp [dropB],hm⟩
  | cons a g ih =>
    intro k
    have:=ih (m:=mdel m (nk a)) (hm.del _) k
    refine ⟨?_,this.2⟩
    show mget (dropB (mdel m (nk a)) g) k=_
    rw [this.1,mget_del hm]
    by_cases e:k=nk a
    · simp [e]
    · by_cases e2: ∃b∈g,k=nk b
      · rw [if_pos e2,if_pos]
        obtain ⟨b,hb,e3⟩:=e2
        exact ⟨b,List.mem_cons_of_mem _ hb,e3⟩
      · rw [if_neg e2,if_neg e,if_neg]
        rintro ⟨b,hb,e3⟩
        rcases List.mem_cons.1 hb with rfl | hb
        · exact e e3
        · exact e2 ⟨b,hb,e3⟩
theorem MB.drop {K : MK} {m : KV} {l : List BT} (h : MB K m l) (n : Int) : MB K (dropB m (l.filter fun b => !decide (b.1 0 < n))) (l.filter fun b => decide (b.1 0 < n)) := by
  have hd:=fun k=>mget_drop h.kok.once (l.filter fun b=> !decide (b.1 0<n)) k
  refine ⟨⟨(hd undef).2,fun e he=> ?_⟩,fun b hb=>h.ok b (List.mem_filter.1 hb).1,h.up.filter _,fun k v=> ?_⟩
  · have:=mget_of_mem (hd undef).2 he
    rw [(hd e.1).1] at this
    split at this
    · cases this
    · exact h.kok.ok e (mget_mem this)
  · rw [(hd k).1]
    constructor
    · intro hv
      split at hv
      · cases hv
      · rename_i hno
        obtain ⟨b,hb,e1,e2⟩:=(h.get _ _).1 hv
        refine ⟨b,List.mem_filter.2 ⟨hb,?_⟩,e1,e2⟩
        by_cases q:b.1 0<n
        · simpa using q
        · exact absurd ⟨b,List.mem_filter.2 ⟨hb,by simpa using q⟩,e1⟩ hno
    · rintro ⟨b,hb,e1,e2⟩
      obtain ⟨hb1,hb2⟩:=List.mem_filter.1 hb
      rw [if_neg]
      · exact (h.get _ _).2 ⟨b,hb1,e1,e2⟩
      · rintro ⟨c,hc,e3⟩
        obtain ⟨_,hc2⟩:=List.mem_filter.1 hc
        rw [e1] at e3
        injection e3 with _ e3
        simp at hb2 hc2;omega
end Go.Sx
namespace Go.Sx
open Go.RowKit
def ssetK (s:Slot) (o:Nat) (v:Value):Slot:=match s with | .blk b (.cells cs t f)=> .blk b (.cells (putAll cs o v.cells.toList) t f) | s=>s
def RK.set {k : Nat} (r : RK k) (n : Nat) (v : Value) (hv : Ag k v) : RK k := ⟨r.1.set n v, by
  obtain ⟨r,hr⟩:=r
  cases r with
  | nil=>trivial
  | mk b vs ex =>
    intro x hx
    rcases List.mem_append.1 hx with hx | hx
    · rcases List.mem_or_eq_of_mem_set hx with hx | rfl
      · exact hr x (List.mem_append_left _ hx)
      · exact hv
    · exact hr x (List.mem_append_right _ hx)⟩
theorem RK.vals_set {k:Nat} (r:RK k) (n:Nat) (v:Value) (hv:Ag k v):vals (r.set n v hv).1=(vals r.1).set n v:=Sx.vals_set r.1 n v
theorem RK.sv_set {k:Nat} (r:RK k) (n:Nat) (v:Value) (hv:Ag k v):sv (r.set n v hv).1=sv r.1:=by show sv (r.1.set n v)=sv r.1;cases r.1<;>simp [Row.set,sv]
theorem putAll_set {k:Nat} {l:List Value} (h: ∀v∈l,Ag k v) {n:Nat} (hn:n<l.length) {v:Value} (hv:Ag k v):putAll (fl l).toArray (n*k) v.cells.toList=(fl (l.set n v)).toArray:=by
  have h1:l=l.take n++l[n]::l.drop (n+1):=by rw [←List.drop_eq_getElem_cons hn,List.take_append_drop]
  have ht: ∀x∈l.take n,Ag k x:=fun x hx=>h x (List.mem_of_mem_take hx)
  have e1:fl l=fl (l.take n)++l[n].cells.toList++fl (l.drop (n+1)):=by
    conv=>lhs;rw [h1]
    rw [fl_append,fl_cons,List.append_assoc]
  have hl:(fl (l.take n)).length=n*k:=by rw [fl_length ht,List.length_take,Nat.min_eq_left (by omega)]
  have:=putAll_eq v.cells.toList (fl (l.take n)) l[n].cells.toList (fl (l.drop (n+1))) (by rw [(h _ (List.getElem_mem hn)).len,hv.len])
  rw [hl] at this
  rw [e1,this]
  congr 1
  rw [List.set_eq_take_append_cons_drop,if_pos hn,fl_append,fl_cons,List.append_assoc]
theorem ssetK_eq {k:Nat} (r:RK k) (e:TypeId) {n:Nat} (hn:n<(vals r.1).length) {v:Value} (hv:Ag k v):ssetK (sk e r.1) (n*k) v=sk e (r.set n v hv).1:=by
  obtain ⟨r,hr⟩:=r
  cases r with
  | nil=>simp [vals] at hn
  | mk b vs ex =>
    simp only [vals] at hn
    show Slot.blk b (.cells (putAll (fl (vs++ex)).toArray (n*k) v.cells.toList) e (0,0))= .blk b (.cells (fl (vs.set n v++ex)).toArray e (0,0))
    rw [putAll_set hr (by simp;omega) hv,List.set_append_left _ _ hn]
def F_putK:List Value->List Slot->Ctr:=fun vs hs=>⟨Unit,fun _=>undef,fun _=> [ssetK (sarg hs 0) (voff (varg vs 0)) (varg vs 1)],fun _=>True⟩
theorem xputK {P : Program} {t e : TypeId} {k : Nat} {z : Value} (h : SkT P t e k z) (r : RK k) (n : Nat) (v : Value) (hv : Ag k v) (h2 : ∀ u ∈ v.cells.toList, u.oneCell' = true) (hn : n < (vals r.1).length) :
    OpT P (do Instr.storeAt e (.pointer (some ⟨vblk (sv r.1),n*k,none⟩)) v;pure .skip) [sk e r.1] Unit (fun _=>undef) (fun _=> [ssetK (sk e r.1) (n*k) v]) (fun _=>True):=by
  obtain ⟨r,hr⟩:=r
  intro R w ho
  cases r with
  | nil=>simp [vals] at hn
  | mk b vs ex =>
    simp only [vals] at hn
    have hb:w.heap[b]? =some (.cells (fl (vs++ex)).toArray e (0,0)):=ho.block (i:=0) rfl
    have hc: ∀j,j<v.cells.toList.length->(w.cell? ⟨b,n*k+0+j,none⟩).isSome=true:=by
      intro j hj
      rw [hv.len] at hj
      have hlen:n*k+0+j<(fl (vs++ex)).length:=by
        rw [fl_length hr,List.length_append]
        have:(n+1)*k<=(vs.length+ex.length)*k:=Nat.mul_le_mul_right _ (by omega)
        rw [Nat.succ_mul] at this;omega
      have hlen' :n*k+j<(fl (vs++ex)).length:=by omega
      simp [World.cell?,hb,hlen']
    have hst:=run_storeCells_cells (P:=P) b (n*k) v.cells.toList 0 w hc (fun j hj=>frozen_of_row w b _ _ e hb) h2
    simp only [Nat.add_zero] at hst
    have hh:=heap_setCells_same b e v.cells.toList (n*k) w _ hb
    refine ⟨(),w.setCells b (n*k) v.cells.toList,trivial, .inr ⟨?_,rfl⟩,?_,ext_setCells b _ _ w⟩
    · have hsz:(sizeOf e).run P w= .ok k w:=h.size w
      have hk:v.cells.size=k:=by have:=hv.len;simpa using this
      simp [Instr.storeAt,Instr.sureAddr,vblk,sv,storeVar,Sem.run_bind,hsz,hk,hst]
    · have:=ho.set (i:=0) (b:=b) rfl hh (fun c hc=>heap_setCells_other' b _ _ w c hc)
      refine (congrArg (fun H=>Own H R (w.setCells b (n*k) v.cells.toList)) ?_).mp this
      funext i
      cases i<;>rfl
def vdropK (k:Nat) (v:Value) (m:Nat):Value:=match v with | .slice a l c=>sliced a m l c k | v=>v
theorem xdropK {P:Program} {t e:TypeId} {n:Nat} {z:Value} (h:SkT P t e n z) (he:P.elem t=e) (r:Row) (k:IntKind) (i:Int) (h0:0<=i) (h1:i<=((vals r).length:Nat)):
    PureRun P (do pure (.value (←Instr.sliceAt t (sv r) (some (.int k i)) none none))) (vdropK n (sv r) i.toNat):=by
  intro w
  have hu:P.underlying t=some (.slice (P.elem t)):=by rw [he];exact h.und
  have hs:=h.size w
  rw [←he] at hs
  have key: ∀ (a:Option Addr) (l c:Nat),sv r= .slice a l c->i<=(l:Int)->(Instr.sliceAt t (sv r) (some (.int k i)) none none).run P w= .ok (vdropK n (sv r) i.toNat) w:=by
    intro a l c hv hc
    rw [hv,run_sliceAt_slice w t _ _ _ _ hu,run_slice_l w t a l c hu k i h0 hc,hs]
    rfl
  have hk:(Instr.sliceAt t (sv r) (some (.int k i)) none none).run P w= .ok (vdropK n (sv r) i.toNat) w:=by
    cases r with
    | nil=>exact key none 0 0 rfl h1
    | mk b vs ex=>exact key _ _ _ rfl h1
  rw [Sem.run_bind,hk];rfl
theorem xtakeK {P:Program} {t e:TypeId} {n:Nat} {z:Value} (h:SkT P t e n z) (he:P.elem t=e) (r:Row) (k:IntKind) (i:Int) (h0:0<=i) (h1:i<=((vals r).length:Nat)):
    PureRun P (do pure (.value (←Instr.sliceAt t (sv r) none (some (.int k i)) none))) (vtake (sv r) i.toNat):=by
  intro w
  have hu:P.underlying t=some (.slice (P.elem t)):=by rw [he];exact h.und
  have hs:=h.size w
  rw [←he] at hs
  have key: ∀ (a:Option Addr) (l c:Nat),sv r= .slice a l c->(a.map (·.add 0)=a)->i<=(c:Int)->(Instr.sliceAt t (sv r) none (some (.int k i)) none).run P w= .ok (vtake (sv r) i.toNat) w:=by
    intro a l c hv ha hc
    rw [hv,run_sliceAt_slice w t _ _ _ _ hu,run_slice_h w t a l c hu k i h0 hc,hs]
    show Result.ok (sliced a 0 i.toNat c n) w=_
    unfold sliced vtake
    simp [ha]
  have hk:(Instr.sliceAt t (sv r) none (some (.int k i)) none).run P w= .ok (vtake (sv r) i.toNat) w:=by
    cases r with
    | nil =>
      simp only [vals,List.length_nil] at h1
      exact key none 0 0 rfl rfl (by omega)
    | mk b vs ex =>
      simp only [vals] at h1
      exact key _ _ _ rfl (by simp [Addr.add]) (by omega)
  rw [Sem.run_bind,hk];rfl
theorem zero_fl {k:Nat} {z:Value} (hz:Ag k z) (hk:0<k) (n:Nat):(Builtin.zeroCells z.cells n).toList=fl (List.replicate n z):=by
  have hzk:z.cells.size=k:=by have:=hz.len;simpa using this
  have ha: ∀v∈List.replicate n z,Ag k v:=fun v hv=>by rw [List.eq_of_mem_replicate hv];exact hz
  apply List.ext_getElem?
  intro i
  rcases Nat.lt_or_ge i (n*k) with q | q
  · have hq:i/k<n:=Nat.div_lt_of_lt_mul (by rw [Nat.mul_comm];exact q)
    have hm:i%k<k:=Nat.mod_lt _ hk
    have h1:(List.replicate n z)[i/k]? =some z:=by rw [List.getElem?_replicate,if_pos hq]
    have h2:z.cells.toList[i%k]? =some z.cells[i%k]:=by simp [hzk,hm]
    have h3:=fl_get ha h1 h2
    rw [Nat.div_add_mod' i k] at h3
    rw [h3]
    simp [Builtin.zeroCells,hzk,q,hm]
  · rw [List.getElem?_eq_none (by simp [Builtin.zeroCells,hzk];exact q),List.getElem?_eq_none (by rw [fl_length ha];simpa using q)]
def sclrK (z:Value) (s:Slot) (o n:Nat):Slot:=match s with | .blk b (.cells cs t f)=> .blk b (.cells (putAll cs o (Builtin.zeroCells z.cells n).toList) t f) | s=>s
def Row.clr (z:Value) (m:Nat):Row->Row
  | .nil=> .nil
  | .mk b vs ex=> .mk b (vs.take m++List.replicate (vs.length - m) z) ex
def RK.clr {k : Nat} (r : RK k) (m : Nat) (z : Value) (hz : Ag k z) : RK k := ⟨r.1.clr z m, by
  obtain ⟨r,hr⟩:=r
  cases r with
  | nil=>trivial
  | mk b vs ex =>
    intro x hx
    rcases List.mem_append.1 hx with hx | hx
    · rcases List.mem_append.1 hx with hx | hx
      · exact hr x (List.mem_append_left _ (List.mem_of_mem_take hx))
      · rw [List.eq_of_mem_replicate hx];exact hz
    · exact hr x (List.mem_append_right _ hx)⟩
theorem RK.vals_clr {k:Nat} (r:RK k) (m:Nat) (z:Value) (hz:Ag k z):vals (r.clr m z hz).1=(vals r.1).take m++List.replicate ((vals r.1).length - m) z:=by
  obtain ⟨r,hr⟩:=r
  cases r<;>simp [RK.clr,Row.clr,vals]
theorem RK.sv_clr {k:Nat} (r:RK k) (m:Nat) (hm:m<=(vals r.1).length) (z:Value) (hz:Ag k z):sv (r.clr m z hz).1=sv r.1:=by
  obtain ⟨r,hr⟩:=r
  cases r with
  | nil=>rfl
  | mk b vs ex =>
    simp only [vals] at hm
    simp only [RK.clr,Row.clr,sv,List.length_append,List.length_take,List.length_replicate,Nat.min_eq_left hm]
    congr 1<;>omega
theorem putAll_many {k:Nat} {l:List Value} (h: ∀v∈l,Ag k v) {m n:Nat} (hn:m+n<=l.length) {u:List Value} (hu: ∀v∈u,Ag k v) (hl:u.length=n):putAll (fl l).toArray (m*k) (fl u)=(fl (l.take m++u++l.drop (m+n))).toArray:=by
  have ht: ∀x∈l.take m,Ag k x:=fun x hx=>h x (List.mem_of_mem_take hx)
  have hd: ∀x∈(l.drop m).take n,Ag k x:=fun x hx=>h x (List.mem_of_mem_drop (List.mem_of_mem_take hx))
  have h1:l=l.take m++(l.drop m).take n++l.drop (m+n):=by
    rw [List.append_assoc,←List.drop_drop,List.take_append_drop,List.take_append_drop]
  have e1:fl l=fl (l.take m)++fl ((l.drop m).take n)++fl (l.drop (m+n)):=by
    conv=>lhs;rw [h1]
    rw [fl_append,fl_append]
  have hll:(fl (l.take m)).length=m*k:=by rw [fl_length ht,List.length_take,Nat.min_eq_left (by omega)]
  have:=putAll_eq (fl u) (fl (l.take m)) (fl ((l.drop m).take n)) (fl (l.drop (m+n))) (by rw [fl_length hd,fl_length hu,hl,List.length_take,List.length_drop,Nat.min_eq_left (by omega)])
  rw [hll] at this
  rw [e1,this,fl_append,fl_append]
theorem sclrK_eq {k:Nat} (r:RK k) (e:TypeId) {m:Nat} (hm:m<=(vals r.1).length) {z:Value} (hz:Ag k z) (hk:0<k):sclrK z (sk e r.1) (m*k) ((vals r.1).length - m)=sk e (r.clr m z hz).1:=by
  obtain ⟨r,hr⟩:=r
  cases r with
  | nil=>rfl
  | mk b vs ex =>
    simp only [vals] at hm
    show Slot.blk b (.cells (putAll (fl (vs++ex)).toArray (m*k) (Builtin.zeroCells z.cells (vs.length - m)).toList) e (0,0))= .blk b (.cells (fl ((vs.take m++List.replicate (vs.length - m) z)++ex)).toArray e (0,0))
    rw [zero_fl hz hk,putAll_many (n:=vs.length - m) hr (by simp;omega) (fun v hv=>by rw [List.eq_of_mem_replicate hv];exact hz) (by simp),List.take_append_of_le_length hm]
    congr 4
    have:m+(vs.length - m)=vs.length:=by omega
    rw [this,List.drop_append_of_le_length (Nat.le_refl _),List.drop_length,List.nil_append]
def F_clrK (z:Value) (k:Nat) (m:Nat):List Value->List Slot->Ctr:=fun vs hs=>⟨Unit,fun _=> .tuple #[],fun _=> [sclrK z (sarg hs 0) (m*k) (vlen (varg vs 0))],fun _=>True⟩
theorem vlen_dropK {k:Nat} (r:Row) (m:Nat):vlen (vdropK k (sv r) m)=(vals r).length - m:=by cases r<;>simp [vdropK,sv,sliced,vlen,vals]
theorem xclrK {P : Program} {t e : TypeId} {k : Nat} {z : Value} (h : SkT P t e k z) (hz : Ag k z) (h2 : ∀ u ∈ z.cells.toList, u.oneCell' = true) (hzv : ∀ w, (zeroValue e).run P w = .ok z w) (hk : 0 < k) (ty : TypeId) (r : RK k) (m : Nat) (hm : m <= (vals r.1).length) :
    OpT P (do pure (.value (←Builtin.clear_ #[t] ty #[vdropK k (sv r.1) m]))) [sk e r.1] Unit (fun _=> .tuple #[]) (fun _=> [sclrK z (sk e r.1) (m*k) (vlen (vdropK k (sv r.1) m))]) (fun _=>True):=by
  obtain ⟨r,hr⟩:=r
  rw [vlen_dropK]
  intro R w ho
  cases r with
  | nil=>exact ⟨(),w,trivial, .inl (by simp [Builtin.clear_,run_underlying h.und,vdropK,sv,sliced]),ho,Ext.refl w⟩
  | mk b vs ex =>
    simp only [vals] at hm ⊢
    have hb:w.heap[b]? =some (.cells (fl (vs++ex)).toArray e (0,0)):=ho.block (i:=0) rfl
    obtain ⟨n,hn⟩: ∃n,n=vs.length - m:=⟨_,rfl⟩
    rw [←hn]
    cases n with
    | zero =>
      have hs:sclrK z (sk e (.mk b vs ex)) (m*k) 0=sk e (.mk b vs ex):=by
        have:(Builtin.zeroCells z.cells 0).toList= []:=by simp [Builtin.zeroCells]
        simp only [sclrK,sk,this,putAll]
      rw [hs]
      refine ⟨(),w,trivial, .inl ?_,ho,Ext.refl w⟩
      simp only [vdropK,sv,sliced,←hn]
      by_cases hcap:vs.length+ex.length=m
      · simp [Builtin.clear_,run_underlying h.und,hcap]
      · simp [Builtin.clear_,run_underlying h.und,hcap]
    | succ n =>
      have hlt:m<vs.length:=by omega
      have hz1:(Builtin.zeroCells z.cells (n+1)).toList=fl (List.replicate (n+1) z):=zero_fl hz hk _
      have hzl:(Builtin.zeroCells z.cells (n+1)).toList.length=(n+1)*k:=by rw [hz1,fl_length (fun v hv=>by rw [List.eq_of_mem_replicate hv];exact hz)];simp
      have hc: ∀j,j<(Builtin.zeroCells z.cells (n+1)).toList.length->(w.cell? ⟨b,m*k+0+j,none⟩).isSome=true:=by
        intro j hj
        rw [hzl] at hj
        have hlen' :m*k+j<(fl (vs++ex)).length:=by
          rw [fl_length hr,List.length_append]
          have e1:(m+(n+1))*k<=(vs.length+ex.length)*k:=Nat.mul_le_mul_right _ (by omega)
          rw [Nat.add_mul] at e1;omega
        simp [World.cell?,hb,hlen']
      have h1: ∀v∈(Builtin.zeroCells z.cells (n+1)).toList,v.oneCell' =true:=by
        intro v hv
        rw [hz1] at hv
        unfold fl at hv
        obtain ⟨u,hu,hv⟩:=List.mem_flatMap.1 hv
        rw [List.eq_of_mem_replicate hu] at hv
        exact h2 v hv
      have hst:=run_storeCells_cells (P:=P) b (m*k) (Builtin.zeroCells z.cells (n+1)).toList 0 w hc (fun j hj=>frozen_of_row w b _ _ e hb) h1
      simp only [Nat.add_zero] at hst
      have hh:=heap_setCells_same b e (Builtin.zeroCells z.cells (n+1)).toList (m*k) w _ hb
      refine ⟨(),w.setCells b (m*k) (Builtin.zeroCells z.cells (n+1)).toList,trivial, .inl ?_,?_,ext_setCells b _ _ w⟩
      · have hcap: ¬ (vs.length+ex.length=m):=by omega
        simp only [vdropK,sv,sliced,←hn,hcap,if_false]
        simp [Builtin.clear_,run_underlying h.und,hzv,Addr.add_lit,hst,Result.andThen]
      · have:=ho.set (i:=0) (b:=b) rfl hh (fun c hc=>heap_setCells_other' b _ _ w c hc)
        refine (congrArg (fun H=>Own H R _) ?_).mp this
        funext i
        cases i<;>rfl
def RK.take {k : Nat} (r : RK k) (m : Nat) : RK k := ⟨r.1.take m, by
  obtain ⟨r,hr⟩:=r
  cases r with
  | nil=>trivial
  | mk b vs ex =>
    intro x hx
    refine hr x ?_
    rcases List.mem_append.1 hx with hx | hx
    · exact List.mem_append_left _ (List.mem_of_mem_take hx)
    · rcases List.mem_append.1 hx with hx | hx
      · exact List.mem_append_left _ (List.mem_of_mem_drop hx)
      · exact List.mem_append_right _ hx⟩
theorem sk_take {k:Nat} (r:RK k) (e:TypeId) (m:Nat):sk e (r.take m).1=sk e r.1:=by
  obtain ⟨r,hr⟩:=r
  cases r with
  | nil=>rfl
  | mk b vs ex=>simp [RK.take,Row.take,sk,←List.append_assoc]
end Go.Sx
namespace Go.Sx
open Go.RowKit
abbrev kp (n:Int):BT->Bool:=fun b=> !decide (b.1 0<n)
structure DF (l:List BT) (n:Int) (i j:Nat) (r:RK 42):Prop where
  ij:i<j
  jl:j<=l.length
  len:(vals r.1).length=l.length
  cnt:i=((l.take j).filter (kp n)).length
  a:(vals r.1).take i=((l.take j).filter (kp n)).map bV
  b:(vals r.1).drop j=(l.drop j).map bV
theorem DF.start {l:List BT} {n:Int} {r:RK 42} (h:vals r.1=l.map bV) {i:Nat} {b:BT} (hb:l[i]? =some b) (hp:b.1 0<n) (hn: ∀j c,j<i->l[j]? =some c-> ¬ (c.1 0<n)):DF l n i (i+1) r:=by
  have hlt:=(List.getElem?_eq_some_iff.1 hb).1
  have hf:(l.take (i+1)).filter (kp n)=l.take i:=by
    rw [List.take_add_one,hb,List.filter_append]
    have h1:(l.take i).filter (kp n)=l.take i:=List.filter_eq_self.2 fun c hc=>by
      obtain ⟨j,hj⟩:=List.getElem?_of_mem hc
      have hji:j<i:=by have:=(List.getElem?_eq_some_iff.1 hj).1;simp at this;omega
      rw [List.getElem?_take_of_lt hji] at hj
      simpa [kp] using hn j c hji hj
    rw [h1]
    simp [kp,hp]
  refine ⟨Nat.lt_succ_self i,hlt,by rw [h,List.length_map],?_,?_,?_⟩
  · rw [hf,List.length_take,Nat.min_eq_left (by omega)]
  · rw [hf,h,List.map_take]
  · rw [h,List.map_drop]
theorem DF.el {l:List BT} {n:Int} {i j:Nat} {r:RK 42} (d:DF l n i j r) (ho: ∀b∈l,okB b) (hj:j<l.length): ∃x0,(vals r.1)[j]? =some (bV x0)/\okB x0:=by
  refine ⟨l[j],?_,ho _ (List.getElem_mem hj)⟩
  have:=congrArg (fun l=>l[0]?) d.b
  simp only [List.getElem?_drop,Nat.add_zero,List.getElem?_map] at this
  rw [this,List.getElem?_eq_getElem hj];rfl
theorem DF.is {l:List BT} {n:Int} {i j:Nat} {r:RK 42} (d:DF l n i j r) (ho: ∀b∈l,okB b) {x:BT} (hx:(vals r.1)[j]? =some (bV x)/\okB x) (hj:j<l.length):l[j]? =some x:=by
  have:=congrArg (fun l=>l[0]?) d.b
  simp only [List.getElem?_drop,Nat.add_zero,List.getElem?_map] at this
  rw [hx.1,List.getElem?_eq_getElem hj] at this
  simp only [Option.map_some,Option.some.injEq] at this
  rw [List.getElem?_eq_getElem hj,bV_inj hx.2 (ho _ (List.getElem_mem hj)) this]
theorem DF.skip {l:List BT} {n:Int} {i j:Nat} {r:RK 42} (d:DF l n i j r) {x:BT} (hx:l[j]? =some x) (hp:x.1 0<n):DF l n i (j+1) r:=by
  have hlt:=(List.getElem?_eq_some_iff.1 hx).1
  have hf:(l.take (j+1)).filter (kp n)=(l.take j).filter (kp n):=by
    rw [List.take_add_one,hx,List.filter_append];simp [kp,hp]
  refine ⟨Nat.lt_succ_of_lt d.ij,hlt,d.len,by rw [hf];exact d.cnt,by rw [hf];exact d.a,?_⟩
  have:=congrArg (List.drop 1) d.b
  simpa [List.drop_drop] using this
theorem DF.keep {l:List BT} {n:Int} {i j:Nat} {r:RK 42} (d:DF l n i j r) {x:BT} (hx:l[j]? =some x) (hp: ¬ (x.1 0<n)):DF l n (i+1) (j+1) (r.set i (bV x) (bV_Ag x)):=by
  have hlt:=(List.getElem?_eq_some_iff.1 hx).1
  have hij:=d.ij
  have hl:=d.len
  have hf:(l.take (j+1)).filter (kp n)=(l.take j).filter (kp n)++ [x]:=by
    rw [List.take_add_one,hx,List.filter_append];simp [kp,hp]
  refine ⟨Nat.succ_le_succ hij,hlt,by rw [RK.vals_set,List.length_set];exact hl,?_,?_,?_⟩
  · rw [hf,List.length_append,←d.cnt];rfl
  · rw [RK.vals_set,hf,List.map_append,←d.a]
    rw [List.take_add_one,List.getElem?_set_self (by omega)]
    rw [List.take_set_of_le (Nat.le_refl i)];rfl
  · rw [RK.vals_set,List.drop_set_of_lt (by omega)]
    have:=congrArg (List.drop 1) d.b
    simpa [List.drop_drop] using this
def bz:Value:=bV b0
theorem bz_Ag:Ag 42 bz:=bV_Ag b0
theorem DF.done {l:List BT} {n:Int} {i j:Nat} {r:RK 42} (d:DF l n i j r) (hj:j=l.length):i<=(vals r.1).length/\vals ((r.clr i bz bz_Ag).take i).1=(l.filter (kp n)).map bV:=by
  subst hj
  have hij:=d.ij
  have hl:=d.len
  refine ⟨by omega,?_⟩
  show vals (Row.take (r.clr i bz bz_Ag).1 i)=_
  have ha:=d.a
  rw [vals_take,RK.vals_clr,List.take_append_of_le_length (by rw [List.length_take];omega),List.take_take,Nat.min_self,ha,List.take_length]
theorem del_val {r:RK 42} {i:Nat} (h:i<=(vals r.1).length):vtake (sv r.1) i=sv ((r.clr i bz bz_Ag).take i).1:=by
  rw [←RK.sv_clr r i h bz bz_Ag]
  exact vtake_sv _ _ (by rw [RK.vals_clr];simp;omega)
theorem del_slot {r:RK 42} {e:TypeId} {i:Nat} (h:i<=(vals r.1).length):sclrK bz (sk e r.1) (i*42) (vlen (vdropK 42 (sv r.1) i))=sk e ((r.clr i bz bz_Ag).take i).1:=by
  rw [vlen_dropK,sclrK_eq r e h bz_Ag (by decide),sk_take]
def IxP (l:List BT) (n:Int) (x:Int):Prop:=(x= -1/\ ∀b∈l,¬ (b.1 0<n))∨ ∃i b,x=((i:Nat):Int)/\l[i]? =some b/\b.1 0<n/\ ∀j c,j<i->l[j]? =some c-> ¬ (c.1 0<n)
theorem ix_wit (n : Int) : ∀ l : List BT, ∃ x, (fun x => IxP l n x) x
  | []=>⟨-1, .inl ⟨rfl,fun b h=>by cases h⟩⟩
  | a :: l => by
    by_cases ha:a.1 0<n
    · exact ⟨((0:Nat):Int), .inr ⟨0,a,rfl,rfl,ha,fun j c h=>absurd h (Nat.not_lt_zero _)⟩⟩
    · obtain ⟨x,hx⟩:=ix_wit n l
      rcases hx with ⟨rfl,h⟩ | ⟨i,b,rfl,h1,h2,h3⟩
      · exact ⟨-1, .inl ⟨rfl,fun b hb=>by
          rcases List.mem_cons.1 hb with rfl | hb
          · exact ha
          · exact h b hb⟩⟩
      · refine ⟨(((i+1:Nat):Nat):Int), .inr ⟨i+1,b,rfl,by simpa using h1,h2,fun j c hj hc=> ?_⟩⟩
        cases j with
        | zero=>simp at hc;subst hc;exact ha
        | succ j=>exact h3 j c (by omega) (by simpa using hc)
theorem kp_all {l:List BT} {n:Int} (h: ∀b∈l,¬ (b.1 0<n)):l.filter (kp n)=l:=List.filter_eq_self.2 fun b hb=>by simpa [kp] using h b hb
theorem ix_bd {l:List BT} {n x:Int} (h:IxP l n x): -1<=x/\x<l.length:=by
  rcases h with ⟨rfl,_⟩ | ⟨i,b,rfl,hb,_⟩
  · omega
  · have:=(List.getElem?_eq_some_iff.1 hb).1;omega
theorem filt_ok {K:MK} (B:KB K) {m:KV} (h:KOK K m) {n:Int}: ∀b∈(allB m).filter (kp n),okB b:=fun b hb=>allB_ok B h b (List.mem_filter.1 hb).1
theorem ix_step {l:List BT} {n:Int} {i:Nat} {x:BT} (h: ∀j c,j<i->l[j]? =some c-> ¬ (c.1 0<n)) (hx:l[i]? =some x) (hp: ¬ (x.1 0<n)): ∀j c,j<i+1->l[j]? =some c-> ¬ (c.1 0<n):=by
  intro j c hj hc
  rcases Nat.lt_or_ge j i with q | q
  · exact h j c q hc
  · have:j=i:=by omega
    subst this
    rw [hx] at hc;injection hc with hc;rw [←hc];exact hp
theorem ix_all {l:List BT} {n:Int} {i:Nat} (h: ∀j c,j<i->l[j]? =some c-> ¬ (c.1 0<n)) (hi:i=l.length) {b:BT} (hb:b∈l): ¬ (b.1 0<n):=by
  obtain ⟨j,hj⟩:=List.getElem?_of_mem hb
  exact h j b (by rw [hi];exact (List.getElem?_eq_some_iff.1 hj).1) hj
end Go.Sx
namespace Go.Sx
open Go.RowKit
def endF (fs:List (Nat->Int)):Int:=(fs.getLastD fun _=>0) 2
structure Chn (fs:List (Nat->Int)):Prop where
  fr: ∀ (i:Nat) (f:Nat->Int),fs[i]? =some f->f 1=endF (fs.take i)
  to: ∀ (i:Nat) (f:Nat->Int),fs[i]? =some f->f 1<=f 2
  bl: ∀ (i:Nat) (f g:Nat->Int),fs[i]? =some f->fs[i+1]? =some g->f 40<=g 40
theorem Chn.nil:Chn []:=⟨fun i f h=>by simp at h,fun i f h=>by simp at h,fun i f g h=>by simp at h⟩
theorem Chn.take {fs:List (Nat->Int)} (h:Chn fs) (j:Nat):Chn (fs.take j):=by
  have at_: ∀ (i:Nat) (f:Nat->Int),(fs.take j)[i]? =some f->i<j/\fs[i]? =some f:=by
    intro i f hf
    have hi:i<j:=by have:=(List.getElem?_eq_some_iff.1 hf).1;simp at this;omega
    rw [List.getElem?_take_of_lt hi] at hf
    exact ⟨hi,hf⟩
  refine ⟨fun i f hf=> ?_,fun i f hf=>h.to i f (at_ i f hf).2,fun i f g hf hg=>h.bl i f g (at_ i f hf).2 (at_ _ g hg).2⟩
  obtain ⟨hi,hf'⟩:=at_ i f hf
  rw [List.take_take,Nat.min_eq_left (by omega)]
  exact h.fr i f hf'
theorem Chn.add {fs:List (Nat->Int)} (h:Chn fs) {g:Nat->Int} (h1:g 1=endF fs) (h2:g 1<=g 2) (h3:(fs.getLastD fun _=>0) 40<=g 40):Chn (fs++ [g]):=by
  refine ⟨fun i f hf=> ?_,fun i f hf=> ?_,fun i f k hf hk=> ?_⟩
  · rcases Nat.lt_or_ge i fs.length with q | q
    · rw [List.getElem?_append_left q] at hf
      rw [List.take_append_of_le_length (by omega)];exact h.fr i f hf
    · have hi:i=fs.length:=by have:=(List.getElem?_eq_some_iff.1 hf).1;simp at this;omega
      subst hi
      simp at hf;subst hf
      rw [List.take_append_of_le_length (Nat.le_refl _),List.take_length];exact h1
  · rcases Nat.lt_or_ge i fs.length with q | q
    · rw [List.getElem?_append_left q] at hf;exact h.to i f hf
    · have hi:i=fs.length:=by have:=(List.getElem?_eq_some_iff.1 hf).1;simp at this;omega
      subst hi
      simp at hf;subst hf;exact h2
  · rcases Nat.lt_or_ge (i+1) fs.length with q | q
    · rw [List.getElem?_append_left (by omega)] at hf
      rw [List.getElem?_append_left q] at hk
      exact h.bl i f k hf hk
    · have hi:i+1=fs.length:=by have:=(List.getElem?_eq_some_iff.1 hk).1;simp at this;omega
      rw [hi] at hk
      simp at hk;subst hk
      rw [List.getElem?_append_left (by omega)] at hf
      rw [List.getLastD_eq_getLast?,List.getLast?_eq_getElem?,show fs.length - 1=i by omega,hf] at h3
      exact h3
noncomputable abbrev nxt (p:KV):Int:=ci ((mget p (.int .u8 0)).getD (.int .u32 0))
structure CS (K Kp:MK) (m p:KV) (l fin:List BT):Prop where
  mb:MB K m l
  kp:KOK Kp p
  nx: ∀b∈l,b.1 0<nxt p
  fl:fin.length<=l.length
  fb: ∀ (i:Nat) (b:BT),l[i]? =some b->b.2=decide (i<fin.length)
  fe: ∀i:Nat,i<fin.length->l[i]? =fin[i]?
  ch:Chn (l.map (·.1))
theorem CS.start {K Kp:MK}:CS K Kp [] [] [] []:=⟨MB.nil,KOK.nil,fun b h=>(by cases h),Nat.le_refl _,fun i b h=>by simp at h,fun i h=>by simp at h,Chn.nil⟩
structure KP (Kp:MK):Prop where
  k:Kp.OkK (.int .u8 0)
  v: ∀n:Int,(Lit.int .u32 n).wf=true->Kp.OkV (.int .u32 n)
  v' : ∀x,Kp.OkV x-> ∃n:Int,(Lit.int .u32 n).wf=true/\x= .int .u32 n
theorem KP.nxt {Kp:MK} (P:KP Kp) {p:KV} (h:KOK Kp p):(Lit.int .u32 (nxt p)).wf=true:=by
  obtain ⟨n,hn,e⟩:=P.v' _ (kok_val h (z:= .int .u32 0) (P.v 0 rfl) (.int .u8 0))
  unfold Sx.nxt
  rw [e];exact hn
theorem lastB_map {K:MK} {m:KV} {l:List BT} (h:MB K m l):(lastB m).1=(l.map (·.1)).getLastD fun _=>0:=by
  unfold lastB
  rw [h.all,List.getLastD_eq_getLast?,List.getLastD_eq_getLast?,List.getLast?_map]
  cases l.getLast? <;>rfl
theorem CS.lend {K Kp:MK} {m p:KV} {l fin:List BT} (c:CS K Kp m p l fin):(lastB m).1 2=endF (l.map (·.1)):=by rw [lastB_map c.mb];rfl
theorem CS.post {K Kp:MK} (B:KB K) (P:KP Kp) {m p:KV} {l fin:List BT} (c:CS K Kp m p l fin) {x:BT×Int} {m' p' :KV} {to:Int} {r:Nat->Int} {poster:Int} {h:Nat->Int} {block:Int} (hto:(Lit.int .u64 to).wf=true) (hbl:(Lit.int .u64 block).wf=true)
    (e:(x,m',p')=postB m p to r poster h block): ∃l',CS K Kp m' p' l' fin/\l'.length<=l.length+1:=by
  have triv:m' =m->p' =p-> ∃l',CS K Kp m' p' l' fin/\l'.length<=l.length+1:=by
    intro e1 e2
    subst e1 e2
    exact ⟨l,c,Nat.le_succ _⟩
  unfold postB at e
  split at e
  · injection e with e0 e;injection e with e1 e2;exact triv e1 e2
  split at e
  · injection e with e0 e;injection e with e1 e2;exact triv e1 e2
  split at e
  · injection e with e0 e;injection e with e1 e2;exact triv e1 e2
  rename_i g1 g2 g3
  injection e with e0 e
  injection e with e1 e2
  have hw:=P.nxt c.kp
  have hw' :=wf32 hw
  have hl:=lastB_ok B c.mb.kok
  obtain ⟨b,hb⟩: ∃b:BT,b=(fnL [nxt p,(lastB m).1 2,to,r 0,r 1,r 2,r 3,r 4,r 5,r 6,r 7,r 8,r 9,r 10,r 11,r 12,r 13,r 14,r 15,r 16,r 17,r 18,r 19,r 20,r 21,r 22,r 23,r 24,r 25,r 26,r 27,r 28,r 29,r 30,r 31,poster,h 0,h 1,h 2,h 3,block],false):=⟨_,rfl⟩
  have hok:okB b:=by rw [hb];exact ⟨hw,hl.to,hto,hbl,fnL_rest rfl⟩
  have hn:b.1 0=nxt p:=by rw [hb];rfl
  have h1:b.1 1=(lastB m).1 2:=by rw [hb];rfl
  have h2:b.1 2=to:=by rw [hb];rfl
  have h40:b.1 40=block:=by rw [hb];rfl
  have hf:b.2=false:=by rw [hb]
  have e1' :m' =mset m (nk b) (bV b):=by rw [e1];unfold nk;rw [hn,hb]
  have hnx:nxt p' =nxt p+1:=by unfold nxt;rw [e2,mget_set,if_pos rfl];rfl
  refine ⟨l++ [b],⟨by rw [e1'];exact c.mb.add B hok (fun a ha=>by rw [hn];exact c.nx a ha),?_,?_,by rw [List.length_append];have:=c.fl;omega,fun i a ha=> ?_,fun i hi=> ?_,?_⟩,by simp⟩
  · rw [e2]
    exact c.kp.set P.k (P.v _ (wf32' (n:=nxt p+1) (by omega) (by have:nxt p≠4294967295:=g3;omega)))
  · intro a ha
    rw [hnx]
    rcases List.mem_append.1 ha with ha | ha
    · have:=c.nx a ha;omega
    · simp at ha;subst ha;omega
  · rcases Nat.lt_or_ge i l.length with q | q
    · rw [List.getElem?_append_left q] at ha;exact c.fb i a ha
    · have hi:i=l.length:=by have:=(List.getElem?_eq_some_iff.1 ha).1;simp at this;omega
      subst hi
      simp at ha;subst ha
      rw [hf]
      have:=c.fl
      exact (decide_eq_false (by omega)).symm
  · rw [List.getElem?_append_left (by have:=c.fl;omega)];exact c.fe i hi
  · rw [List.map_append]
    refine c.ch.add ?_ ?_ ?_
    · show b.1 1=_;rw [h1];exact c.lend
    · show b.1 1<=b.1 2;rw [h1,h2];omega
    · show _<=b.1 40;rw [h40,←lastB_map c.mb];omega
theorem CS.fin {K Kp : MK} (B : KB K) {m p : KV} {l fin : List BT} (c : CS K Kp m p l fin) {w a : Int} {x : BT × Int} {m' : KV} (e : (x, m') = finB m w a) : (x.2 ≠ 0 /\ m' = m) ∨ (x.2 = 0 /\ ∃ l', l'.length = l.length /\ CS K Kp m' p l' (fin ++ [x.1])) := by
  unfold finB at e
  rw [c.mb.all] at e
  cases hf:l.find? (fun b=> !b.2) with
  | none=>rw [hf] at e;injection e with e1 e2;exact .inl ⟨by rw [e1];decide,e2⟩
  | some b =>
    rw [hf] at e
    simp only at e
    split at e
    · injection e with e1 e2;exact .inl ⟨by rw [e1];decide,e2⟩
    · injection e with e1 e2
      refine .inr ⟨by rw [e1],?_⟩
      have hbf:b.2=false:=by have:=List.find?_some hf;simpa using this
      obtain ⟨hp,us,bs,hl,hno⟩:=List.find?_eq_some_iff_append.1 hf
      have hlen:us.length=fin.length:=by
        have hi:l[us.length]? =some b:=by rw [hl];simp
        have h1:=c.fb _ _ hi
        rw [hbf] at h1
        have h2:fin.length<=us.length:=by
          have:=of_decide_eq_false h1.symm;omega
        rcases Nat.lt_or_ge fin.length us.length with q | q
        · have hj:l[fin.length]? =some us[fin.length]:=by rw [hl,List.getElem?_append_left q,List.getElem?_eq_getElem q]
          have h3:=c.fb _ _ hj
          have h4:=hno _ (List.getElem_mem q)
          simp at h4
          rw [h4] at h3
          simp at h3
        · omega
      have hi:l[fin.length]? =some b:=by rw [hl,←hlen];simp
      have hlt:=(List.getElem?_eq_some_iff.1 hi).1
      have hbok:=c.mb.ok b (List.mem_of_getElem? hi)
      have hx:x.1=(b.1,true):=by rw [e1]
      rw [hx]
      refine ⟨l.set fin.length (b.1,true),by simp,by rw [e2];exact c.mb.put B hi (okB_fin hbok true) rfl,c.kp,fun d hd=> ?_,by simp;omega,fun i d hd=> ?_,fun i hi' => ?_,?_⟩
      · rcases List.mem_or_eq_of_mem_set hd with hd | rfl
        · exact c.nx d hd
        · exact c.nx b (List.mem_of_getElem? hi)
      · rw [List.getElem?_set] at hd
        split at hd
        · rename_i q
          subst q
          injection hd with hd;subst hd
          simp
        · rename_i q
          rw [c.fb i d hd]
          simp only [List.length_append,List.length_singleton]
          rw [Bool.eq_iff_iff,decide_eq_true_iff,decide_eq_true_iff];omega
      · simp only [List.length_append,List.length_singleton] at hi'
        rw [List.getElem?_set]
        by_cases q:fin.length=i
        · subst q
          rw [if_pos rfl,if_pos hlt];simp
        · rw [if_neg q,List.getElem?_append_left (by omega)]
          exact c.fe i (by omega)
      · rw [List.map_set]
        have:(l.map (·.1)).set fin.length b.1=l.map (·.1):=by
          apply List.ext_getElem?
          intro i
          rw [List.getElem?_set]
          split
          · rename_i q
            subst q
            rw [if_pos (by simpa using hlt),List.getElem?_map,hi];rfl
          · rfl
        rw [this];exact c.ch
theorem filter_take : ∀ {l : List BT} (_ : l.Pairwise fun a b => a.1 0 < b.1 0) (n : Int), ∃ j, j <= l.length /\ l.filter (fun b => decide (b.1 0 < n)) = l.take j /\ ∀ i b, l[i]? = some b -> (i < j ↔ b.1 0 < n)
  | [],_,n=>⟨0,Nat.le_refl _,rfl,fun i b h=>by simp at h⟩
  | a :: l, h, n => by
    rw [List.pairwise_cons] at h
    by_cases ha:a.1 0<n
    · obtain ⟨j,h1,h2,h3⟩:=filter_take h.2 n
      refine ⟨j+1,by simp;omega,by rw [List.filter_cons_of_pos (by simpa using ha),h2,List.take_succ_cons],fun i b hb=> ?_⟩
      cases i with
      | zero=>simp at hb;subst hb;simp [ha]
      | succ i=>rw [←h3 i b (by simpa using hb)];omega
    · refine ⟨0,Nat.zero_le _,?_,fun i b hb=> ?_⟩
      · rw [List.take_zero,List.filter_eq_nil_iff]
        intro b hb
        simp only [decide_eq_true_eq]
        rcases List.mem_cons.1 hb with rfl | hb
        · exact ha
        · have:=h.1 b hb;omega
      · have: ¬b.1 0<n:=by
          cases i with
          | zero=>simp at hb;subst hb;exact ha
          | succ i =>
            have:=h.1 b (List.mem_of_getElem? (by simpa using hb:l[i]? =some b));omega
        simp [this]
theorem CS.rev {K Kp:MK} {m p:KV} {l fin:List BT} (c:CS K Kp m p l fin) (w n a:Int): ∃l',l'.length<=l.length/\CS K Kp (revB m w n a).2 p l' fin:=by
  unfold revB
  simp only
  split
  · exact ⟨l,Nat.le_refl _,c⟩
  split
  · exact ⟨l,Nat.le_refl _,c⟩
  split
  · exact ⟨l,Nat.le_refl _,c⟩
  rename_i g1 g2 g3
  rw [c.mb.all]
  obtain ⟨j,hj,hf,hij⟩:=filter_take c.mb.up n
  have hmb:=c.mb.drop n
  obtain ⟨b,hb,hbn,hbv⟩: ∃b∈l,b.1 0=n/\b.2=false:=by
    cases hg:mget m (.int .u32 n) with
    | none=>rw [hg] at g1;exact absurd rfl g1
    | some v =>
      obtain ⟨b,hb,e1,e2⟩:=(c.mb.get _ _).1 hg
      rw [hg,e2,Option.getD_some,unB_bV (c.mb.ok b hb)] at g2
      injection e1 with _ e1
      exact ⟨b,hb,e1.symm,by simpa using g2⟩
  obtain ⟨i0,hi0⟩:=List.getElem?_of_mem hb
  have h0:fin.length<=i0:=by
    have:=c.fb i0 b hi0
    rw [hbv] at this
    have:=of_decide_eq_false this.symm;omega
  have hfin:fin.length<=j:=by
    rcases Nat.lt_or_ge j fin.length with q | q
    · have hlt:j<l.length:=by have:=c.fl;omega
      have h1:l[j]? =some l[j]:=List.getElem?_eq_getElem hlt
      have h2:=(hij j _ h1)
      have hi0l:=(List.getElem?_eq_some_iff.1 hi0).1
      have h3:=List.pairwise_iff_getElem.1 c.mb.up j i0 hlt hi0l (by omega)
      rw [(List.getElem?_eq_some_iff.1 hi0).2,hbn] at h3
      have:=h2.2 h3;omega
    · exact q
  refine ⟨l.take j,by rw [List.length_take];omega,?_⟩
  rw [hf] at hmb
  have at_: ∀ (i:Nat) (d:BT),(l.take j)[i]? =some d->l[i]? =some d:=by
    intro i d hd
    have hi:i<j:=by have:=(List.getElem?_eq_some_iff.1 hd).1;simp at this;omega
    rwa [List.getElem?_take_of_lt hi] at hd
  refine ⟨hmb,c.kp,fun d hd=>c.nx d (List.mem_of_mem_take hd),by rw [List.length_take];have:=c.fl;omega,fun i d hd=>c.fb i d (at_ i d hd),fun i hi=> ?_,by rw [List.map_take];exact c.ch.take j⟩
  rw [List.getElem?_take_of_lt (by omega)];exact c.fe i hi
end Go.Sx
namespace Go.Sx
open Go.RowKit
def hOK (f:Nat->Int):Prop:= ∀i,32<=i->f i=0
theorem l32_at (f:Nat->Int) (i:Nat) (hi:i<32):(l32 f).getD i 0=f i:=by
  have hi' :i=0∨i=1∨i=2∨i=3∨i=4∨i=5∨i=6∨i=7∨i=8∨i=9∨i=10∨i=11∨i=12∨i=13∨i=14∨i=15∨i=16∨i=17∨i=18∨i=19∨i=20∨i=21∨i=22∨i=23∨i=24∨i=25∨i=26∨i=27∨i=28∨i=29∨i=30∨i=31:=by omega
  rcases hi' with rfl | rfl | rfl | rfl | rfl | rfl | rfl | rfl | rfl | rfl | rfl | rfl | rfl | rfl | rfl | rfl | rfl | rfl | rfl | rfl | rfl | rfl | rfl | rfl | rfl | rfl | rfl | rfl | rfl | rfl | rfl | rfl<;>rfl
theorem hOK_ext {f g:Nat->Int} (hf:hOK f) (hg:hOK g) (h:hV f=hV g):f=g:=by
  funext i
  rcases Nat.lt_or_ge i 32 with q | q
  · rw [←l32_at f i q,←l32_at g i q,l32_inj h]
  · rw [hf i q,hg i q]
theorem list32 {α:Type} {l:List α} (h:l.length=32): ∃c0 c1 c2 c3 c4 c5 c6 c7 c8 c9 c10 c11 c12 c13 c14 c15 c16 c17 c18 c19 c20 c21 c22 c23 c24 c25 c26 c27 c28 c29 c30 c31,l= [c0,c1,c2,c3,c4,c5,c6,c7,c8,c9,c10,c11,c12,c13,c14,c15,c16,c17,c18,c19,c20,c21,c22,c23,c24,c25,c26,c27,c28,c29,c30,c31]:=by
  match l,h with
  | [c0,c1,c2,c3,c4,c5,c6,c7,c8,c9,c10,c11,c12,c13,c14,c15,c16,c17,c18,c19,c20,c21,c22,c23,c24,c25,c26,c27,c28,c29,c30,c31],_=>exact ⟨c0,c1,c2,c3,c4,c5,c6,c7,c8,c9,c10,c11,c12,c13,c14,c15,c16,c17,c18,c19,c20,c21,c22,c23,c24,c25,c26,c27,c28,c29,c30,c31,rfl⟩
theorem opens_hash {P:Program} {t e:TypeId} (hu:P.underlying t=some (.array 32 e)) (he:P.underlying e=some (.int .u8)) (hc:P.cellsOf e=1):Opens P t 32 hV hOK:=by
  intro H enc W base sp held fuel cs y hl h
  obtain ⟨xs,m,_,_,_,hlen,hx⟩:=DataW.trod_array hu h
  have one: ∀ (i:Nat) (c:Value),i<32->cs[i]? =some c-> ∃n,c= .int .u8 n:=by
    intro i c hi hci
    have h1:=hx i hi
    rw [hc,Nat.mul_one] at h1
    have h2:(cs.drop i).take 1= [c]:=by
      have hlt:=(List.getElem?_eq_some_iff.1 hci).1
      rw [List.drop_eq_getElem_cons hlt]
      simp [(List.getElem?_eq_some_iff.1 hci).2]
    rw [h2] at h1
    have h3: ∃x,xs[i]? =some x:=⟨xs[i]'(by omega),List.getElem?_eq_getElem (by omega)⟩
    obtain ⟨x,hx'⟩:=h3
    rw [hx'] at h1
    obtain ⟨n,h4,_,_⟩:=DataW.trod_int he h1
    exact ⟨n,by simpa using h4⟩
  obtain ⟨c0,c1,c2,c3,c4,c5,c6,c7,c8,c9,c10,c11,c12,c13,c14,c15,c16,c17,c18,c19,c20,c21,c22,c23,c24,c25,c26,c27,c28,c29,c30,c31,rfl⟩:=list32 hl
  obtain ⟨n0,rfl⟩:=one 0 _ (by decide) rfl
  obtain ⟨n1,rfl⟩:=one 1 _ (by decide) rfl
  obtain ⟨n2,rfl⟩:=one 2 _ (by decide) rfl
  obtain ⟨n3,rfl⟩:=one 3 _ (by decide) rfl
  obtain ⟨n4,rfl⟩:=one 4 _ (by decide) rfl
  obtain ⟨n5,rfl⟩:=one 5 _ (by decide) rfl
  obtain ⟨n6,rfl⟩:=one 6 _ (by decide) rfl
  obtain ⟨n7,rfl⟩:=one 7 _ (by decide) rfl
  obtain ⟨n8,rfl⟩:=one 8 _ (by decide) rfl
  obtain ⟨n9,rfl⟩:=one 9 _ (by decide) rfl
  obtain ⟨n10,rfl⟩:=one 10 _ (by decide) rfl
  obtain ⟨n11,rfl⟩:=one 11 _ (by decide) rfl
  obtain ⟨n12,rfl⟩:=one 12 _ (by decide) rfl
  obtain ⟨n13,rfl⟩:=one 13 _ (by decide) rfl
  obtain ⟨n14,rfl⟩:=one 14 _ (by decide) rfl
  obtain ⟨n15,rfl⟩:=one 15 _ (by decide) rfl
  obtain ⟨n16,rfl⟩:=one 16 _ (by decide) rfl
  obtain ⟨n17,rfl⟩:=one 17 _ (by decide) rfl
  obtain ⟨n18,rfl⟩:=one 18 _ (by decide) rfl
  obtain ⟨n19,rfl⟩:=one 19 _ (by decide) rfl
  obtain ⟨n20,rfl⟩:=one 20 _ (by decide) rfl
  obtain ⟨n21,rfl⟩:=one 21 _ (by decide) rfl
  obtain ⟨n22,rfl⟩:=one 22 _ (by decide) rfl
  obtain ⟨n23,rfl⟩:=one 23 _ (by decide) rfl
  obtain ⟨n24,rfl⟩:=one 24 _ (by decide) rfl
  obtain ⟨n25,rfl⟩:=one 25 _ (by decide) rfl
  obtain ⟨n26,rfl⟩:=one 26 _ (by decide) rfl
  obtain ⟨n27,rfl⟩:=one 27 _ (by decide) rfl
  obtain ⟨n28,rfl⟩:=one 28 _ (by decide) rfl
  obtain ⟨n29,rfl⟩:=one 29 _ (by decide) rfl
  obtain ⟨n30,rfl⟩:=one 30 _ (by decide) rfl
  obtain ⟨n31,rfl⟩:=one 31 _ (by decide) rfl
  exact ⟨fnL [n0,n1,n2,n3,n4,n5,n6,n7,n8,n9,n10,n11,n12,n13,n14,n15,n16,n17,n18,n19,n20,n21,n22,n23,n24,n25,n26,n27,n28,n29,n30,n31],rfl,fun i hi=>by unfold fnL;rw [List.getD_eq_getElem?_getD,List.getElem?_eq_none (by simpa using hi)];rfl⟩
end Go.Sx
namespace Go.Sx
open Go.RowKit
theorem row_cellK {k:Nat} (r:RK k) (e:TypeId) {n j:Nat} {x c:Value} (hx:(vals r.1)[n]? =some x) (hj:x.cells.toList[j]? =some c):(scells (sk e r.1))[n*k+j]? =some c:=by
  obtain ⟨r,hr⟩:=r
  cases r with
  | nil=>simp [vals] at hx
  | mk b vs ex =>
    simp only [vals] at hx
    have hn:n<vs.length:=by
      rcases Nat.lt_or_ge n vs.length with q | q
      · exact q
      · rw [List.getElem?_eq_none q] at hx;cases hx
    have h1:(vs++ex)[n]? =some x:=by rw [List.getElem?_append_left hn,hx]
    have:=fl_get hr h1 hj
    simpa [sk,scells] using this
theorem xgetKC {P:Program} {e:TypeId} {k:Nat} (te:TypeId) (ha: ∀w,(isAgg te).run P w= .ok false w) {X:Type} (val:X->Value) (r:RK k) (n j:Nat) (hx: ∃x0,∃v,(vals r.1)[n]? =some v/\v.cells.toList[j]? =some (val x0)):
    OpT P (do pure (.value (←Instr.loadAt te (.pointer (some ⟨vblk (sv r.1),n*k+j,none⟩))))) [sk e r.1] X val (fun _=> [sk e r.1]) (fun x=>(scells (sk e r.1))[n*k+j]? =some (val x)):=by
  obtain ⟨x0,v,hx,hj⟩:=hx
  obtain ⟨r,hr⟩:=r
  intro R w ho
  cases r with
  | nil=>simp [vals] at hx
  | mk b vs ex =>
    have hb:w.heap[b]? =some (.cells (fl (vs++ex)).toArray e (0,0)):=ho.block (i:=0) rfl
    have hc:=row_cellK (e:=e) (⟨.mk b vs ex,hr⟩:RK k) hx hj
    refine ⟨x0,w,hc, .inl ?_,ho,Ext.refl w⟩
    have h1:w.cell? ⟨b,n*k+j,none⟩=some (val x0):=by
      rw [World.cell?,hb];exact hc
    simp [Instr.loadAt,Instr.sureAddr,vblk,sv,loadVar,Sem.run_bind,ha,h1]
theorem wgetKC {e:TypeId} {k:Nat} {X:Type} {val:X->Value} {r:RK k} {n j:Nat} (hx: ∃x0,∃v,(vals r.1)[n]? =some v/\v.cells.toList[j]? =some (val x0)): ∃x,(fun x=>(scells (sk e r.1))[n*k+j]? =some (val x)) x:=
  let ⟨x0,_,h,h'⟩:=hx;⟨x0,row_cellK r e h h'⟩
theorem egetKC {e:TypeId} {k:Nat} {X:Type} {val:X->Value} {r:RK k} {n j:Nat} {v c:Value} (hx:(vals r.1)[n]? =some v) (hj:v.cells.toList[j]? =some c) {x:X} (h:(scells (sk e r.1))[n*k+j]? =some (val x)):val x=c:=by
  rw [row_cellK r e hx hj] at h;injection h with h;exact h.symm
def LS (K Kp:MK) (n:Nat) (i:Nat) (m p:KV) (L:List Ent) (fin:RK 42):Prop:=i<=n/\List.length L<=50*i/\ ∃l fl,CS K Kp m p l fl/\vals fin.1=fl.map bV/\l.length<=i
theorem LS.start {K Kp:MK} {n:Nat}:LS K Kp n 0 [] [] [] (RK.nil 42):=⟨Nat.zero_le _,Nat.le_refl _,[],[],CS.start,rfl,Nat.le_refl _⟩
end Go.Sx
set_option linter.unusedVariables false
namespace Go.Sx
open Go.RowKit
theorem Und.trans {b:Nat} {m m' m'' :KV} {E F:List Ent} (h:Und b m m' E) (g:Und b m' m'' F):Und b m m'' (E++F):=fun m2 h2 e2=>by
  obtain ⟨a1,a2⟩:=g m2 h2 e2
  rw [undoB_app]
  exact h _ a1 a2
def Dm (K:MK) (E:Nat->KV->Value->Ent) (b:Nat) (m m' :KV) (L L' :List Ent) (k:Nat):Prop:=
  ∃Es:List Ent,L' =L++Es/\Es.length<=k/\Und b m m' Es/\ ∀e∈Es,∃a key,e=E b a key/\K.OkK key/\KOK K a
theorem Dm.refl {K:MK} {E:Nat->KV->Value->Ent} {b:Nat} {m:KV} {L:List Ent} {k:Nat}:Dm K E b m m L L k:=⟨[],(List.append_nil _).symm,Nat.zero_le _,Und.nil b m,fun e h=>by cases h⟩
theorem Dm.one {K:MK} {E:Nat->KV->Value->Ent} {b:Nat} (hE:EntOK b (E b)) {m m' :KV} {L L' :List Ent} {key:Value} (hk:K.OkK key) (hm:KOK K m) (ho: ∀k,k≠key->mget m' k=mget m k) (hL:L' =L++ [E b m key]):Dm K E b m m' L L' 1:=
  ⟨[E b m key],hL,Nat.le_refl _,(Und.nil b m).snoc (hE.b _ _) (by rw [hE.was,hE.key]) (fun k q=>ho k (by rw [hE.key] at q;exact q)),fun e h=>by simp at h;subst h;exact ⟨_,_,rfl,hk,hm⟩⟩
theorem Dm.set {K:MK} {E:Nat->KV->Value->Ent} {b:Nat} (hE:EntOK b (E b)) {m m' :KV} {L L' :List Ent} {key v:Value} (hk:K.OkK key) (hm:KOK K m) (h:m' =mset m key v/\L' =L++ [E b m key]):Dm K E b m m' L L' 1:=
  Dm.one hE hk hm (fun k q=>by rw [h.1,mget_set,if_neg q]) h.2
theorem Dm.drop {K:MK} {E:Nat->KV->Value->Ent} {b:Nat} (hE:EntOK b (E b)) {m m' :KV} {L L' :List Ent} {key:Value} (hk:K.OkK key) (hm:KOK K m) (h1:m' =mdel m key) (h2:L' =if (mget m key).isSome then L++ [E b m key] else L):Dm K E b m m' L L' 1:=by
  by_cases hs:(mget m key).isSome=true
  · rw [if_pos hs] at h2
    exact Dm.one hE hk hm (fun k q=>by rw [h1,mget_del hm.once,if_neg q]) h2
  · rw [if_neg hs] at h2
    rw [h1,h2,mdel_none (by simpa using hs)]
    exact Dm.refl
theorem Dm.trans {K:MK} {E:Nat->KV->Value->Ent} {b:Nat} {m m' m'' :KV} {L L' L'' :List Ent} {j k:Nat} (h:Dm K E b m m' L L' j) (g:Dm K E b m' m'' L' L'' k):Dm K E b m m'' L L'' (j+k):=by
  obtain ⟨E1,rfl,l1,u1,a1⟩:=h
  obtain ⟨E2,rfl,l2,u2,a2⟩:=g
  refine ⟨E1++E2,List.append_assoc _ _ _,by rw [List.length_append];omega,u1.trans u2,fun e he=> ?_⟩
  rcases List.mem_append.1 he with q | q
  · exact a1 e q
  · exact a2 e q
theorem Dm.up {K:MK} {E:Nat->KV->Value->Ent} {b:Nat} {m m' :KV} {L L' :List Ent} {j k:Nat} (h:Dm K E b m m' L L' j) (hk:j<=k):Dm K E b m m' L L' k:=by
  obtain ⟨Es,e,l,r⟩:=h;exact ⟨Es,e,by omega,r⟩
theorem Dm.len {K:MK} {E:Nat->KV->Value->Ent} {b:Nat} {m m' :KV} {L L' :List Ent} {k:Nat} (h:Dm K E b m m' L L' k):L'.length<=L.length+k:=by
  obtain ⟨Es,rfl,l,_⟩:=h;rw [List.length_append];omega
theorem Und.others {b:Nat} (m:KV): ∀ {Es:List Ent},(∀e∈Es,e.b≠b)->Und b m m Es:=by
  intro Es
  induction Es with
  | nil=>exact fun _=>Und.nil b m
  | cons e Es ih=>exact fun h=>Und.trans (m' :=m) (E:= [e]) (Und.other (E:= []) (Und.nil b m) (h e (List.mem_cons_self ..))) (ih fun x hx=>h x (List.mem_cons_of_mem _ hx))
def Dp (K K' :MK) (E E' :Nat->KV->Value->Ent) (b b' :Nat) (m p m' p' :KV) (L L' :List Ent) (k:Nat):Prop:=
  ∃Es:List Ent,L' =L++Es/\Es.length<=k/\Und b m m' Es/\Und b' p p' Es/\ ∀e∈Es,(∃a key,e=E b a key/\K.OkK key/\KOK K a)∨(∃a key,e=E' b' a key/\K'.OkK key/\KOK K' a)
theorem Dp.of {K K' :MK} {E E' :Nat->KV->Value->Ent} {b b' :Nat} (hE:EntOK b (E b)) (hn:b≠b') {m p m' :KV} {L L' :List Ent} {k:Nat} (h:Dm K E b m m' L L' k):Dp K K' E E' b b' m p m' p L L' k:=by
  obtain ⟨Es,e,l,u,a⟩:=h
  exact ⟨Es,e,l,u,Und.others p fun x hx=>(by obtain ⟨a0,k0,rfl,_⟩:=a x hx;rw [hE.b];exact hn),fun x hx=> .inl (a x hx)⟩
theorem Dp.of2 {K K' :MK} {E E' :Nat->KV->Value->Ent} {b b' :Nat} (hE:EntOK b (E b)) (hE' :EntOK b' (E' b')) (hn:b≠b') {m p m' p' :KV} {L L1 L' :List Ent} {j k:Nat} (h:Dm K E b m m' L L1 j) (g:Dm K' E' b' p p' L1 L' k):Dp K K' E E' b b' m p m' p' L L' (j+k):=by
  obtain ⟨E1,rfl,l1,u1,a1⟩:=h
  obtain ⟨E2,rfl,l2,u2,a2⟩:=g
  refine ⟨E1++E2,List.append_assoc _ _ _,by rw [List.length_append];omega,u1.trans (Und.others m' fun x hx=> ?_),(Und.others p fun x hx=> ?_).trans u2,fun e he=> ?_⟩
  · obtain ⟨a0,k0,rfl,_⟩:=a2 x hx;rw [hE'.b];exact hn.symm
  · obtain ⟨a0,k0,rfl,_⟩:=a1 x hx;rw [hE.b];exact hn
  · rcases List.mem_append.1 he with q | q
    · exact .inl (a1 e q)
    · exact .inr (a2 e q)
theorem Dp.refl {K K' :MK} {E E' :Nat->KV->Value->Ent} {b b' :Nat} {m p:KV} {L:List Ent} {k:Nat}:Dp K K' E E' b b' m p m p L L k:=⟨[],(List.append_nil _).symm,Nat.zero_le _,Und.nil b m,Und.nil b' p,fun e h=>by cases h⟩
theorem Dp.trans {K K' :MK} {E E' :Nat->KV->Value->Ent} {b b' :Nat} {m p m' p' m'' p'' :KV} {L L' L'' :List Ent} {j k:Nat} (h:Dp K K' E E' b b' m p m' p' L L' j) (g:Dp K K' E E' b b' m' p' m'' p'' L' L'' k):Dp K K' E E' b b' m p m'' p'' L L'' (j+k):=by
  obtain ⟨E1,rfl,l1,u1,v1,a1⟩:=h
  obtain ⟨E2,rfl,l2,u2,v2,a2⟩:=g
  refine ⟨E1++E2,List.append_assoc _ _ _,by rw [List.length_append];omega,u1.trans u2,v1.trans v2,fun e he=> ?_⟩
  rcases List.mem_append.1 he with q | q
  · exact a1 e q
  · exact a2 e q
theorem Dp.back {K K' :MK} {E E' :Nat->KV->Value->Ent} {b b' :Nat} {m p m' p' :KV} {L L' :List Ent} {k:Nat} (h:Dp K K' E E' b b' m p m' p' L L' k) (hm:MOK m') (hp:MOK p') {m2 p2:KV} (u0:m2=undoB b (L'.drop L.length) m') (u1:p2=undoB b' (L'.drop L.length) p'):
    L'.take L.length=L/\MOK m2/\EqM m2 m/\MOK p2/\EqM p2 p:=by
  obtain ⟨Es,rfl,l,u,v,a⟩:=h
  rw [List.drop_left] at u0 u1
  obtain ⟨a1,a2⟩:=u m' hm (EqM.refl _)
  obtain ⟨a3,a4⟩:=v p' hp (EqM.refl _)
  rw [u0,u1]
  exact ⟨List.take_left,a1,a2,a3,a4⟩
end Go.Sx
set_option linter.unusedVariables false
namespace Go.Sx
open Go.RowKit
def Dpost (K K' :MK) (E E' :Nat->KV->Value->Ent) (b b' :Nat) (m p m' p' :KV) (L L' :List Ent):Prop:= ∃L1:List Ent,Dm K E b m m' L L1 1/\Dm K' E' b' p p' L1 L' 1
theorem Dpost.refl {K K' :MK} {E E' :Nat->KV->Value->Ent} {b b' :Nat} {m p:KV} {L:List Ent}:Dpost K K' E E' b b' m p m p L L:=⟨L,Dm.refl,Dm.refl⟩
theorem Dpost.len {K K' :MK} {E E' :Nat->KV->Value->Ent} {b b' :Nat} {m p m' p' :KV} {L L' :List Ent} (h:Dpost K K' E E' b b' m p m' p' L L'):L'.length<=L.length+2:=by
  obtain ⟨L1,h1,h2⟩:=h
  have:=h1.len;have:=h2.len;omega
theorem wit_post {K K' :MK} (B:KB K) (P:KP K') {E E' :Nat->KV->Value->Ent} {b b' :Nat} (hE:EntOK b (E b)) (hE' :EntOK b' (E' b')) {m p:KV} (hm:KOK K m) (hp:KOK K' p) (L:List Ent) (to:Int) (r:Nat->Int) (poster:Int) (h:Nat->Int) (block:Int):
    ∃x,(fun x:(BT×Int)×KV×KV×List Ent=>(x.1,x.2.1,x.2.2.1)=postB m p to r poster h block/\Dpost K K' E E' b b' m p x.2.1 x.2.2.1 L x.2.2.2) x:=by
  unfold postB
  split
  · exact ⟨((b0,1),m,p,L),rfl,Dpost.refl⟩
  · split
    · exact ⟨((b0,11),m,p,L),rfl,Dpost.refl⟩
    · split
      · exact ⟨((b0,7),m,p,L),rfl,Dpost.refl⟩
      · exact ⟨(_,_,_,_),rfl,_,Dm.set hE (B.k' _) hm ⟨rfl,rfl⟩,Dm.set hE' P.k hp ⟨rfl,rfl⟩⟩
theorem wit_fin {K:MK} (B:KB K) {E:Nat->KV->Value->Ent} {b:Nat} (hE:EntOK b (E b)) {m:KV} (hm:KOK K m) (L:List Ent) (w a:Int):
    ∃x,(fun x:(BT×Int)×KV×List Ent=>(x.1,x.2.1)=finB m w a/\Dm K E b m x.2.1 L x.2.2 1) x:=by
  unfold finB
  split
  · exact ⟨((b0,10),m,L),rfl,Dm.refl⟩
  · split
    · exact ⟨((b0,15),m,L),rfl,Dm.refl⟩
    · exact ⟨(_,_,_),rfl,Dm.set hE (B.k' _) hm ⟨rfl,rfl⟩⟩
theorem kok_dropB {K:MK} {m:KV} (h:KOK K m): ∀l:List BT,KOK K (dropB m l):=by
  intro l
  induction l generalizing m with
  | nil=>exact h
  | cons b l ih=>exact ih (h.del _)
theorem Dm.dropB {K:MK} (B:KB K) {E:Nat->KV->Value->Ent} {b:Nat} (hE:EntOK b (E b)): ∀ (l:List BT) {m:KV} (hm:KOK K m) (L:List Ent),∃L',Dm K E b m (dropB m l) L L' l.length:=by
  intro l
  induction l with
  | nil=>exact fun hm L=>⟨L,Dm.refl⟩
  | cons c l ih =>
    intro m hm L
    obtain ⟨L',h⟩:=ih (hm.del (.int .u32 (c.1 0))) (if (mget m (.int .u32 (c.1 0))).isSome then L++ [E b m (.int .u32 (c.1 0))] else L)
    exact ⟨L',((Dm.drop hE (B.k' _) hm rfl rfl).trans h).up (by simp;omega)⟩
theorem wit_rev2 {K : MK} (B : KB K) {E : Nat -> KV -> Value -> Ent} {b : Nat} (hE : EntOK b (E b)) {m : KV} (hm : KOK K m) (L : List Ent) (w n a : Int) :
    ∃zx,(fun zx:RK 42×Int×KV×List Ent=>vals zx.1.1=(revB m w n a).1.1.map bV/\(zx.2.1,zx.2.2.1)=((revB m w n a).1.2,(revB m w n a).2)/\Dm K E b m zx.2.2.1 L zx.2.2.2 (revB m w n a).1.1.length) zx:=by
  obtain ⟨y,hy⟩:=wit_rows (revB m w n a).1.1
  have key: ∃L',Dm K E b m (revB m w n a).2 L L' (revB m w n a).1.1.length:=by
    unfold revB
    dsimp only
    split
    · exact ⟨L,Dm.refl⟩
    · split
      · exact ⟨L,Dm.refl⟩
      · split
        · exact ⟨L,Dm.refl⟩
        · exact Dm.dropB B hE _ hm L
  obtain ⟨L',h⟩:=key
  exact ⟨(y,_,_,L'),hy,rfl,h⟩
end Go.Sx
set_option linter.unusedVariables false
set_option linter.unusedSimpArgs false
namespace Go.Sx
open Go.RowKit
theorem ag_drop_take {k:Nat} {vs:List Value} (h: ∀v∈vs,Ag k v) (i m:Nat): ∀v∈(vs.drop i).take m,Ag k v:=fun v hv=>h v (List.mem_of_mem_drop (List.mem_of_mem_take hv))
theorem xappE_mk {P : Program} {t e : TypeId} {k : Nat} {z : Value} (h : SkT P t e k z) (ty : TypeId) (b c : Nat) (vs ex : List Value) (hA : ∀ v ∈ vs ++ ex, Ag k v) (i m o cap : Nat) (him : i + m <= vs.length) (ho : 0 < m -> o = i * k) (hm : m <= 1073741824) :
    OpT P (do pure (.value (←Builtin.append_ #[t,t] ty #[.slice (some ⟨b,0,none⟩) 0 0, .slice (some ⟨c,o,none⟩) m cap]))) [.blk b (.cells #[] e (0,0)),sk e (.mk c vs ex)] (RK k) (fun y=>sv y.1) (fun y=> [sk e y.1,sk e (.mk c vs ex)])
      (fun y=>vals y.1=(vs.drop i).take m):=by
  intro R w h0
  obtain ⟨inf,hi,hz,hs,hby⟩:=h.info
  have hcb:=h0.block (i:=1) rfl
  have hv1: ∀v∈vs,Ag k v:=fun v hv=>hA v (List.mem_append_left _ hv)
  have hN:=ag_drop_take hv1 i m
  have hNl:((vs.drop i).take m).length=m:=by rw [List.length_take,List.length_drop];omega
  rcases Nat.eq_zero_or_pos m with hm0 | hm0
  · subst hm0
    refine ⟨⟨.mk b [] [],fun v hv=>by cases hv⟩,w,by simp [vals], .inl ?_,h0,Ext.refl w⟩
    have hr0:=run_firstCells_some (P:=P) w k 0 ⟨c,o,none⟩ 0 cap [] (by simp) (by simp)
    simp [sv,Builtin.append_,run_underlying h.und,sizeOf,typeInfo,hi,Builtin.lenOf,hs,hr0,storeCells]
  · have ho:=ho hm0
    subst ho
    have hnews: ∀j u,(fl ((vs.drop i).take m))[j]? =some u->w.cell? ((⟨c,i*k,none⟩:Addr).add j)=some u:=by
      intro j u hu
      have e1:(⟨c,i*k,none⟩:Addr).add j=⟨c,i*k+j,none⟩:=Addr.add_lit ..
      rw [e1,cell_of_block hcb rfl]
      have hjl:j<(fl ((vs.drop i).take m)).length:=(List.getElem?_eq_some_iff.1 hu).1
      have hsp:fl (vs++ex)=fl (vs.take i)++(fl ((vs.drop i).take m)++(fl ((vs.drop i).drop m)++fl ex)):=by
        rw [←fl_append,←fl_append,←fl_append,←List.append_assoc ((vs.drop i).take m),List.take_append_drop,←List.append_assoc,List.take_append_drop]
      have hlt:(fl (vs.take i)).length=i*k:=by
        rw [fl_length fun v hv=>hv1 v (List.mem_of_mem_take hv),List.length_take]
        have:min i vs.length=i:=by omega
        rw [this]
      show (fl (vs++ex)).toArray[i*k+j]? =some u
      rw [hsp,List.getElem?_toArray,List.getElem?_append_right (by omega),hlt,Nat.add_sub_cancel_left,List.getElem?_append_left hjl]
      exact hu
    have upd1: ∀ (s:Slot),upd (ofList [.blk b (.cells #[] e (0,0)),sk e (.mk c vs ex)]) 0 s=ofList [s,sk e (.mk c vs ex)]:=by
      intro s;funext j
      cases j with
      | zero=>rfl
      | succ j=>cases j<;>rfl
    have fresh: ∀ (o' :Obj),Own (ofList [.blk w.heap.size o',sk e (.mk c vs ex)]) R (w.drew.alloc o'):=by
      intro o'
      have:=h0.new (w' :=w.drew.alloc o') (i:=0) (o:=o') (heap_alloc_new w.drew o') (fun c hc=>heap_alloc_old w.drew o' c hc)
      rw [upd1] at this
      exact this
    have ext: ∀ (o' :Obj),Ext w (w.drew.alloc o'):=fun o' =>⟨rfl,rfl,rfl,by simp,by first | exact Nat.le_refl _ | exact Nat.le_succ _ | simp⟩
    have hfit:Builtin.nextslicecap (0+m) 0*inf.bytes<=281474976710656:=by
      refine growslice_fits (by omega) ?_
      have:(0+m)*inf.bytes<=2147483648*4096:=Nat.mul_le_mul (by omega) hby
      omega
    have hrn:=run_append_grow (P:=P) w t ty e inf z h.und hi hz ⟨b,0,none⟩ 0 0 [] (by simp) (by simp) ⟨c,i*k,none⟩ m cap (fl ((vs.drop i).take m)) (by rw [hs,fl_length hN,hNl]) hnews (by omega) (by omega) hfit
    obtain ⟨ex',he,hf,hA2⟩:=fl_chunk (k:=k) (grownCap w (0+m) 0 e - (0+m)) (Builtin.zeroCells z.cells (grownCap w (0+m) 0 e - (0+m))).toList (by rw [Array.length_toList,size_zeroCells,h.zc])
    have hge:=grownCap_ge w (0+m) 0 e
    have ef:([]:List Value).toArray++(fl ((vs.drop i).take m)).toArray++Builtin.zeroCells z.cells (grownCap w (0+m) 0 e - (0+m))=(fl ((vs.drop i).take m++ex')).toArray:=by
      rw [fl_append,hf];apply Array.ext';simp
    rw [ef] at hrn
    refine ⟨⟨.mk w.heap.size ((vs.drop i).take m) ex',fun v hv=>by
        rcases List.mem_append.1 hv with hv | hv
        · exact hN v hv
        · exact hA2 v hv⟩,w.drew.alloc (.cells (fl ((vs.drop i).take m++ex')).toArray e),rfl, .inl ?_,fresh _,ext _⟩
    simp only [sv]
    rw [Sem.run_bind,hrn]
    have e1:((vs.drop i).take m).length+ex'.length=grownCap w (0+m) 0 e:=by rw [hNl];omega
    rw [e1,hNl,Nat.zero_add];rfl
theorem xappE_nil {P:Program} {t e:TypeId} {k:Nat} {z:Value} (h:SkT P t e k z) (ty:TypeId) (b:Nat):
    OpT P (do pure (.value (←Builtin.append_ #[t,t] ty #[.slice (some ⟨b,0,none⟩) 0 0, .slice none 0 0]))) [.blk b (.cells #[] e (0,0)), .free] (RK k) (fun y=>sv y.1) (fun y=> [sk e y.1, .free]) (fun y=>vals y.1= []):=by
  intro R w h0
  obtain ⟨inf,hi,hz,hs,hby⟩:=h.info
  refine ⟨⟨.mk b [] [],fun v hv=>by cases hv⟩,w,rfl, .inl ?_,h0,Ext.refl w⟩
  simp [sv,Builtin.append_,run_underlying h.und,sizeOf,typeInfo,hi,Builtin.lenOf,Builtin.firstCells,hs,storeCells]
theorem xappE {P:Program} {t e:TypeId} {k:Nat} {z:Value} (h:SkT P t e k z) (ty:TypeId) (b:Nat) (q:RK k) (hl:(vals q.1).length<=1073741824):
    OpT P (do pure (.value (←Builtin.append_ #[t,t] ty #[.slice (some ⟨b,0,none⟩) 0 0,sv q.1]))) [.blk b (.cells #[] e (0,0)),sk e q.1] (RK k) (fun y=>sv y.1) (fun y=> [sk e y.1,sk e q.1]) (fun y=>vals y.1=kvals k (sv q.1) (sk e q.1)):=by
  rw [kvals_eq]
  obtain ⟨q,hq⟩:=q
  cases q with
  | nil=>exact xappE_nil h ty b
  | mk c vs ex =>
    have:=xappE_mk h ty b c vs ex hq 0 vs.length 0 (vs.length+ex.length) (by omega) (fun _=>by simp) hl
    simp only [List.drop_zero,List.take_length] at this
    exact this
theorem xappE_drop {P:Program} {t e:TypeId} {k:Nat} {z:Value} (h:SkT P t e k z) (ty:TypeId) (b:Nat) (q:RK k) (n:Nat) (hn:n<=(vals q.1).length) (hl:(vals q.1).length<=1073741824):
    OpT P (do pure (.value (←Builtin.append_ #[t,t] ty #[.slice (some ⟨b,0,none⟩) 0 0,vdropK k (sv q.1) n]))) [.blk b (.cells #[] e (0,0)),sk e q.1] (RK k) (fun y=>sv y.1) (fun y=> [sk e y.1,sk e q.1]) (fun y=>vals y.1=(kvals k (sv q.1) (sk e q.1)).drop n):=by
  rw [kvals_eq]
  obtain ⟨q,hq⟩:=q
  cases q with
  | nil =>
    have hn0:n=0:=by simpa [vals] using hn
    subst hn0
    exact xappE_nil h ty b
  | mk c vs ex =>
    simp only [vals] at hn hl
    have key: ∀o,(0<vs.length - n->o=n*k)->OpT P (do pure (.value (←Builtin.append_ #[t,t] ty #[.slice (some ⟨b,0,none⟩) 0 0, .slice (some ⟨c,o,none⟩) (vs.length - n) (vs.length+ex.length - n)]))) [.blk b (.cells #[] e (0,0)),sk e (.mk c vs ex)] (RK k) (fun y=>sv y.1) (fun y=> [sk e y.1,sk e (.mk c vs ex)]) (fun y=>vals y.1=vs.drop n):=by
      intro o ho
      have:=xappE_mk h ty b c vs ex hq n (vs.length - n) o (vs.length+ex.length - n) (by omega) ho (by omega)
      rw [List.take_of_length_le (by rw [List.length_drop];omega)] at this
      exact this
    obtain ⟨o,ho,e1⟩: ∃o,(0<vs.length - n->o=n*k)/\vdropK k (sv (.mk c vs ex)) n= .slice (some ⟨c,o,none⟩) (vs.length - n) (vs.length+ex.length - n):=by
      by_cases hq2:vs.length+ex.length=n
      · exact ⟨0,by omega,by simp [vdropK,sv,sliced,hq2]⟩
      · exact ⟨n*k,fun _=>rfl,by simp [vdropK,sv,sliced,hq2,Addr.add];try exact fun h=>h.symm⟩
    dsimp only
    rw [e1]
    exact key o ho
theorem xappE_take {P:Program} {t e:TypeId} {k:Nat} {z:Value} (h:SkT P t e k z) (ty:TypeId) (b:Nat) (q:RK k) (n:Nat) (hn:n<=(vals q.1).length) (hl:(vals q.1).length<=1073741824):
    OpT P (do pure (.value (←Builtin.append_ #[t,t] ty #[.slice (some ⟨b,0,none⟩) 0 0,vtake (sv q.1) n]))) [.blk b (.cells #[] e (0,0)),sk e q.1] (RK k) (fun y=>sv y.1) (fun y=> [sk e y.1,sk e q.1]) (fun y=>vals y.1=(kvals k (sv q.1) (sk e q.1)).take n):=by
  rw [kvals_eq]
  obtain ⟨q,hq⟩:=q
  cases q with
  | nil =>
    have hn0:n=0:=by simpa [vals] using hn
    subst hn0
    exact xappE_nil h ty b
  | mk c vs ex =>
    simp only [vals] at hn hl
    have:=xappE_mk h ty b c vs ex hq 0 n 0 (vs.length+ex.length) (by omega) (fun _=>by simp) (by omega)
    simp only [List.drop_zero] at this
    exact this
end Go.Sx
set_option linter.unusedVariables false
set_option linter.unusedSimpArgs false
namespace Go.Sx
open Go.RowKit
def lstL (l:List BT):BT:=l.getLastD b0
def endL (l:List BT):Int:=(lstL l).1 2
theorem endL_nil {l:List BT} (h:l.length=0):endL l=0:=by
  have:l= []:=List.length_eq_zero_iff.1 h
  subst this;rfl
theorem lstL_at {l:List BT} {i:Nat} (hi:i+1=l.length) {b:BT} (hb:l[i]? =some b):lstL l=b:=by
  unfold lstL
  rw [List.getLastD_eq_getLast?,List.getLast?_eq_getElem?,show l.length - 1=i by omega,hb];rfl
def findN (l:List BT) (n:Int):Nat:=l.findIdx fun b=>decide (b.1 0=n)
def findL (l:List BT) (n:Int):Int:=if findN l n<l.length then ((findN l n:Nat):Int) else -1
theorem findN_at: ∀ {l:List BT} {n:Int} {i:Nat} {b:BT} (_:l[i]? =some b) (_:b.1 0=n) (_: ∀j c,j<i->l[j]? =some c->c.1 0≠n),findN l n=i
  | [],n,i,b,h,_,_=>by simp at h
  | a :: l, n, 0, b, h, e, _ => by
    simp at h;subst h
    simp [findN,List.findIdx_cons,e]
  | a :: l, n, i + 1, b, h, e, hn => by
    have h0:=hn 0 a (by omega) rfl
    have ih:=findN_at (l:=l) (i:=i) (by simpa using h) e fun j c hj hc=>hn (j+1) c (by omega) (by simpa using hc)
    unfold findN at ih ⊢
    rw [List.findIdx_cons,decide_eq_false h0,ih];rfl
theorem findL_at {l:List BT} {n:Int} {i:Nat} {b:BT} (h:l[i]? =some b) (e:b.1 0=n) (hn: ∀j c,j<i->l[j]? =some c->c.1 0≠n):findL l n=((i:Nat):Int):=by
  have h1:=findN_at h e hn
  unfold findL
  rw [h1,if_pos (List.getElem?_eq_some_iff.1 h).1]
theorem findN_no {l:List BT} {n:Int} (hn: ∀j c,j<l.length->l[j]? =some c->c.1 0≠n):findN l n=l.length:=by
  unfold findN
  rw [List.findIdx_eq_length]
  intro b hb
  obtain ⟨j,hj,rfl⟩:=List.mem_iff_getElem.1 hb
  exact decide_eq_false (hn j _ hj (List.getElem?_eq_getElem hj))
theorem findL_no {l:List BT} {n:Int} (hn: ∀j c,j<l.length->l[j]? =some c->c.1 0≠n):findL l n= -1:=by
  unfold findL
  rw [findN_no hn,if_neg (by omega)]
theorem findL_pos {l:List BT} {n:Int} (h: ¬findL l n<0): ∃b,l[(findL l n).toNat]? =some b/\b.1 0=n/\(findL l n).toNat<l.length/\0<=findL l n:=by
  unfold findL at h ⊢
  split at h
  · rename_i hlt
    rw [if_pos hlt,Int.toNat_natCast]
    refine ⟨l[findN l n],List.getElem?_eq_getElem hlt,?_,hlt,by omega⟩
    have:=List.findIdx_getElem (p:=fun b:BT=>decide (b.1 0=n)) (w:=hlt)
    exact of_decide_eq_true this
  · omega
def postE (l:List BT) (to poster block:Int):Int:=if 16<=poster∨1099511627776<block then 1 else if to<endL l∨(0<l.length/\block<(lstL l).1 40) then 11 else 0
def newB20 (l:List BT) (po to:Int) (r:Nat->Int) (poster:Int) (h:Nat->Int) (block:Int):BT:=
  (fnL [po,endL l,to,r 0,r 1,r 2,r 3,r 4,r 5,r 6,r 7,r 8,r 9,r 10,r 11,r 12,r 13,r 14,r 15,r 16,r 17,r 18,r 19,r 20,r 21,r 22,r 23,r 24,r 25,r 26,r 27,r 28,r 29,r 30,r 31,poster,h 0,h 1,h 2,h 3,block],false)
def atL (l:List BT) (n:Int):BT:=l.getD (findL l n).toNat b0
theorem atL_of {l:List BT} {n:Int} {b:BT} (h:l[(findL l n).toNat]? =some b):atL l n=b:=by unfold atL;rw [List.getD_eq_getElem?_getD,h];rfl
def revE (l:List BT) (w n a:Int):Int:=if findL l n<0 then 10 else if (atL l n).2 then 11 else if openB w ((atL l n).1 40) a=false then 15 else 0
def covL (l:List BT) (n i:Int):Int:=if findL l n<0 then 10 else if (atL l n).2=false then 11 else if (atL l n).1 2<=i then 10 else 0
theorem find_step {l:List BT} {n:Int} {i:Nat} {x:BT} (h: ∀j c,j<i->l[j]? =some c->c.1 0≠n) (hx:l[i]? =some x) (hp:x.1 0≠n): ∀j c,j<i+1->l[j]? =some c->c.1 0≠n:=by
  intro j c hj hc
  rcases Nat.lt_or_ge j i with q | q
  · exact h j c q hc
  · have e:j=i:=by omega
    subst e
    rw [hx] at hc;injection hc with hc;subst hc;exact hp
end Go.Sx
set_option linter.unusedVariables false
set_option linter.unusedSimpArgs false
namespace Go.Sx
open Go.RowKit
def srcK (k:Nat) (v:Value) (s:Slot):List Value:=(List.range (vlen v)).map fun i=>rdK k (scells s) (voff v+i*k)
theorem srcK_all {k:Nat} (q:RK k) (e:TypeId):srcK k (sv q.1) (sk e q.1)=vals q.1:=by
  rw [←kvals_eq q e]
  unfold srcK kvals
  obtain ⟨q,hq⟩:=q
  cases q<;>simp [sv,voff,vlen]
theorem srcK_mk {k:Nat} {c:Nat} {vs ex:List Value} (hA: ∀v∈vs++ex,Ag k v) (e:TypeId) (i m o cap:Nat) (him:i+m<=vs.length) (ho:0<m->o=i*k):srcK k (.slice (some ⟨c,o,none⟩) m cap) (sk e (.mk c vs ex))=(vs.drop i).take m:=by
  apply List.ext_getElem?
  intro j
  unfold srcK
  simp only [vlen,voff,sk,scells]
  rcases Nat.lt_or_ge j m with q | q
  · have hx:(vs++ex)[i+j]? =some vs[i+j]:=by rw [List.getElem?_append_left (by omega),List.getElem?_eq_getElem (by omega)]
    rw [List.getElem?_map,List.getElem?_range q,Option.map_some,ho (by omega),←Nat.add_mul,rdK_fl hA hx,List.getElem?_take_of_lt q,List.getElem?_drop,List.getElem?_eq_getElem]
  · rw [List.getElem?_eq_none (by simpa using q),List.getElem?_eq_none (by rw [List.length_take];omega)]
theorem srcK_drop {k:Nat} (q:RK k) (e:TypeId) (n:Nat) (hn:n<=(vals q.1).length):srcK k (vdropK k (sv q.1) n) (sk e q.1)=(vals q.1).drop n:=by
  obtain ⟨q,hq⟩:=q
  cases q with
  | nil =>
    have hn0:n=0:=by simpa [vals] using hn
    subst hn0;rfl
  | mk c vs ex =>
    simp only [vals] at hn
    obtain ⟨o,ho,e1⟩: ∃o,(0<vs.length - n->o=n*k)/\vdropK k (sv (.mk c vs ex)) n= .slice (some ⟨c,o,none⟩) (vs.length - n) (vs.length+ex.length - n):=by
      by_cases hq2:vs.length+ex.length=n
      · exact ⟨0,by omega,by simp [vdropK,sv,sliced,hq2]⟩
      · exact ⟨n*k,fun _=>rfl,by simp [vdropK,sv,sliced,hq2,Addr.add];try exact fun h=>h.symm⟩
    dsimp only
    rw [e1,srcK_mk hq e n _ _ _ (by omega) ho,List.take_of_length_le (by rw [List.length_drop];omega)];rfl
theorem srcK_take {k:Nat} (q:RK k) (e:TypeId) (n:Nat) (hn:n<=(vals q.1).length):srcK k (vtake (sv q.1) n) (sk e q.1)=(vals q.1).take n:=by
  obtain ⟨q,hq⟩:=q
  cases q with
  | nil =>
    have hn0:n=0:=by simpa [vals] using hn
    subst hn0;rfl
  | mk c vs ex =>
    simp only [vals] at hn
    have:=srcK_mk (c:=c) hq e 0 n 0 (vs.length+ex.length) (by omega) (fun _=>by simp)
    simpa [vtake,sv,vals] using this
def F_appE (k:Nat) (e:TypeId):List Value->List Slot->Ctr:=fun vs hs=>⟨RK k,fun y=>sv y.1,fun y=> [sk e y.1,sarg hs 1],fun y=>vals y.1=srcK k (varg vs 1) (sarg hs 1)⟩
theorem xcopy {P:Program} {t e:TypeId} {k:Nat} {z:Value} (h:SkT P t e k z) (ty:TypeId) (b:Nat) (q:RK k) (hl:(vals q.1).length<=1073741824):
    OpT P (do pure (.value (←Builtin.append_ #[t,t] ty #[.slice (some ⟨b,0,none⟩) 0 0,sv q.1]))) [.blk b (.cells #[] e (0,0)),sk e q.1] (RK k) (fun y=>sv y.1) (fun y=> [sk e y.1,sk e q.1]) (fun y=>vals y.1=srcK k (sv q.1) (sk e q.1)):=by
  rw [srcK_all,←kvals_eq q e];exact xappE h ty b q hl
theorem xcopy_drop {P:Program} {t e:TypeId} {k:Nat} {z:Value} (h:SkT P t e k z) (ty:TypeId) (b:Nat) (q:RK k) (n:Nat) (hn:n<=(vals q.1).length) (hl:(vals q.1).length<=1073741824):
    OpT P (do pure (.value (←Builtin.append_ #[t,t] ty #[.slice (some ⟨b,0,none⟩) 0 0,vdropK k (sv q.1) n]))) [.blk b (.cells #[] e (0,0)),sk e q.1] (RK k) (fun y=>sv y.1) (fun y=> [sk e y.1,sk e q.1]) (fun y=>vals y.1=srcK k (vdropK k (sv q.1) n) (sk e q.1)):=by
  have:=xappE_drop h ty b q n hn hl
  rw [kvals_eq] at this
  rw [srcK_drop q e n hn];exact this
theorem xcopy_take {P:Program} {t e:TypeId} {k:Nat} {z:Value} (h:SkT P t e k z) (ty:TypeId) (b:Nat) (q:RK k) (n:Nat) (hn:n<=(vals q.1).length) (hl:(vals q.1).length<=1073741824):
    OpT P (do pure (.value (←Builtin.append_ #[t,t] ty #[.slice (some ⟨b,0,none⟩) 0 0,vtake (sv q.1) n]))) [.blk b (.cells #[] e (0,0)),sk e q.1] (RK k) (fun y=>sv y.1) (fun y=> [sk e y.1,sk e q.1]) (fun y=>vals y.1=srcK k (vtake (sv q.1) n) (sk e q.1)):=by
  have:=xappE_take h ty b q n hn hl
  rw [kvals_eq] at this
  rw [srcK_take q e n hn];exact this
theorem wit_copy {k:Nat} (q:RK k) {l:List Value} (hl: ∀v∈l,v∈vals q.1): ∃y:RK k,(fun y:RK k=>vals y.1=l) y:=⟨⟨.mk 0 l [],fun v hv=>q.all v (hl v (by simpa using hv))⟩,rfl⟩
theorem wit_copy_all {k:Nat} (q:RK k) (e:TypeId): ∃y:RK k,(fun y:RK k=>vals y.1=srcK k (sv q.1) (sk e q.1)) y:=wit_copy q fun v h=>by rw [srcK_all] at h;exact h
theorem wit_copy_drop {k:Nat} (q:RK k) (e:TypeId) (n:Nat) (hn:n<=(vals q.1).length): ∃y:RK k,(fun y:RK k=>vals y.1=srcK k (vdropK k (sv q.1) n) (sk e q.1)) y:=wit_copy q fun v h=>by rw [srcK_drop q e n hn] at h;exact List.mem_of_mem_drop h
theorem wit_copy_take {k:Nat} (q:RK k) (e:TypeId) (n:Nat) (hn:n<=(vals q.1).length): ∃y:RK k,(fun y:RK k=>vals y.1=srcK k (vtake (sv q.1) n) (sk e q.1)) y:=wit_copy q fun v h=>by rw [srcK_take q e n hn] at h;exact List.mem_of_mem_take h
noncomputable def lS (v:Value) (s:Slot):List BT:=(kvals 42 v s).map unB
theorem lS_eq {e:TypeId} {r:RK 42} {l:List BT} (hv:vals r.1=l.map bV) (ho: ∀b∈l,okB b):lS (sv r.1) (sk e r.1)=l:=by
  unfold lS
  rw [kvals_eq,hv,List.map_map]
  conv=>rhs;rw [←List.map_id l]
  exact List.map_congr_left fun b hb=>unB_bV (ho b hb)
theorem lst_row {r:RK 42} {l:List BT} (hv:vals r.1=l.map bV) {i:Nat} (hi:i+1=l.length):(vals r.1)[i]? =some (bV (lstL l)):=by
  have h1:l[i]? =some l[i]:=List.getElem?_eq_getElem (by omega)
  rw [hv,List.getElem?_map,lstL_at hi h1,h1];rfl
end Go.Sx
set_option linter.unusedVariables false
set_option linter.unusedSimpArgs false
namespace Go.Sx
open Go.RowKit
theorem lst_at {r:RK 42} {l:List BT} (hv:vals r.1=l.map bV) {i:Int} (h0:0<=i/\i+1=(l.length:Nat)):(vals r.1)[i.toNat]? =some (bV (lstL l)):=lst_row hv (by omega)
theorem fnd_at {r:RK 42} {l:List BT} (hv:vals r.1=l.map bV) {n:Int} (h: ¬findL l n<0):(vals r.1)[(findL l n).toNat]? =some (bV (atL l n)):=by
  obtain ⟨b,h1,h2,h3,h4⟩:=findL_pos h
  rw [hv,List.getElem?_map,h1,atL_of h1];rfl
theorem fnd_at' {r:RK 42} {l L0:List BT} (hL:L0=l) (hv:vals r.1=l.map bV) {n:Int} (h: ¬findL L0 n<0):(vals r.1)[(findL L0 n).toNat]? =some (bV (atL l n)):=by
  subst hL;exact fnd_at hv h
theorem fnd_bd {l L0:List BT} (hL:L0=l) {n:Int} (h: ¬findL L0 n<0):0<=findL L0 n/\findL L0 n<l.length:=by
  subst hL
  obtain ⟨b,h1,h2,h3,h4⟩:=findL_pos h
  omega
theorem atL_ok {l:List BT} (ho: ∀b∈l,okB b) {n:Int} (h: ¬findL l n<0):okB (atL l n)/\atL l n∈l:=by
  obtain ⟨b,h1,h2,h3,h4⟩:=findL_pos h
  rw [atL_of h1]
  exact ⟨ho b (List.mem_of_getElem? h1),List.mem_of_getElem? h1⟩
def ssetS (s:Slot) (v:Value):Slot:=match s with | .blk b (.cells _ t f)=> .blk b (.cells v.cells t f) | s=>s
def F_putS:List Value->List Slot->Ctr:=fun vs hs=>⟨Unit,fun _=>undef,fun _=> [ssetS (sarg hs 0) (varg vs 1)],fun _=>True⟩
theorem xputS {P:Program} {b k:Nat} {cs:Array Value} {ty te:TypeId} (hs: ∀w,(sizeOf te).run P w= .ok k w) (v:Value) (hv:v.cells.toList.length=k) (hc:cs.toList.length=k) (h2: ∀u∈v.cells.toList,u.oneCell' =true):
    OpT P (do Instr.storeAt te (.pointer (some ⟨b,0,none⟩)) v;pure .skip) [.blk b (.cells cs ty (0,0))] Unit (fun _=>undef) (fun _=> [.blk b (.cells v.cells ty (0,0))]) (fun _=>True):=by
  intro R w ho
  have hb:w.heap[b]? =some (.cells cs ty (0,0)):=ho.block (i:=0) rfl
  have hcell: ∀j,j<v.cells.toList.length->(w.cell? ⟨b,0+0+j,none⟩).isSome=true:=by
    intro j hj
    have hlen:j<cs.size:=by rw [←Array.length_toList];omega
    simp [World.cell?,hb,hlen]
  have hst:=run_storeCells_cells (P:=P) b 0 v.cells.toList 0 w hcell (fun j hj=>by rw [frozen_of_block hb];simp [frozenAt,frz]) h2
  have hh:=heap_setCells_same b ty v.cells.toList 0 w _ hb
  have hset:putAll cs 0 v.cells.toList=v.cells:=by
    have:=putAll_eq v.cells.toList [] cs.toList [] (by omega)
    simpa using this
  rw [hset] at hh
  refine ⟨(),w.setCells b 0 v.cells.toList,trivial, .inr ⟨?_,rfl⟩,?_,ext_setCells b _ _ w⟩
  · have hsz:=hs w
    have hk:v.cells.size=k:=by simpa using hv
    simp only [Nat.add_zero] at hst
    simp [Instr.storeAt,Instr.sureAddr,storeVar,Sem.run_bind,hsz,hk,hst]
  · have:=ho.set (i:=0) (b:=b) rfl hh (fun c hc=>heap_setCells_other' b _ _ w c hc)
    refine (congrArg (fun H=>Own H R (w.setCells b 0 v.cells.toList)) ?_).mp this
    funext i
    cases i<;>rfl
theorem one_sv3 (r:Row) {a c:Value} (ha:a.oneCell' =true) (hc:c.oneCell' =true): ∀u∈ [sv r,a,c],u.oneCell' =true:=by
  intro u hu
  rcases List.mem_cons.1 hu with rfl | hu
  · exact one_sv _
  · rcases List.mem_cons.1 hu with rfl | hu
    · exact ha
    · simp at hu;subst hu;exact hc
theorem fnd_ok' {r:RK 42} {l L0:List BT} (hL:L0=l) (hv:vals r.1=l.map bV) (ho: ∀b∈l,okB b) {n:Int} (h: ¬findL L0 n<0): ∃x0,(vals r.1)[(findL L0 n).toNat]? =some (bV x0)/\okB x0:=
  ⟨atL l n,fnd_at' hL hv h,by subst hL;exact (atL_ok ho h).1⟩
theorem fnd_is' {r:RK 42} {l L0:List BT} (hL:L0=l) (hv:vals r.1=l.map bV) (ho: ∀b∈l,okB b) {n:Int} (h: ¬findL L0 n<0) {x:BT} (hx:(vals r.1)[(findL L0 n).toNat]? =some (bV x)/\okB x):x=atL l n/\atL l n∈l:=by
  have h1:=row_is hv ho hx
  subst hL
  exact ⟨(atL_of h1).symm,(atL_ok ho h).2⟩
def revG (l:List BT) (w n a:Int):List BT:=if revE l w n a=0 then l.drop (findL l n).toNat else []
def revL (l:List BT) (w n a:Int):List BT:=if revE l w n a=0 then l.take (findL l n).toNat else l
end Go.Sx
set_option linter.unusedVariables false
set_option linter.unusedSimpArgs false
namespace Go.Sx
open Go.RowKit
theorem xputKC {P:Program} {t e:TypeId} {k:Nat} {z:Value} (h:SkT P t e k z) {te:TypeId} (hs: ∀w,(sizeOf te).run P w= .ok 1 w) (r:RK k) (n j:Nat) (c:Value) (h1:c.cells= #[c]) (h2:c.oneCell' =true) (hn:n<(vals r.1).length) (hj:j<k):
    OpT P (do Instr.storeAt te (.pointer (some ⟨vblk (sv r.1),n*k+j,none⟩)) c;pure .skip) [sk e r.1] Unit (fun _=>undef) (fun _=> [sset (sk e r.1) (n*k+j) c]) (fun _=>True):=by
  obtain ⟨r,hr⟩:=r
  cases r with
  | nil=>simp [vals] at hn
  | mk b vs ex =>
    simp only [vals] at hn
    have hlen:n*k+j<(fl (vs++ex)).toArray.size:=by
      rw [List.size_toArray,fl_length hr,List.length_append]
      have:(n+1)*k<=(vs.length+ex.length)*k:=Nat.mul_le_mul_right _ (by omega)
      rw [Nat.succ_mul] at this;omega
    exact xputv (b:=b) (cs:=(fl (vs++ex)).toArray) (ty:=e) (te:=te) hs (n*k+j) c h1 h2 hlen
theorem bV_fin (x:BT):(bV x).cells.toList.set 41 (.bool true)=(bV (x.1,true)).cells.toList:=by cases x;rfl
theorem setC_eq (r:RK 42) (e:TypeId) {n:Nat} {x:BT} (hx:(vals r.1)[n]? =some (bV x)):sset (sk e r.1) (n*42+41) (.bool true)=sk e (r.set n (bV (x.1,true)) (bV_Ag _)).1:=by
  obtain ⟨r,hr⟩:=r
  cases r with
  | nil=>simp [vals] at hx
  | mk b vs ex =>
    simp only [vals] at hx
    have hn:n<vs.length:=(List.getElem?_eq_some_iff.1 hx).1
    have hxe:vs[n]=bV x:=(List.getElem?_eq_some_iff.1 hx).2
    show Slot.blk b (.cells ((fl (vs++ex)).toArray.setIfInBounds (n*42+41) (.bool true)) e (0,0))= .blk b (.cells (fl (vs.set n (bV (x.1,true))++ex)).toArray e (0,0))
    have hv1: ∀v∈vs,Ag 42 v:=fun v hv=>hr v (List.mem_append_left _ hv)
    have ht:(fl (vs.take n)).length=n*42:=by rw [fl_length fun v hv=>hv1 v (List.mem_of_mem_take hv),List.length_take,Nat.min_eq_left (by omega)]
    have e1:fl (vs++ex)=fl (vs.take n)++((bV x).cells.toList++(fl (vs.drop (n+1))++fl ex)):=by
      have h1:vs=vs.take n++vs[n]::vs.drop (n+1):=by rw [←List.drop_eq_getElem_cons hn,List.take_append_drop]
      conv=>lhs;rw [h1]
      rw [fl_append,fl_append,fl_cons,hxe];simp
    have e2:fl (vs.set n (bV (x.1,true))++ex)=fl (vs.take n)++((bV (x.1,true)).cells.toList++(fl (vs.drop (n+1))++fl ex)):=by
      rw [List.set_eq_take_append_cons_drop,if_pos hn,fl_append,fl_append,fl_cons];simp
    have e3:(fl (vs++ex)).set (n*42+41) (.bool true)=fl (vs.set n (bV (x.1,true))++ex):=by
      rw [e1,e2,List.set_append_right _ _ (by omega),ht,Nat.add_sub_cancel_left,List.set_append_left _ _ (by rw [(bV_Ag x).len];omega),bV_fin]
    rw [←e3];simp
theorem xgetKO_set {P:Program} {t e:TypeId} {z:Value} (h:SkT P t e 42 z) (r:RK 42) (n:Nat) (x:BT) (hx:(vals r.1)[n]? =some (bV x)) (ho:okB x):
    OpT P (do pure (.value (←Instr.loadAt e (.pointer (some ⟨vblk (sv r.1),n*42,none⟩))))) [sset (sk e r.1) (n*42+41) (.bool true)] BT bV (fun _=> [sset (sk e r.1) (n*42+41) (.bool true)]) (fun y=>rdK 42 (scells (sset (sk e r.1) (n*42+41) (.bool true))) (n*42)=bV y/\okB y):=by
  rw [setC_eq r e hx]
  have hn:n<(vals r.1).length:=(List.getElem?_eq_some_iff.1 hx).1
  have:=xgetKO h bV okB (r.set n (bV (x.1,true)) (bV_Ag _)) n ⟨(x.1,true),by rw [RK.vals_set,List.getElem?_set_self hn],okB_fin ho true⟩
  rw [RK.sv_set] at this
  exact this
theorem wgetKO_set {e:TypeId} (r:RK 42) (n:Nat) (x:BT) (hx:(vals r.1)[n]? =some (bV x)) (ho:okB x): ∃y,(fun y=>rdK 42 (scells (sset (sk e r.1) (n*42+41) (.bool true))) (n*42)=bV y/\okB y) y:=by
  rw [setC_eq r e hx]
  have hn:n<(vals r.1).length:=(List.getElem?_eq_some_iff.1 hx).1
  exact wgetKO ⟨(x.1,true),by rw [RK.vals_set,List.getElem?_set_self hn],okB_fin ho true⟩
theorem egetKO_set {e:TypeId} (r:RK 42) (n:Nat) (x:BT) (hx:(vals r.1)[n]? =some (bV x)) (ho:okB x) {y:BT} (h:rdK 42 (scells (sset (sk e r.1) (n*42+41) (.bool true))) (n*42)=bV y/\okB y):y=(x.1,true):=by
  rw [setC_eq r e hx] at h
  have hn:n<(vals r.1).length:=(List.getElem?_eq_some_iff.1 hx).1
  have h1:=egetKO (e:=e) (k:=42) (r:=r.set n (bV (x.1,true)) (bV_Ag _)) (n:=n) ⟨(x.1,true),by rw [RK.vals_set,List.getElem?_set_self hn],okB_fin ho true⟩ h
  rw [RK.vals_set,List.getElem?_set_self hn] at h1
  have h2:bV (x.1,true)=bV y:=by have:=h1.1;injection this
  have h3:=congrArg unB h2
  rw [unB_bV (okB_fin ho true),unB_bV h1.2] at h3
  exact h3.symm
def fstL (l:List BT):Nat:=l.findIdx fun b=> !b.2
def fstB (l:List BT):BT:=l.getD (fstL l) b0
def finE (l:List BT) (w a:Int):Int:=if fstL l<l.length then (if openB w ((fstB l).1 40) a then 15 else 0) else 10
def finL (l:List BT):List BT:=l.set (fstL l) ((fstB l).1,true)
theorem fst_at: ∀ {l:List BT} {i:Nat} {b:BT} (_:l[i]? =some b) (_:b.2=false) (_: ∀j c,j<i->l[j]? =some c->c.2=true),fstL l=i
  | [],i,b,h,_,_=>by simp at h
  | a :: l, 0, b, h, e, _ => by
    simp at h;subst h
    simp [fstL,List.findIdx_cons,e]
  | a :: l, i + 1, b, h, e, hn => by
    have h0:=hn 0 a (by omega) rfl
    have ih:=fst_at (l:=l) (i:=i) (by simpa using h) e fun j c hj hc=>hn (j+1) c (by omega) (by simpa using hc)
    unfold fstL at ih ⊢
    rw [List.findIdx_cons,h0,ih];rfl
theorem fst_no {l:List BT} (hn: ∀j c,j<l.length->l[j]? =some c->c.2=true):fstL l=l.length:=by
  unfold fstL
  rw [List.findIdx_eq_length]
  intro b hb
  obtain ⟨j,hj,rfl⟩:=List.mem_iff_getElem.1 hb
  rw [hn j _ hj (List.getElem?_eq_getElem hj)];rfl
theorem fstB_at {l:List BT} {i:Nat} {b:BT} (h:l[i]? =some b) (e:b.2=false) (hn: ∀j c,j<i->l[j]? =some c->c.2=true):fstB l=b:=by
  unfold fstB
  rw [fst_at h e hn,List.getD_eq_getElem?_getD,h];rfl
end Go.Sx
set_option linter.unusedVariables false
set_option linter.unusedSimpArgs false
namespace Go.Sx
open Go.RowKit
abbrev PL:=List (Int×Int)
def pvs (l:PL):List Value:=l.map p2V
def setS (k v:Int) (s:PL×Bool) (p:Int×Int):PL×Bool:=
  if s.2=false/\k<=p.1 then (if p.1=k then (s.1++ [(k,v)],true) else (s.1++ [(k,v)]++ [p],true)) else (if p.1=k then s else (s.1++ [p],s.2))
def finS (k v:Int) (s:PL×Bool):PL:=if s.2 then s.1 else s.1++ [(k,v)]
def pSet (l:PL) (k v:Int):PL:=finS k v (l.foldl (setS k v) ([],false))
def setA (k v:Int) (p:PL):PL×Bool:=if p.any (fun x=>decide (k<=x.1)) then (p.filter (fun x=>decide (x.1<k))++(k,v)::p.filter (fun x=>decide (k<x.1)),true) else (p,false)
theorem fold_set {k v : Int} {l : PL} (h : l.Pairwise fun a b => a.1 < b.1) : ∀ n, n <= l.length -> (l.take n).foldl (setS k v) ([], false) = setA k v (l.take n)
  | 0,_=>by simp [setA]
  | n + 1, hn => by
    have hlt:n<l.length:=hn
    have hs:(l.take n++ [l[n]]).Pairwise fun a b=>a.1<b.1:=by
      rw [←List.take_succ_eq_append_getElem hlt];exact h.sublist (List.take_sublist _ _)
    have hm: ∀y∈l.take n,y.1<l[n].1:=fun y hy=>(List.pairwise_append.1 hs).2.2 y hy _ (by simp)
    rw [List.take_succ_eq_append_getElem hlt,List.foldl_append,fold_set h n (by omega)]
    simp only [List.foldl_cons,List.foldl_nil]
    generalize l[n]=x at *
    generalize l.take n=p at *
    unfold setA
    by_cases ha:p.any (fun x=>decide (k<=x.1))=true
    · obtain ⟨y,hy,hy2⟩:=List.any_eq_true.1 ha
      have h0:=of_decide_eq_true hy2
      have h3:=hm y hy
      have h1:k<x.1:=by omega
      rw [if_pos ha,if_pos (by simp only [List.any_append,ha,Bool.true_or])]
      unfold setS
      rw [if_neg (by simp),if_neg (by omega)]
      simp [List.filter_append,h1,show ¬x.1<k by omega]
    · have hall: ∀y∈p,y.1<k:=fun y hy=>by
        have: ¬k<=y.1:=fun q=>ha (List.any_eq_true.2 ⟨y,hy,decide_eq_true q⟩)
        omega
      have f1:p.filter (fun x=>decide (x.1<k))=p:=List.filter_eq_self.2 fun y hy=>decide_eq_true (hall y hy)
      have f2:p.filter (fun x=>decide (k<x.1))= []:=List.filter_eq_nil_iff.2 fun y hy=>by have:=hall y hy;simp;omega
      rw [if_neg ha]
      unfold setS
      by_cases hx:k<=x.1
      · have hany:((p++ [x]).any fun x=>decide (k<=x.1))=true:=by simp [List.any_append,hx]
        rw [if_pos hany,if_pos ⟨rfl,hx⟩]
        by_cases he:x.1=k
        · rw [if_pos he]
          simp [List.filter_append,f1,f2,show ¬x.1<k by omega,show ¬k<x.1 by omega]
        · rw [if_neg he]
          simp [List.filter_append,f1,f2,show ¬x.1<k by omega,show k<x.1 by omega]
      · rw [if_neg (by simp [hx]),if_neg (by omega),if_neg (by simp only [List.any_append,List.any_cons,List.any_nil,Bool.or_false,Bool.or_eq_true,not_or];exact ⟨ha,by simp;omega⟩)]
theorem pSet_eq {k v:Int} {l:PL} (h:l.Pairwise fun a b=>a.1<b.1):pSet l k v=l.filter (fun x=>decide (x.1<k))++(k,v)::l.filter (fun x=>decide (k<x.1)):=by
  have:=fold_set (k:=k) (v:=v) h l.length (Nat.le_refl _)
  rw [List.take_length] at this
  unfold pSet
  rw [this]
  unfold setA
  by_cases ha:l.any (fun x=>decide (k<=x.1))=true
  · rw [if_pos ha];rfl
  · have hall: ∀y∈l,y.1<k:=fun y hy=>by
      have: ¬k<=y.1:=fun q=>ha (List.any_eq_true.2 ⟨y,hy,decide_eq_true q⟩)
      omega
    rw [if_neg ha,List.filter_eq_self.2 fun y hy=>decide_eq_true (hall y hy),List.filter_eq_nil_iff.2 fun y hy=>by have:=hall y hy;simp;omega]
    rfl
def pDrop (l:PL) (k:Int):PL:=l.filter fun p=>decide (p.1≠k)
def pGet (l:PL) (k:Int):Int×Bool:=match l.find? fun p=>decide (p.1=k) with | some p=>(p.2,true) | none=>(0,false)
theorem pGet_none {l:PL} {k:Int} (h: ∀p∈l,p.1≠k):pGet l k=(0,false):=by
  unfold pGet
  rw [List.find?_eq_none.2 fun p hp=>by simp [h p hp]]
structure DocP (K:MK) (l:PL) (m:KV):Prop where
  ok:KOK K m
  r:l.Pairwise fun a b=>a.1<b.1
  at_: ∀k v:Int,(k,v)∈l↔mget m (iv k)=some (iv v)
theorem DocP.nil {K:MK}:DocP K [] []:=⟨KOK.nil,List.Pairwise.nil,fun k v=>by rw [mget_nil];simp⟩
theorem DocP.eqm {K:MK} {l:PL} {m n:KV} (h:DocP K l m) (hn:KOK K n) (e:EqM n m):DocP K l n:=⟨hn,h.r,fun k v=>by rw [h.at_,e]⟩
theorem DocP.set {K : MK} (I : IntK K) {l : PL} {m : KV} (h : DocP K l m) (k v : Int) (hv : (Lit.int .i64 v).wf = true) : DocP K (pSet l k v) (mset m (iv k) (iv v)) := by
  refine ⟨h.ok.set (I.k k) (I.v v hv),?_,fun k' v' => ?_⟩
  · rw [pSet_eq h.r,List.pairwise_append,List.pairwise_cons]
    refine ⟨h.r.filter _,⟨fun b hb=>of_decide_eq_true (List.mem_filter.1 hb).2,h.r.filter _⟩,fun a ha b hb=> ?_⟩
    have h1:=of_decide_eq_true (List.mem_filter.1 ha).2
    rcases List.mem_cons.1 hb with e | hb
    · subst e;exact h1
    · have h2:=of_decide_eq_true (List.mem_filter.1 hb).2;omega
  · rw [pSet_eq h.r, mget_set, List.mem_append, List.mem_cons, List.mem_filter, List.mem_filter]
    simp only [decide_eq_true_eq,Prod.mk.injEq]
    by_cases e:k' =k
    · subst e
      rw [if_pos rfl]
      constructor
      · rintro (q | q | q)
        · omega
        · rw [q.2]
        · omega
      · intro q
        injection q with q
        injection q with _ q
        exact .inr (.inl ⟨rfl,q.symm⟩)
    · rw [if_neg (fun q=>e (by injection q)),←h.at_]
      constructor
      · rintro (q | q | q)
        · exact q.1
        · exact absurd q.1 e
        · exact q.1
      · intro q
        rcases Int.lt_or_gt_of_ne e with r | r
        · exact .inl ⟨q,r⟩
        · exact .inr (.inr ⟨q,r⟩)
theorem DocP.drop {K:MK} {l:PL} {m:KV} (h:DocP K l m) (k:Int):DocP K (pDrop l k) (mdel m (iv k)):=by
  refine ⟨h.ok.del _,h.r.filter _,fun k' v' => ?_⟩
  unfold pDrop
  rw [mget_del h.ok.once,List.mem_filter]
  by_cases e:k' =k
  · subst e;rw [if_pos rfl];simp
  · rw [if_neg (fun q=>e (by injection q)),←h.at_];simp [e]
theorem DocP.some {K:MK} (I:IntK K) {l:PL} {m:KV} (h:DocP K l m) (k:Int):(mget m (iv k)).isSome=true↔ ∃p∈l,p.1=k:=by
  constructor
  · intro q
    obtain ⟨x,hx⟩:=Option.isSome_iff_exists.1 q
    obtain ⟨v,_,rfl⟩:=I.v' x (h.ok.val hx)
    exact ⟨(k,v),(h.at_ k v).2 hx,rfl⟩
  · rintro ⟨p,hp,rfl⟩
    rw [(h.at_ p.1 p.2).1 hp];rfl
theorem DocP.get {K:MK} (I:IntK K) {l:PL} {m:KV} (h:DocP K l m) (k:Int):pGet l k=(ci ((mget m (iv k)).getD (iv 0)),(mget m (iv k)).isSome):=by
  cases hg:mget m (iv k) with
  | none =>
    refine pGet_none fun p hp e=> ?_
    subst e
    rw [(h.at_ p.1 p.2).1 hp] at hg;cases hg
  | some x =>
    obtain ⟨v,_,rfl⟩:=I.v' x (h.ok.val hg)
    have hm:=(h.at_ k v).2 hg
    unfold pGet
    cases hf:l.find? fun p=>decide (p.1=k) with
    | none=>have:=List.find?_eq_none.1 hf _ hm;simp at this
    | some p =>
      have h1:p.1=k:=by have:=List.find?_some hf;simpa using this
      have h2:=(h.at_ p.1 p.2).1 (List.mem_of_find?_eq_some hf)
      rw [h1,hg] at h2
      injection h2 with h2
      injection h2 with _ h2
      rw [h2];rfl
theorem pl_unique : ∀ {l l' : PL}, l.Pairwise (fun a b => a.1 < b.1) -> l'.Pairwise (fun a b => a.1 < b.1) -> (∀ p, p ∈ l ↔ p ∈ l') -> l = l'
  | [],[],_,_,_=>rfl
  | [],b::l',_,_,h=>absurd ((h b).2 (List.mem_cons_self ..)) (by simp)
  | a::l,[],_,_,h=>absurd ((h a).1 (List.mem_cons_self ..)) (by simp)
  | a :: l, b :: l', h1, h2, h => by
    rw [List.pairwise_cons] at h1 h2
    have e:a=b:=by
      rcases List.mem_cons.1 ((h a).1 (List.mem_cons_self ..)) with e | hm
      · exact e
      · rcases List.mem_cons.1 ((h b).2 (List.mem_cons_self ..)) with e | hm'
        · exact e.symm
        · have:=h2.1 _ hm;have:=h1.1 _ hm';omega
    subst e
    rw [pl_unique h1.2 h2.2 fun v=> ?_]
    constructor
    · intro hv
      rcases List.mem_cons.1 ((h v).1 (List.mem_cons_of_mem _ hv)) with e | hm
      · subst e;exact absurd (h1.1 _ hv) (Int.lt_irrefl _)
      · exact hm
    · intro hv
      rcases List.mem_cons.1 ((h v).2 (List.mem_cons_of_mem _ hv)) with e | hm
      · subst e;exact absurd (h2.1 _ hv) (Int.lt_irrefl _)
      · exact hm
theorem DocP.pairs {K : MK} (I : IntK K) {l : PL} {m : KV} (h : DocP K l m) {ks : List Value} (hk : KeysOf .i64 m ks) : pairsOf (iv 0) m ks = pvs l /\ ks = l.map fun p => iv p.1 := by
  have e:(ks.map fun k=>(ci k,ci ((mget m k).getD (iv 0))))=l:=by
    refine pl_unique ?_ h.r fun p=> ?_
    · rw [List.pairwise_map];exact hk.2.1
    · rw [List.mem_map]
      constructor
      · rintro ⟨k,hkk,rfl⟩
        obtain ⟨n,rfl⟩:=hk.2.2 k hkk
        obtain ⟨e,he,h1⟩:=List.mem_map.1 (hk.1.mem_iff.1 hkk)
        have hg:=mget_of_mem h.ok.once he
        rw [h1] at hg
        obtain ⟨v,_,hv⟩:=I.v' _ (h.ok.val hg)
        rw [hg,hv]
        exact (h.at_ n v).2 (by rw [hg,hv])
      · intro hp
        have hg:=(h.at_ p.1 p.2).1 hp
        refine ⟨iv p.1,hk.1.mem_iff.2 (List.mem_map_of_mem (f:=(·.1)) (mget_mem hg)),?_⟩
        rw [hg];rfl
  have hint: ∀k∈ks,(mget m k).getD (iv 0)=iv (ci ((mget m k).getD (iv 0)))/\k=iv (ci k):=by
    intro k hkk
    obtain ⟨n,rfl⟩:=hk.2.2 k hkk
    refine ⟨?_,rfl⟩
    cases hg:mget m (iv n) with
    | none=>rfl
    | some x=>obtain ⟨v,_,rfl⟩:=I.v' x (h.ok.val hg);rfl
  rw [←e]
  unfold pairsOf pvs
  rw [List.map_map,List.map_map]
  refine ⟨List.map_congr_left fun k hkk=> ?_,?_⟩
  · obtain ⟨n,rfl⟩:=hk.2.2 k hkk
    show Value.agg #[iv n,(mget m (iv n)).getD (iv 0)]=Value.agg #[iv n,iv (ci ((mget m (iv n)).getD (iv 0)))]
    rw [←(hint _ hkk).1]
  · conv=>lhs;rw [←List.map_id ks]
    exact List.map_congr_left fun k hkk=>(hint k hkk).2
theorem DocP.len {K:MK} (I:IntK K) {l:PL} {m:KV} (h:DocP K l m):m.length=l.length:=by
  obtain ⟨z,hz⟩:=keysOf_wit (SO1.int I h.ok).1 h.ok.once
  have:=(h.pairs I hz).2
  have h2:=hz.len
  rw [this,List.length_map] at h2
  exact h2.symm
end Go.Sx
set_option linter.unusedVariables false
set_option linter.unusedSimpArgs false
namespace Go.Sx
open Go.RowKit
structure Doc (K:MK) (ln:List Int) (m:KV):Prop where
  s: ∃c,SpS K ln m c
  r:ln.Pairwise (· < ·)
  w: ∀x∈ln,(Lit.int .u32 x).wf=true
theorem Doc.ok {K:MK} {ln:List Int} {m:KV} (h:Doc K ln m):KOK K m:=h.s.elim fun _ q=>q.ok
theorem Doc.nil {K:MK}:Doc K [] []:=⟨⟨0,SpS.nil⟩,List.Pairwise.nil,fun _ h=>by cases h⟩
theorem Doc.has {K:MK} {ln:List Int} {m:KV} (h:Doc K ln m) (i:Int):hasI m i=decide (i∈ln):=by
  obtain ⟨c,q⟩:=h.s
  rw [Bool.eq_iff_iff,q.has,decide_eq_true_eq]
theorem Doc.len {K:MK} (I:WdK K) {ln:List Int} {m:KV} (h:Doc K ln m):m.length<=ln.length:=h.s.elim fun _ q=>q.len I
theorem Doc.keyb {K:MK} {ln:List Int} {m:KV} (h:Doc K ln m) {l:List Value} (hx:KeysOf .u32 m l): ∀v∈l,0<=ci v/\ci v<=67108863:=h.s.elim fun _ q=>q.keyb h.w hx
theorem SpS.congr {K:MK} {P Q:List Int} {m:KV} {c:Nat} (h:SpS K P m c) (e: ∀x,x∈Q↔x∈P):SpS K Q m c:=
  ⟨h.ok,fun w b hb=>by rw [h.bit w b hb];simp only [e],fun w=>by rw [h.key w];simp only [e],h.cnt⟩
theorem Doc.put {K:MK} (I:WdK K) {ln:List Int} {m:KV} (h:Doc K ln m) {x:Int} (hx:(Lit.int .u32 x).wf=true):Doc K (if x∈ln then ln else pIns ln x) (putO m x):=by
  obtain ⟨c,q⟩:=h.s
  by_cases hi:x∈ln
  · rw [if_pos hi]
    have hh:=(q.has x).2 hi
    unfold putO
    rw [if_pos hh]
    exact h
  · rw [if_neg hi]
    obtain ⟨h1,h2⟩:=pIns_rise h.r hi
    refine ⟨⟨_,(q.put I x).congr fun v=> ?_⟩,h1,fun v hv=> ?_⟩
    · rw [h2,List.mem_append,List.mem_singleton]
    · rcases (h2 v).1 hv with r | r
      · exact h.w v r
      · exact r▸hx
theorem Doc.eqm {K:MK} (I:WdK K) {ln:List Int} {m n:KV} (h:Doc K ln m) (hn:KOK K n) (e:EqM n m):Doc K ln n:=by
  obtain ⟨c,q⟩:=h.s
  have hw: ∀w,wd n w=wd m w:=fun w=>by unfold wd;rw [e]
  refine ⟨⟨totW n,hn,fun w b hb=>by rw [hw];exact q.bit w b hb,fun w=>by rw [e];exact q.key w,rfl⟩,h.r,h.w⟩
theorem pIns_len {ln : List Int} {x : Int} (h : ln.Pairwise (· < ·)) : (if x ∈ ln then ln else pIns ln x).length <= ln.length + 1 := by
  by_cases hi:x∈ln
  · rw [if_pos hi];omega
  · rw [if_neg hi, pIns_eq h hi]
    have hp: ∀l:List Int,x∉l->(l.filter (fun y=>decide (y<x))).length+(l.filter (fun y=>decide (x<y))).length<=l.length:=by
      intro l
      induction l with
      | nil=>simp
      | cons a l ih =>
        intro hn
        have:=ih (fun q=>hn (List.mem_cons_of_mem _ q))
        simp only [List.filter_cons,List.length_cons]
        by_cases h1:a<x
        · have h2: ¬x<a:=by omega
          simp [h1,h2];omega
        · by_cases h2:x<a
          · simp [h1,h2];omega
          · simp [h1,h2];omega
    have:=hp ln hi
    rw [List.length_append,List.length_cons];omega
structure SpD (K:MK) (ent:KV->Value->Ent) (i:Nat) (m:KV) (L:List Ent) (mark:Int) (bm:KV) (vn vk:Value):Prop where
  ex: ∃ (hs:List KV) (ln lk:List Int) (h0:KV),SB K ent hs L m/\(hs++ [m])[mark.toNat]? =some h0/\Doc K ln m/\Doc K lk h0/\InBag bm vn (uvs ln)/\InBag bm vk (uvs lk)/\ln.length<=i/\lk.length<=i
  m0:0<=mark
  m1:mark<=((L.length:Nat):Int)
  l:L.length<=i
theorem SpD.start {K:MK} {ent:KV->Value->Ent}:SpD K ent 0 [] [] 0 [] (sv .nil) (sv .nil):=
  ⟨⟨[],[],[],[],SB.start,rfl,Doc.nil,Doc.nil,InBag.nil (fun _ h=>by cases h),InBag.nil (fun _ h=>by cases h),Nat.le_refl _,Nat.le_refl _⟩,Int.le_refl _,Int.le_refl _,Nat.le_refl _⟩
theorem SpD.jr {K:MK} {ent:KV->Value->Ent} {i:Nat} {m:KV} {L:List Ent} {mark:Int} {bm:KV} {vn vk:Value} (h:SpD K ent i m L mark bm vn vk): ∃hs,Jr K ent hs L m:=by
  obtain ⟨hs,ln,lk,h0,h1,_⟩:=h.ex
  exact ⟨hs,h1.jr⟩
theorem SpD.mark {K:MK} {ent:KV->Value->Ent} {i:Nat} {m:KV} {L:List Ent} {mark:Int} {bm:KV} {vn vk:Value} (h:SpD K ent i m L mark bm vn vk) {x:Int} (hx:x=((L.length:Nat):Int)):SpD K ent (i+1) m L x bm vn vn:=by
  obtain ⟨hs,ln,lk,h0,h1,h2,h3,h4,h5,h6,h7,h8⟩:=h.ex
  have hl:=h1.jr.1
  have:=h.l
  exact ⟨⟨hs,ln,ln,m,h1,by rw [hx,Int.toNat_natCast,←hl];simp,h3,h3,h5,h5,by omega,by omega⟩,by omega,by omega,by omega⟩
theorem SpD.back {K:MK} (I:WdK K) {ent:KV->Value->Ent} {b:Nat} (E:EntOK b ent) {i:Nat} {m:KV} {L:List Ent} {mark:Int} {bm:KV} {vn vk:Value} (h:SpD K ent i m L mark bm vn vk) {m' :KV} (hu:m' =undoB b (L.drop mark.toNat) m):SpD K ent (i+1) m' (L.take mark.toNat) mark bm vk vk:=by
  obtain ⟨hs,ln,lk,h0,h1,h2,h3,h4,h5,h6,h7,h8⟩:=h.ex
  have hm1:=h.m1
  have hm0:=h.m0
  have hl:=h1.jr.1
  have:=h.l
  obtain ⟨S5,q5⟩:=h1.back E (n:=mark.toNat) (by omega) h2
  rw [←hu] at S5 q5
  have hd:=h4.eqm I S5.ok q5
  have ht:(hs.take mark.toNat).length=mark.toNat:=by rw [List.length_take];omega
  have ht2:(L.take mark.toNat).length=mark.toNat:=by rw [List.length_take];omega
  exact ⟨⟨_,lk,lk,m',S5,by rw [List.getElem?_append_right (by omega),ht];simp,hd,hd,h6,h6,by omega,by omega⟩,hm0,by rw [ht2];omega,by rw [ht2];omega⟩
theorem SpD.put {K:MK} (I:WdK K) {ent:KV->Value->Ent} {i:Nat} {m:KV} {L:List Ent} {mark:Int} {bm:KV} {vn vk:Value} (h:SpD K ent i m L mark bm vn vk) {x:Int} (hx:(Lit.int .u32 x).wf=true) {y:KV×Value×Bool} (pb:PutB bm vn x y) {m' :KV} {L' :List Ent}
    (p:m' =putO m x/\L' =bif hasI m x then L else L++ [ent m (u32v (x/64))]):SpD K ent (i+1) m' L' mark y.1 y.2.1 vk:=by
  obtain ⟨hs,ln,lk,h0,h1,h2,h3,h4,h5,h6,h7,h8⟩:=h.ex
  have hm1:=h.m1
  have hm0:=h.m0
  have hl:=h1.jr.1
  have hL:=h.l
  obtain ⟨p1,p2⟩:=p
  subst p1
  obtain ⟨_,pb2,pb3⟩:=pb
  rw [h5.bl] at pb2
  have hd:=h3.put I hx
  have hn:=pIns_len (x:=x) h3.r
  cases hh:hasI m x with
  | true =>
    rw [hh] at p2
    have p2' :L' =L:=p2
    subst p2'
    have e:putO m x=m:=put_again hh
    rw [e] at hd ⊢
    exact ⟨⟨hs,_,lk,h0,h1,h2,hd,h4,pb2,pb3 _ _ h6,by omega,by omega⟩,hm0,hm1,by omega⟩
  | false =>
    rw [hh] at p2
    have p2' :L' =L++ [ent m (u32v (x/64))]:=p2
    subst p2'
    have e:putO m x=putM m x:=by unfold putO;rw [if_neg (by rw [hh];decide)]
    obtain ⟨j,o⟩:=h1.jr.set h1.ok (I.k (x/64)) (I.v _ (setW_W (wd_W I h1.ok (x/64)) (b:=(x%64).toNat) (by omega)))
    obtain ⟨z,z1,z2⟩:=h1.zero
    have S2:SB K ent (hs++ [m]) (L++ [ent m (u32v (x/64))]) (putO m x):=by
      rw [e]
      exact ⟨j,o,z,by rw [List.getElem?_append_left (by simp)];exact z1,z2⟩
    refine ⟨⟨_,_,lk,h0,S2,by rw [List.getElem?_append_left (by simp;omega)];exact h2,hd,h4,pb2,pb3 _ _ h6,by omega,by omega⟩,hm0,?_,?_⟩
    · rw [List.length_append,List.length_singleton];omega
    · rw [List.length_append,List.length_singleton];omega
end Go.Sx
set_option linter.unusedVariables false
set_option linter.unusedSimpArgs false
namespace Go.Sx
open Go.RowKit
end Go.Sx
set_option linter.unusedVariables false
set_option linter.unusedSimpArgs false
namespace Go.Sx
open Go.RowKit
noncomputable def bb (m:KV) (v:Value):List BT:=(bget m v).map unB
structure InB (m:KV) (v:Value) (l:List BT):Prop where
  inb:InBag m v (l.map bV)
  ok: ∀b∈l,okB b
theorem InB.bb {m:KV} {v:Value} {l:List BT} (h:InB m v l):Sx.bb m v=l:=by
  unfold Sx.bb
  rw [h.inb.get,List.map_map]
  conv=>rhs;rw [←List.map_id l]
  exact List.map_congr_left fun b hb=>unB_bV (h.ok b hb)
theorem InB.self {m:KV} {v:Value} {l:List BT} (h:InB m v l):InB m v (Sx.bb m v):=by rw [h.bb];exact h
def NewBB (bm:KV) (l:List BT) (x:KV×Slc):Prop:=InB x.1 (slV x.2) l/\ ∀v' k',InBag bm v' k' ->InBag x.1 v' k'
theorem NewBB.mono {bm:KV} {l:List BT} {x:KV×Slc} (h:NewBB bm l x) {v:Value} {k:List BT} (hb:InB bm v k):InB x.1 v k:=⟨h.2 _ _ hb.inb,hb.ok⟩
theorem bagK_upd {P:Program} {f:FuncId} {args:Array Value} {k:Nat} {e:TypeId} {m:KV} {v:Value} {l:List Value} {Y:Type} {G:Y->List Slot} {g:Value->Bool×Y->Value} {Ψ:Bool×RK k×Y->Prop} (en:EnterOK P f) (hr:InBag m v l)
    (h: ∀r:RK k,sv r.1=v->vals r.1=l->CallT P f args [sk e r.1] (Bool×RK k×Y) (fun x=>g (bif x.1 then sv x.2.1.1 else v) (x.1,x.2.2)) (fun x=>sk e r.1::sk e x.2.1.1::G x.2.2) Ψ):
    CallT P f args [bagK k e m] (KV×Slc×Bool×Y) (fun x=>g (slV x.2.1) x.2.2) (fun x=>bagK k e x.1::G x.2.2.2)
      (fun x=> ∃q,(∃y:RK k,Ψ (x.2.2.1,y,x.2.2.2)/\(x.2.2.1=true->q=vals y.1))/\(x.2.2.1=false->q=l)/\InBag x.1 (slV x.2.1) q/\ ∀v' k',InBag m v' k' ->InBag x.1 v' k'):=by
  have h1:=bagK_read (us:=fun x:Bool×RK k×Y=>sk e x.2.1.1::G x.2.2) en hr h
  refine h1.imp (fun R w ho=>ho) ?_
  rintro ⟨b,y,z⟩ R w hx ho
  cases b with
  | true =>
    obtain ⟨m',h3,h4,h5⟩:=bagK_shut1 (l:=G z) ho
    obtain ⟨x,e1⟩:=sv_slc y.1
    exact ⟨(m',x,true,z),⟨vals y.1,⟨y,hx,fun _=>rfl⟩,(fun q=>by cases q),e1▸h5 hr.ok,h4⟩,by show g (sv y.1) _=_;rw [e1],h3⟩
  | false =>
    obtain ⟨r,e2,_⟩:=hr.row
    obtain ⟨x,e1⟩:=sv_slc r
    have hp:(bagK k e m::sk e y.1::G z).Perm ((bagK k e m::G z)++ [sk e y.1]):=List.Perm.cons _ (List.perm_append_singleton _ _).symm
    exact ⟨(m,x,false,z),⟨l,⟨y,hx,fun q=>by cases q⟩,fun _=>rfl,by rw [←e1,←e2];exact hr,fun _ _ q=>q⟩,by show g v _=_;rw [e2,e1],Imp.drop (bagK k e m::G z) [sk e y.1] R w (own_perm hp R w ho)⟩
theorem newBB_wit {bm:KV} {v:Value} {k:List BT} (h:InB bm v k) {l:List BT} (ho: ∀b∈l,okB b): ∃x,NewBB bm l x:=by
  obtain ⟨B,hB⟩:=fresh_blk bm
  have hn:mget bm (sv (.mk B (l.map bV) []))=none:=mget_none.2 fun e he q=>by
    have:=hB e he _ _ _ q
    exact absurd this (Nat.lt_irrefl _)
  exact ⟨(bm++ [rowE (.mk B (l.map bV) [])],(some ⟨B,0,none⟩,(l.map bV).length,(l.map bV).length+0)),⟨InBag.new h.inb.ok (by simp) hn,ho⟩,fun v' k' q=>q.add (by simp) hn⟩
theorem okB_lst {l:List BT} (h: ∀b∈l,okB b):okB (lstL l):=by
  unfold lstL
  rw [List.getLastD_eq_getLast?]
  cases hl:l.getLast? with
  | none=>exact okB0
  | some b=>exact h b (List.mem_of_getLast? hl)
theorem okB_new {l:List BT} (h: ∀b∈l,okB b) {po to:Int} {r:Nat->Int} {poster:Int} {g:Nat->Int} {block:Int} (hpo:0<=po/\po<=1000000) (hto:(Lit.int .u64 to).wf=true) (hbl:(Lit.int .u64 block).wf=true):okB (newB20 l po to r poster g block):=
  ⟨wf32' (by simp only [newB20];exact hpo.1) (by simp only [newB20];show po<=_;omega),(okB_lst h).to,hto,hbl,fnL_rest rfl⟩
def postL (l:List BT) (po to:Int) (r:Nat->Int) (poster:Int) (h:Nat->Int) (block:Int):List BT:=if postE l to poster block=0 then l++ [newB20 l po to r poster h block] else l
def finR20 (l:List BT) (w a:Int):List BT:=if finE l w a=0 then finL l else l
theorem postL_ok {l:List BT} (h: ∀b∈l,okB b) {po to:Int} {r:Nat->Int} {poster:Int} {g:Nat->Int} {block:Int} (hpo:0<=po/\po<=1000000) (hto:(Lit.int .u64 to).wf=true) (hbl:(Lit.int .u64 block).wf=true): ∀b∈postL l po to r poster g block,okB b:=by
  unfold postL
  split
  · intro b hb
    rcases List.mem_append.1 hb with q | q
    · exact h b q
    · simp at q;subst q;exact okB_new h hpo hto hbl
  · exact h
theorem revL_ok {l:List BT} (h: ∀b∈l,okB b) {w n a:Int}: ∀b∈revL l w n a,okB b:=by
  unfold revL
  split
  · exact fun b hb=>h b (List.mem_of_mem_take hb)
  · exact h
theorem finR_ok {l : List BT} (h : ∀ b ∈ l, okB b) {w a : Int} : ∀ b ∈ finR20 l w a, okB b := by
  unfold finR20
  split
  · rename_i he
    intro b hb
    unfold finL at hb
    rcases List.mem_or_eq_of_mem_set hb with q | q
    · exact h b q
    · subst q
      unfold finE at he
      split at he
      · rename_i hlt
        have:fstB l∈l:=by unfold fstB;rw [List.getD_eq_getElem?_getD,List.getElem?_eq_getElem hlt];exact List.getElem_mem hlt
        exact okB_fin (h _ this) true
      · cases he
  · exact h
theorem upd_q {p:Prop} [Decidable p] {b:Bool} {q a c:List Value} (h1:b=decide p) (h3:b=true->q=a) (h4:b=false->q=c):q=if p then a else c:=by
  by_cases hp:p
  · rw [if_pos hp];exact h3 (by rw [h1];exact decide_eq_true hp)
  · rw [if_neg hp];exact h4 (by rw [h1];exact decide_eq_false hp)
theorem map_if {p:Prop} [Decidable p] {a c:List BT}:(if p then a.map bV else c.map bV)=(if p then a else c).map bV:=by split<;>rfl
theorem revL_if {l:List BT} {w n a:Int}:(if revE l w n a=0 then revL l w n a else l)=revL l w n a:=by
  unfold revL
  split<;>rfl
theorem rev_wit {bm:KV} {v:Value} {k:List BT} (h:InB bm v k) {l g:List BT} (ho: ∀b∈l,okB b): ∃z,(fun z:(KV×Slc)×RK 42=>NewBB bm l z.1/\vals z.2.1=g.map bV) z:=by
  obtain ⟨x,hx⟩:=newBB_wit h ho
  obtain ⟨y,hy⟩:=wit_rows g
  exact ⟨(x,y),hx,hy⟩
end Go.Sx
set_option linter.unusedVariables false
set_option linter.unusedSimpArgs false
namespace Go.Sx
open Go.RowKit
structure BR (K Kp:MK) (m p:KV) (l:List BT) (po:Int):Prop where
  mb:MB K m l
  kp:KOK Kp p
  nx:nxt p=po
  lt: ∀b∈l,b.1 0<po
  bk: ∀b∈l,0<=b.1 40/\b.1 40<=1099511627776
theorem BR.start {K Kp:MK}:BR K Kp [] [] [] 0:=⟨MB.nil,KOK.nil,rfl,fun b h=>(by cases h),fun b h=>by cases h⟩
theorem BR.last {K Kp:MK} {m p:KV} {l:List BT} {po:Int} (h:BR K Kp m p l po):lastB m=lstL l:=by unfold lastB lstL;rw [h.mb.all]
theorem BR.lend {K Kp:MK} {m p:KV} {l:List BT} {po:Int} (h:BR K Kp m p l po):(lastB m).1 2=endL l:=by rw [h.last];rfl
theorem findL_nn {l:List BT} {n:Int} {b:BT} (hb:b∈l) (e:b.1 0=n): ¬findL l n<0:=by
  have h1:findN l n<l.length:=List.findIdx_lt_length_of_exists ⟨b,hb,by simpa using e⟩
  unfold findL
  rw [if_pos h1];omega
theorem BR.mget {K Kp:MK} {m p:KV} {l:List BT} {po:Int} (h:BR K Kp m p l po) (n:Int):Go.Sx.mget m (.int .u32 n)=if findL l n<0 then none else some (bV (atL l n)):=by
  by_cases hf:findL l n<0
  · rw [if_pos hf]
    cases hg:Go.Sx.mget m (.int .u32 n) with
    | none=>rfl
    | some v =>
      obtain ⟨b,hb,e1,e2⟩:=(h.mb.get _ _).1 hg
      injection e1 with _ e1
      exact absurd hf (findL_nn hb e1.symm)
  · rw [if_neg hf]
    obtain ⟨b,h1,h2,h3,h4⟩:=findL_pos hf
    rw [atL_of h1]
    exact (h.mb.get _ _).2 ⟨b,List.mem_of_getElem? h1,by unfold nk;rw [h2],rfl⟩
theorem BR.cov {K Kp:MK} {m p:KV} {l:List BT} {po:Int} (h:BR K Kp m p l po) (n i:Int):covB m n i=covL l n i:=by
  unfold covB covL
  dsimp only
  rw [h.mget]
  by_cases hf:findL l n<0
  · rw [if_pos hf,if_pos hf];rfl
  · rw [if_neg hf,if_neg hf,Option.getD_some,unB_bV (atL_ok h.mb.ok hf).1];rfl
theorem filter_drop {l:List BT} (up:l.Pairwise fun a b=>a.1 0<b.1 0) {n:Int} (hf: ¬findL l n<0):l.filter (fun b=>decide (b.1 0<n))=l.take (findL l n).toNat/\l.filter (fun b=> !decide (b.1 0<n))=l.drop (findL l n).toNat:=by
  obtain ⟨j,hj,h1,hij⟩:=filter_take up n
  obtain ⟨b,hb,hn,hlt,h0⟩:=findL_pos hf
  have hji:j=(findL l n).toNat:=by
    have h2:=hij _ _ hb
    rcases Nat.lt_or_ge j (findL l n).toNat with q | q
    · have hjl:j<l.length:=by omega
      have h3:=hij j _ (List.getElem?_eq_getElem hjl)
      have h4:=List.pairwise_iff_getElem.1 up j _ hjl hlt q
      rw [(List.getElem?_eq_some_iff.1 hb).2,hn] at h4
      have:=h3.2 h4;omega
    · rcases Nat.lt_or_ge (findL l n).toNat j with q2 | q2
      · have:=h2.1 q2;omega
      · omega
  rw [←hji]
  refine ⟨h1,?_⟩
  conv=>lhs;rw [←List.take_append_drop j l]
  rw [List.filter_append]
  have ha:(l.take j).filter (fun b=> !decide (b.1 0<n))= []:=by
    rw [List.filter_eq_nil_iff]
    intro x hx
    obtain ⟨i,hi,rfl⟩:=List.mem_iff_getElem.1 hx
    have hi' :i<j:=by rw [List.length_take] at hi;omega
    have hl:i<l.length:=by omega
    have:=(hij i _ (List.getElem?_eq_getElem hl)).1 hi'
    simpa using this
  have hb' :(l.drop j).filter (fun b=> !decide (b.1 0<n))=l.drop j:=by
    rw [List.filter_eq_self]
    intro x hx
    obtain ⟨i,hi,rfl⟩:=List.mem_iff_getElem.1 hx
    have hl:j+i<l.length:=by rw [List.length_drop] at hi;omega
    have:=hij (j+i) _ (List.getElem?_eq_getElem hl)
    have h5: ¬ (l[j+i].1 0<n):=fun q=>by have:=this.2 q;omega
    rw [List.getElem_drop]
    simpa using h5
  rw [ha,hb',List.nil_append]
theorem BR.rev {K Kp : MK} {m p : KV} {l : List BT} {po : Int} (h : BR K Kp m p l po) (w n a : Int) : (revB m w n a).1 = (revG l w n a, revE l w n a) /\ BR K Kp (revB m w n a).2 p (revL l w n a) po := by
  have hsub: ∀b∈revL l w n a,b∈l:=by
    unfold revL
    split
    · exact fun b hb=>List.mem_of_mem_take hb
    · exact fun b hb=>hb
  have fin: ∀m',MB K m' (revL l w n a)->BR K Kp m' p (revL l w n a) po:=fun m' hm=>⟨hm,h.kp,h.nx,fun b hb=>h.lt b (hsub b hb),fun b hb=>h.bk b (hsub b hb)⟩
  by_cases hf:findL l n<0
  · have hE:revE l w n a=10:=by unfold revE;rw [if_pos hf]
    have hB:revB m w n a=(([],10),m):=by unfold revB;dsimp only;rw [h.mget,if_pos hf];rfl
    rw [hB]
    refine ⟨by unfold revG;rw [hE];rfl,fin _ ?_⟩
    unfold revL;rw [hE];exact h.mb
  · have hok:=atL_ok h.mb.ok hf
    have hg:=h.mget n
    rw [if_neg hf] at hg
    have hs:(Go.Sx.mget m (.int .u32 n)).isSome=true:=by rw [hg];rfl
    have hu:unB ((Go.Sx.mget m (.int .u32 n)).getD (bV b0))=atL l n:=by rw [hg,Option.getD_some,unB_bV hok.1]
    by_cases h2:(atL l n).2=true
    · have hE:revE l w n a=11:=by unfold revE;rw [if_neg hf,if_pos h2]
      have hB:revB m w n a=(([],11),m):=by unfold revB;dsimp only;rw [hs,hu,if_neg (by decide),if_pos h2]
      rw [hB]
      refine ⟨by unfold revG;rw [hE];rfl,fin _ ?_⟩
      unfold revL;rw [hE];exact h.mb
    · by_cases h3:openB w ((atL l n).1 40) a=false
      · have hE:revE l w n a=15:=by unfold revE;rw [if_neg hf,if_neg h2,if_pos h3]
        have hB:revB m w n a=(([],15),m):=by unfold revB;dsimp only;rw [hs,hu,if_neg (by decide),if_neg h2,if_pos h3]
        rw [hB]
        refine ⟨by unfold revG;rw [hE];rfl,fin _ ?_⟩
        unfold revL;rw [hE];exact h.mb
      · have hE:revE l w n a=0:=by unfold revE;rw [if_neg hf,if_neg h2,if_neg h3]
        have hB:revB m w n a=((l.filter fun b=> !decide (b.1 0<n),0),dropB m (l.filter fun b=> !decide (b.1 0<n))):=by unfold revB;dsimp only;rw [hs,hu,if_neg (by decide),if_neg h2,if_neg h3,h.mb.all]
        obtain ⟨f1,f2⟩:=filter_drop h.mb.up hf
        have hd:=h.mb.drop n
        rw [hB]
        refine ⟨by unfold revG;rw [hE,if_pos rfl,f2],fin _ ?_⟩
        unfold revL;rw [hE,if_pos rfl,←f1];exact hd
theorem BR.fin {K Kp : MK} (B : KB K) {m p : KV} {l : List BT} {po : Int} (h : BR K Kp m p l po) (w a : Int) : (finB m w a).1 = ((bif decide (finE l w a = 0) then ((fstB l).1, true) else b0), finE l w a) /\ BR K Kp (finB m w a).2 p (finR20 l w a) po := by
  by_cases hf:fstL l<l.length
  · have hi:l[fstL l]? =some (fstB l):=by unfold fstB;rw [List.getD_eq_getElem?_getD,List.getElem?_eq_getElem hf];rfl
    have hb:(fstB l).2=false:=by
      have:=List.findIdx_getElem (p:=fun b:BT=> !b.2) (w:=hf)
      unfold fstB
      rw [List.getD_eq_getElem?_getD,List.getElem?_eq_getElem hf]
      have h5:(!(l[fstL l]'hf).2)=true:=this
      cases h6:(l[fstL l]'hf).2 with
      | false=>exact h6
      | true=>rw [h6] at h5;cases h5
    have hn: ∀j c,j<fstL l->l[j]? =some c->c.2=true:=fun j c hj hc=>by
      have:=List.not_of_lt_findIdx (p:=fun b:BT=> !b.2) (xs:=l) hj
      obtain ⟨hjl,rfl⟩:=List.getElem?_eq_some_iff.1 hc
      simpa using this
    have hF:=find_at hn hi hb
    by_cases ho:openB w ((fstB l).1 40) a=true
    · have hE:finE l w a=15:=by unfold finE;rw [if_pos hf,if_pos ho]
      have hB:finB m w a=((b0,15),m):=by unfold finB;rw [h.mb.all,hF];dsimp only;rw [if_pos ho]
      rw [hB]
      refine ⟨by rw [hE];rfl,?_⟩
      unfold finR20;rw [hE];exact h
    · have hE:finE l w a=0:=by unfold finE;rw [if_pos hf,if_neg ho]
      have hB:finB m w a=((((fstB l).1,true),0),mset m (.int .u32 ((fstB l).1 0)) (bV ((fstB l).1,true))):=by unfold finB;rw [h.mb.all,hF];dsimp only;rw [if_neg ho]
      rw [hB]
      refine ⟨by rw [hE];rfl,?_⟩
      unfold finR20;rw [hE,if_pos rfl]
      have hmem:=List.mem_of_getElem? hi
      have hm:=h.mb.put B hi (okB_fin (h.mb.ok _ hmem) true) rfl
      refine ⟨hm,h.kp,h.nx,fun b hb=> ?_,fun b hb=> ?_⟩
      · rcases List.mem_or_eq_of_mem_set hb with q | rfl
        · exact h.lt b q
        · exact h.lt (fstB l) hmem
      · rcases List.mem_or_eq_of_mem_set hb with q | rfl
        · exact h.bk b q
        · exact h.bk (fstB l) hmem
  · have hn: ∀j c,j<l.length->l[j]? =some c->c.2=true:=fun j c hj hc=>by
      have:=List.not_of_lt_findIdx (p:=fun b:BT=> !b.2) (xs:=l) (i:=j) (by unfold fstL at hf;omega)
      obtain ⟨hjl,rfl⟩:=List.getElem?_eq_some_iff.1 hc
      simpa using this
    have hE:finE l w a=10:=by unfold finE;rw [if_neg hf]
    have hB:finB m w a=((b0,10),m):=by unfold finB;rw [h.mb.all,find_no hn]
    rw [hB]
    refine ⟨by rw [hE];rfl,?_⟩
    unfold finR20;rw [hE];exact h
theorem BR.post {K Kp : MK} (B : KB K) (P : KP Kp) {m p : KV} {l : List BT} {po : Int} (h : BR K Kp m p l po) {to : Int} {r : Nat -> Int} {poster : Int} {g : Nat -> Int} {block : Int} (hpo : 0 <= po /\ po <= 1000000) (hto : (Lit.int .u64 to).wf = true) (hbl : (Lit.int .u64 block).wf = true) :
    (postB m p to r poster g block).1=((bif decide (postE l to poster block=0) then newB20 l po to r poster g block else b0),postE l to poster block)/\
    BR K Kp (postB m p to r poster g block).2.1 (postB m p to r poster g block).2.2 (postL l po to r poster g block) (bif decide (postE l to poster block=0) then po+1 else po):=by
  have hl:=h.last
  have hbl2:=wfW hbl
  unfold W at hbl2
  by_cases h1:16<=poster∨1099511627776<block
  · have hE:postE l to poster block=1:=by unfold postE;rw [if_pos h1]
    have hB:postB m p to r poster g block=((b0,1),m,p):=by unfold postB;rw [if_pos h1]
    rw [hB,hE]
    refine ⟨rfl,?_⟩
    unfold postL;rw [hE];exact h
  · have hiff:(to<(lastB m).1 2∨block<(lastB m).1 40)↔(to<endL l∨(0<l.length/\block<(lstL l).1 40)):=by
      rw [hl]
      show (to<endL l∨_)↔_
      by_cases q:0<l.length
      · simp [q]
      · have:l= []:=List.length_eq_zero_iff.1 (by omega)
        subst this
        have:(lstL []).1 40=0:=rfl
        rw [this]
        constructor
        · rintro (q | q)
          · exact .inl q
          · omega
        · rintro (q | q)
          · exact .inl q
          · exact absurd q.1 (by simp)
    by_cases h2:to<endL l∨(0<l.length/\block<(lstL l).1 40)
    · have hE:postE l to poster block=11:=by unfold postE;rw [if_neg h1,if_pos h2]
      have hB:postB m p to r poster g block=((b0,11),m,p):=by unfold postB;rw [if_neg h1,if_pos (hiff.2 h2)]
      rw [hB,hE]
      refine ⟨rfl,?_⟩
      unfold postL;rw [hE];exact h
    · have hE:postE l to poster block=0:=by unfold postE;rw [if_neg h1,if_neg h2]
      have hnx:ci ((Go.Sx.mget p (.int .u8 0)).getD (.int .u32 0))=po:=h.nx
      have hB:postB m p to r poster g block=((newB20 l po to r poster g block,0),mset m (.int .u32 po) (bV (newB20 l po to r poster g block)),mset p (.int .u8 0) (.int .u32 (po+1))):=by
        unfold postB;rw [if_neg h1,if_neg (fun q=>h2 (hiff.1 q)),hnx,if_neg (by omega),hl];rfl
      have hnew:=okB_new h.mb.ok (r:=r) (poster:=poster) (g:=g) hpo hto hbl
      rw [hB,hE]
      refine ⟨rfl,?_⟩
      unfold postL;rw [hE,if_pos rfl]
      have hm:=h.mb.add B hnew (fun a ha=>h.lt a ha)
      refine ⟨hm,h.kp.set P.k (P.v _ (wf32' (by omega) (by omega))),by unfold nxt;rw [mget_set,if_pos rfl];rfl,fun b hb=> ?_,fun b hb=> ?_⟩
      · show b.1 0<po+1
        rcases List.mem_append.1 hb with q | q
        · have:=h.lt b q;omega
        · simp at q;subst q;show po<po+1;omega
      · rcases List.mem_append.1 hb with q | q
        · exact h.bk b q
        · simp at q;subst q;show 0<=block/\block<=_;omega
theorem BR.eqm {K Kp:MK} {m p m2 p2:KV} {l:List BT} {po:Int} (h:BR K Kp m p l po) (hm:MOK m2) (em:EqM m2 m) (hp:MOK p2) (ep:EqM p2 p):BR K Kp m2 p2 l po:=
  ⟨⟨h.mb.kok.of_eq hm em,h.mb.ok,h.mb.up,fun k v=>by rw [em k];exact h.mb.get k v⟩,h.kp.of_eq hp ep,by rw [←h.nx];unfold nxt;rw [ep],h.lt,h.bk⟩
end Go.Sx
set_option linter.unusedVariables false
set_option linter.unusedSimpArgs false
namespace Go.Sx
open Go.RowKit
structure BS2 (K Kp:MK) (m p gm:KV) (v:Value) (po:Int):Prop where
  r:BR K Kp m p (bb gm v) po
  b:InB gm v (bb gm v)
theorem BS2.of {K Kp:MK} {m p gm:KV} {v:Value} {po:Int} {l:List BT} (r:BR K Kp m p l po) (b:InB gm v l):BS2 K Kp m p gm v po:=⟨by rw [b.bb];exact r,b.self⟩
abbrev DoX:=KV×KV×List Ent×KV×Slc×Int
structure DoR (K Kp:MK) (E Ep:Nat->KV->Value->Ent) (bm bp:Nat) (m p:KV) (L:List Ent) (gm:KV) (v:Value) (po:Int) (x:DoX):Prop where
  s:BS2 K Kp x.1 x.2.1 x.2.2.2.1 (slV x.2.2.2.2.1) x.2.2.2.2.2
  d:Dp K Kp E Ep bm bp m p x.1 x.2.1 L x.2.2.1 (1002+(bb gm v).length)
  g: ∀v' k',InBag gm v' k' ->InBag x.2.2.2.1 v' k'
  l:(bb x.2.2.2.1 (slV x.2.2.2.2.1)).length<=(bb gm v).length+1
  po:po<=x.2.2.2.2.2/\x.2.2.2.2.2<=po+1
theorem DoR.post {K Kp:MK} (B:KB K) (P:KP Kp) {E Ep:Nat->KV->Value->Ent} {bm bp:Nat} (hE:EntOK bm (E bm)) (hE' :EntOK bp (Ep bp)) (hne:bm≠bp) {m p:KV} {L:List Ent} {gm:KV} {v:Value} {po:Int} (s:BS2 K Kp m p gm v po) {to:Int} {r:Nat->Int} {poster:Int} {g:Nat->Int} {block:Int}
    (hpo:0<=po/\po<=1000000) (hto:(Lit.int .u64 to).wf=true) (hbl:(Lit.int .u64 block).wf=true) {y:(BT×Int)×KV×KV×List Ent} (hy:(y.1,y.2.1,y.2.2.1)=postB m p to r poster g block) (hd:Dpost K Kp E Ep bm bp m p y.2.1 y.2.2.1 L y.2.2.2)
    {z:KV×Slc} (hz:NewBB gm (postL (bb gm v) po to r poster g block) z):
    DoR K Kp E Ep bm bp m p L gm v po (y.2.1,y.2.2.1,y.2.2.2,z.1,z.2,bif decide (postE (bb gm v) to poster block=0) then po+1 else po):=by
  obtain ⟨h1,h2⟩:=s.r.post B P (r:=r) (poster:=poster) (g:=g) hpo hto hbl
  rw [←hy] at h2
  obtain ⟨L1,d1,d2⟩:=hd
  refine ⟨BS2.of h2 hz.1,?_,hz.2,?_,?_⟩
  · obtain ⟨Es,e1,e2,e3⟩:=Dp.of2 hE hE' hne d1 d2
    exact ⟨Es,e1,by omega,e3⟩
  · show (bb z.1 (slV z.2)).length<=_
    rw [hz.1.bb];unfold postL;split
    · simp
    · omega
  · show po<=(bif _ then po+1 else po)/\(bif _ then po+1 else po)<=po+1
    cases decide (postE (bb gm v) to poster block=0)<;>simp<;>omega
theorem post_ans {K Kp:MK} (B:KB K) (P:KP Kp) {m p gm:KV} {v:Value} {po:Int} (s:BS2 K Kp m p gm v po) {to:Int} {r:Nat->Int} {poster:Int} {g:Nat->Int} {block:Int}
    (hpo:0<=po/\po<=1000000) (hto:(Lit.int .u64 to).wf=true) (hbl:(Lit.int .u64 block).wf=true) {y:(BT×Int)×KV×KV×List Ent} (hy:(y.1,y.2.1,y.2.2.1)=postB m p to r poster g block):
    y.1.1=(bif decide (postE (bb gm v) to poster block=0) then newB20 (bb gm v) po to r poster g block else b0)/\y.1.2=postE (bb gm v) to poster block:=by
  obtain ⟨h1,h2⟩:=s.r.post B P (r:=r) (poster:=poster) (g:=g) hpo hto hbl
  rw [←hy] at h1
  have h3:y.1=_:=h1
  exact ⟨congrArg Prod.fst h3,congrArg Prod.snd h3⟩
theorem DoR.fin {K Kp:MK} (B:KB K) {E Ep:Nat->KV->Value->Ent} {bm bp:Nat} (hE:EntOK bm (E bm)) (hne:bm≠bp) {m p:KV} {L:List Ent} {gm:KV} {v:Value} {po:Int} (s:BS2 K Kp m p gm v po) {w a:Int}
    {y:(BT×Int)×KV×List Ent} (hy:(y.1,y.2.1)=finB m w a) (hd:Dm K E bm m y.2.1 L y.2.2 1) {z:KV×Slc} (hz:NewBB gm (finR20 (bb gm v) w a) z):DoR K Kp E Ep bm bp m p L gm v po (y.2.1,p,y.2.2,z.1,z.2,po):=by
  obtain ⟨h1,h2⟩:=s.r.fin B w a
  rw [←hy] at h2
  refine ⟨BS2.of h2 hz.1,?_,hz.2,?_,⟨Int.le_refl _,by show po<=po+1;omega⟩⟩
  · obtain ⟨Es,e1,e2,e3⟩:=Dp.of (K' :=Kp) (E' :=Ep) (p:=p) hE hne hd
    exact ⟨Es,e1,by omega,e3⟩
  · show (bb z.1 (slV z.2)).length<=_
    rw [hz.1.bb];unfold finR20;split
    · unfold finL;simp
    · omega
theorem fin_ans {K Kp:MK} (B:KB K) {m p gm:KV} {v:Value} {po:Int} (s:BS2 K Kp m p gm v po) {w a:Int} {y:(BT×Int)×KV×List Ent} (hy:(y.1,y.2.1)=finB m w a):
    y.1.1=(bif decide (finE (bb gm v) w a=0) then ((fstB (bb gm v)).1,true) else b0)/\y.1.2=finE (bb gm v) w a:=by
  obtain ⟨h1,h2⟩:=s.r.fin B w a
  rw [←hy] at h1
  have h3:y.1=_:=h1
  exact ⟨congrArg Prod.fst h3,congrArg Prod.snd h3⟩
theorem DoR.rev {K Kp:MK} {E Ep:Nat->KV->Value->Ent} {bm bp:Nat} (hE:EntOK bm (E bm)) (hne:bm≠bp) {m p:KV} {L:List Ent} {gm:KV} {v:Value} {po:Int} (s:BS2 K Kp m p gm v po) (hl:(bb gm v).length<=1000) {w n a:Int}
    {y:RK 42×Int×KV×List Ent} (h1:vals y.1.1=(revB m w n a).1.1.map bV) (h2:(y.2.1,y.2.2.1)=((revB m w n a).1.2,(revB m w n a).2)) (hd:Dm K E bm m y.2.2.1 L y.2.2.2 (revB m w n a).1.1.length) {z:(KV×Slc)×RK 42} (hz:NewBB gm (revL (bb gm v) w n a) z.1) (hz2:vals z.2.1=(revG (bb gm v) w n a).map bV):
    DoR K Kp E Ep bm bp m p L gm v po (y.2.2.1,p,y.2.2.2,z.1.1,z.1.2,po)/\vals y.1.1=(revG (bb gm v) w n a).map bV/\y.2.1=revE (bb gm v) w n a/\(revG (bb gm v) w n a).length<=1000/\(∀b∈revG (bb gm v) w n a,okB b):=by
  obtain ⟨g1,g2⟩:=s.r.rev w n a
  have e1:y.2.1=(revB m w n a).1.2:=congrArg Prod.fst h2
  have e2:y.2.2.1=(revB m w n a).2:=congrArg Prod.snd h2
  have hlen:(revG (bb gm v) w n a).length<=(bb gm v).length:=by
    unfold revG;split
    · rw [List.length_drop];omega
    · simp
  refine ⟨⟨BS2.of (by show BR K Kp y.2.2.1 p _ po;rw [e2];exact g2) hz.1,?_,hz.2,?_,⟨Int.le_refl _,by show po<=po+1;omega⟩⟩,by rw [h1,g1],by rw [e1,g1],by omega,fun b hb=> ?_⟩
  · obtain ⟨Es,f1,f2,f3⟩:=Dp.of (K' :=Kp) (E' :=Ep) (p:=p) hE hne hd
    rw [g1] at f2
    exact ⟨Es,f1,by dsimp only at f2;omega,f3⟩
  · show (bb z.1.1 (slV z.1.2)).length<=_
    rw [hz.1.bb];unfold revL;split
    · rw [List.length_take];omega
    · omega
  · unfold revG at hb
    split at hb
    · exact s.b.ok b (List.mem_of_mem_drop hb)
    · cases hb
theorem DoR.wit {K Kp:MK} {E Ep:Nat->KV->Value->Ent} {bm bp:Nat} {m p:KV} (L:List Ent) {gm:KV} {v:Value} {po:Int} (s:BS2 K Kp m p gm v po): ∃x,DoR K Kp E Ep bm bp m p L gm v po x:=by
  obtain ⟨r,e1,_⟩:=s.b.inb.row
  obtain ⟨x,e2⟩:=sv_slc r
  have ev:v=slV x:=e1.trans e2
  exact ⟨(m,p,L,gm,x,po),⟨⟨by rw [←ev];exact s.r,by rw [←ev];exact s.b⟩,Dp.refl,fun _ _ h=>h,by show (bb gm (slV x)).length<=_;rw [←ev];omega,⟨Int.le_refl _,by show po<=po+1;omega⟩⟩⟩
end Go.Sx
set_option linter.unusedVariables false
set_option linter.unusedSimpArgs false
namespace Go.Sx
open Go.RowKit
theorem BS2.mono {K Kp:MK} {m p gm:KV} {v:Value} {po:Int} (s:BS2 K Kp m p gm v po) {gm' :KV} (g: ∀v' k',InBag gm v' k' ->InBag gm' v' k'):BS2 K Kp m p gm' v po/\bb gm' v=bb gm v:=by
  have hb:InB gm' v (bb gm v):=⟨g _ _ s.b.inb,s.b.ok⟩
  exact ⟨BS2.of s.r hb,hb.bb⟩
structure BPl (K Kp:MK) (E Ep:Nat->KV->Value->Ent) (bm bp:Nat) (i:Nat) (m p:KV) (L:List Ent) (gm:KV) (v vk:Value) (po pok mark:Int):Prop where
  now:BS2 K Kp m p gm v po
  len:(bb gm v).length<=i
  lenk:(bb gm vk).length<=i
  pos:0<=po/\po<=i
  posk:0<=pok/\pok<=i
  l:L.length<=1100*i
  ex: ∃ (mk pk:KV) (L0:List Ent) (k:Nat),mark=((L0.length:Nat):Int)/\Dp K Kp E Ep bm bp mk pk m p L0 L k/\BS2 K Kp mk pk gm vk pok
theorem BPl.start {K Kp:MK} {E Ep:Nat->KV->Value->Ent} {bm bp:Nat}:BPl K Kp E Ep bm bp 0 [] [] [] [] (slV (none,0,0)) (slV (none,0,0)) 0 0 0:=by
  have hb:InB [] (slV (none,0,0)) []:=⟨InBag.nil fun _ q=>(by cases q),fun b h=>by cases h⟩
  have hs:BS2 K Kp [] [] [] (slV (none,0,0)) 0:=BS2.of BR.start hb
  exact ⟨hs,by rw [hb.bb];exact Nat.le_refl _,by rw [hb.bb];exact Nat.le_refl _,by omega,by omega,Nat.zero_le _,[],[],[],0,rfl,Dp.refl,hs⟩
theorem BPl.act {K Kp:MK} {E Ep:Nat->KV->Value->Ent} {bm bp i:Nat} {m p:KV} {L:List Ent} {gm:KV} {v vk:Value} {po pok mark:Int} (h:BPl K Kp E Ep bm bp i m p L gm v vk po pok mark) (hi:i<=40) {x:DoX} (d:DoR K Kp E Ep bm bp m p L gm v po x):
    BPl K Kp E Ep bm bp (i+1) x.1 x.2.1 x.2.2.1 x.2.2.2.1 (slV x.2.2.2.2.1) vk x.2.2.2.2.2 pok mark:=by
  obtain ⟨mk,pk,L0,k,e1,e2,e3⟩:=h.ex
  obtain ⟨f1,f2⟩:=e3.mono d.g
  have hl:=h.len;have hk:=h.lenk;have hp:=h.pos;have hq:=h.posk;have hL:=h.l;have dl:=d.l;have dp:=d.po
  have hd:x.2.2.1.length<=L.length+(1002+(bb gm v).length):=by
    obtain ⟨Es,g1,g2,_⟩:=d.d
    rw [g1,List.length_append];omega
  exact ⟨d.s,by omega,by rw [f2];omega,by omega,by omega,by omega,mk,pk,L0,_,e1,e2.trans d.d,f1⟩
theorem BPl.mark {K Kp:MK} {E Ep:Nat->KV->Value->Ent} {bm bp i:Nat} {m p:KV} {L:List Ent} {gm:KV} {v vk:Value} {po pok mark:Int} (h:BPl K Kp E Ep bm bp i m p L gm v vk po pok mark):BPl K Kp E Ep bm bp (i+1) m p L gm v v po po ((L.length:Nat):Int):=by
  have hl:=h.len;have hp:=h.pos;have hL:=h.l
  exact ⟨h.now,by omega,by omega,by omega,by omega,by omega,m,p,L,0,rfl,Dp.refl,h.now⟩
theorem BPl.mk_le {K Kp:MK} {E Ep:Nat->KV->Value->Ent} {bm bp i:Nat} {m p:KV} {L:List Ent} {gm:KV} {v vk:Value} {po pok mark:Int} (h:BPl K Kp E Ep bm bp i m p L gm v vk po pok mark):0<=mark/\mark<=((L.length:Nat):Int):=by
  obtain ⟨mk,pk,L0,k,rfl,⟨Es,rfl,_⟩,e3⟩:=h.ex
  rw [List.length_append];omega
theorem BPl.back {K Kp:MK} {E Ep:Nat->KV->Value->Ent} {bm bp i:Nat} {m p:KV} {L:List Ent} {gm:KV} {v vk:Value} {po pok mark:Int} (h:BPl K Kp E Ep bm bp i m p L gm v vk po pok mark) {m2 p2:KV} (u0:m2=undoB bm (L.drop (Int.toNat mark)) m) (u1:p2=undoB bp (L.drop (Int.toNat mark)) p):
    BPl K Kp E Ep bm bp (i+1) m2 p2 (L.take (Int.toNat mark)) gm vk vk pok pok mark:=by
  obtain ⟨mk,pk,L0,k,rfl,e2,e3⟩:=h.ex
  rw [Int.toNat_natCast] at *
  obtain ⟨t,a1,a2,a3,a4⟩:=e2.back h.now.r.mb.kok.once h.now.r.kp.once u0 u1
  have hk:=h.lenk;have hq:=h.posk;have hL:=h.l
  have hs:BS2 K Kp m2 p2 gm vk pok:=⟨e3.r.eqm a1 a2 a3 a4,e3.b⟩
  rw [t]
  have hL0:L0.length<=L.length:=by rw [←t,List.length_take];omega
  exact ⟨hs,by omega,by omega,by omega,by omega,by omega,m2,p2,L0,0,rfl,Dp.refl,hs⟩
theorem BPl.ents {K Kp:MK} {E Ep:Nat->KV->Value->Ent} {bm bp i:Nat} {m p:KV} {L:List Ent} {gm:KV} {v vk:Value} {po pok mark:Int} (h:BPl K Kp E Ep bm bp i m p L gm v vk po pok mark): ∀e∈L.drop (Int.toNat mark),(∃a key,e=E bm a key/\K.OkK key/\KOK K a)∨(∃a key,e=Ep bp a key/\Kp.OkK key/\KOK Kp a):=by
  obtain ⟨mk,pk,L0,k,rfl,⟨Es,rfl,_,_,_,ha⟩,e3⟩:=h.ex
  rw [Int.toNat_natCast,List.drop_left]
  exact ha
theorem BPl.same {K Kp:MK} {E Ep:Nat->KV->Value->Ent} {bm bp i:Nat} {m p:KV} {L:List Ent} {gm:KV} {v vk:Value} {po pok mark:Int} (h:BPl K Kp E Ep bm bp i m p L gm v vk po pok mark):allB m=bb gm v/\(lastB m).1 2=endL (bb gm v):=⟨h.now.r.mb.all,h.now.r.lend⟩
theorem wf_i64b' {n:Int} (h:(Lit.int .i64 n).wf=true): -9223372036854775808<=n/\n<=9223372036854775807:=by
  simp only [Lit.wf,Bool.and_eq_true,decide_eq_true_eq] at h
  exact h
end Go.Sx
set_option linter.unusedVariables false
set_option linter.unusedSimpArgs false
namespace Go.Sx
open Go.RowKit
def BlkOK (m:KV):Prop:= ∀e∈m,∀e' ∈m,vblk e.1=vblk e'.1->e=e'
theorem bagK_blk {k:Nat} {e:TypeId} {m:KV} {l:List Slot} {R:HP} {w:World} (ho:Own (ofList (bagK k e m::l)) R w):BlkOK m:=by
  obtain ⟨⟨rs,hm,hM,hn⟩,ho1⟩:=bun_open ho
  subst hm
  intro x hx y hy hb
  obtain ⟨rx0,hrx,rfl⟩:=List.mem_map.1 hx
  obtain ⟨ry0,hry,rfl⟩:=List.mem_map.1 hy
  obtain ⟨rx,hrx2,rfl⟩:=List.mem_map.1 hrx
  obtain ⟨ry,hry2,rfl⟩:=List.mem_map.1 hry
  obtain ⟨i,hi,hri⟩:=List.mem_iff_getElem.1 hrx2
  obtain ⟨j,hj,hrj⟩:=List.mem_iff_getElem.1 hry2
  by_cases hij:i=j
  · subst hij
    rw [hri] at hrj;rw [hrj]
  · exfalso
    have nx:=hn _ hrx2
    have ny:=hn _ hry2
    have g: ∀ (n:Nat) (hn:n<rs.length),ofList (rs.map (fun r=>sk e r.1)++l) n=sk e rs[n].1:=fun n hn=>ofList_get (by rw [List.getElem?_append_left (by simpa using hn),List.getElem?_map,List.getElem?_eq_getElem hn];rfl)
    have gx:=g i hi
    have gy:=g j hj
    rw [hri] at gx
    rw [hrj] at gy
    obtain ⟨rx,ax⟩:=rx
    obtain ⟨ry,ay⟩:=ry
    cases rx with
    | nil=>exact nx rfl
    | mk b1 v1 e1 =>
      cases ry with
      | nil=>exact ny rfl
      | mk b2 v2 e2=>exact own_ne2 (s:= []) ho1 hij gx gy hb
noncomputable def bagAt (m:KV) (b:Nat):List Value:=match m.find? (fun e=>decide (vblk e.1=b)) with | some e=>e.2.cells.toList | none=> []
theorem bagAt_eq {m:KV} (hB:BlkOK m) {v:Value} {l:List Value} (h:InBag m v l) (hl:l≠ []):bagAt m (vblk v)=l:=by
  rcases h.at_ with ⟨rfl,rfl⟩ | ⟨_,q⟩
  · exact absurd rfl hl
  · have hm:=mget_mem q
    unfold bagAt
    cases hf:m.find? (fun e=>decide (vblk e.1=vblk v)) with
    | none =>
      have:=List.find?_eq_none.1 hf _ hm
      simp at this
    | some e =>
      have h1:=List.mem_of_find?_eq_some hf
      have h2:=List.find?_some hf
      have:=hB e h1 _ hm (by simpa using h2)
      rw [this];simp [Value.cells]
theorem xidxVK {P:Program} {t e:TypeId} {k:Nat} {z:Value} (h:SkT P t e k z) (ki:IntKind) (i:Int) {m:KV} {v:Value} {l:List Value} (hb:InBag m v l) (h0:0<=i) (h1:i<(l.length:Nat)):PureRun P (do pure (.value (←Instr.indexAt t v (.int ki i)))) (.pointer (some ⟨vblk v,i.toNat*k,none⟩)):=by
  obtain ⟨r,rfl,rfl⟩:=hb.row
  exact xidxK h r ki i h0 h1
def F_getVK (k:Nat) {X:Type} (val:X->Value) (Ok:X->Prop):List Value->List Slot->Ctr:=fun vs hs=>⟨X,val,fun _=>hs,fun x=>rdK k (fl (bagAt (skv (sarg hs 0)) (vblk (varg vs 0)))).toArray (voff (varg vs 0))=val x/\Ok x⟩
theorem xgetVK {P:Program} {t e:TypeId} {k:Nat} {z:Value} (h:SkT P t e k z) {X:Type} (val:X->Value) (Ok:X->Prop) {m:KV} {v:Value} {l:List Value} (hb:InBag m v l) (hB:BlkOK m) (n:Nat) (hx: ∃x0,l[n]? =some (val x0)/\Ok x0):
    OpT P (do pure (.value (←Instr.loadAt e (.pointer (some ⟨vblk v,n*k,none⟩))))) [bagK k e m] X val (fun _=> [bagK k e m]) (fun x=>rdK k (fl (bagAt m (vblk v))).toArray (n*k)=val x/\Ok x):=by
  obtain ⟨x0,hx,hok⟩:=hx
  intro R w ho
  have hl:l≠ []:=fun q=>by rw [q] at hx;simp at hx
  have hq:mget m v=some (.agg l.toArray):=by
    rcases hb.at_ with ⟨_,q⟩ | ⟨_,q⟩
    · exact absurd q hl
    · exact q
  obtain ⟨⟨rs,hm,hM,hn⟩,ho1⟩:=bun_open ho
  obtain ⟨p,r,q,rfl,h1,h2⟩:=bagK_row hm hq
  have ho2:=own_perm (permK_front e p q r []) R w ho1
  obtain ⟨_,w',_,hr,ho3,he⟩:=xgetK h r n (val x0) (by rw [h2];exact hx) _ w ((own_frame (a:= [sk e r.1])).1 ho2)
  have ho4:=own_perm (permK_front e p q r []).symm R w' (own_frame.2 ho3)
  refine ⟨x0,w',⟨?_,hok⟩,by rw [←h1];exact hr,by exact bun_shut (E:=KBg k m) (ns:= []) (d:= .kv m) (F:=fun rs:KBg k m=>rs.val.map (fun r=>sk e r.1)) (⟨p++r::q,hm,hM,hn⟩:KBg k m) [] R w' ho4,he⟩
  rw [bagAt_eq hB hb hl]
  exact rdK_fl (fun u hu=>r.all u (by rw [h2];exact hu)) hx
theorem egetVK {k:Nat} {X:Type} {val:X->Value} {Ok:X->Prop} {m:KV} {v:Value} {l:List Value} (hb:InBag m v l) (hB:BlkOK m) {n:Nat} (ha: ∀u∈l,Ag k u) (hx: ∃x0,l[n]? =some (val x0)/\Ok x0) {x:X} (h:rdK k (fl (bagAt m (vblk v))).toArray (n*k)=val x/\Ok x):l[n]? =some (val x)/\Ok x:=by
  obtain ⟨x0,hx,hok⟩:=hx
  have hl:l≠ []:=fun q=>by rw [q] at hx;simp at hx
  rw [bagAt_eq hB hb hl,rdK_fl ha hx] at h
  exact ⟨by rw [hx,h.1],h.2⟩
theorem wgetVK {k:Nat} {X:Type} {val:X->Value} {Ok:X->Prop} {m:KV} {v:Value} {l:List Value} (hb:InBag m v l) (hB:BlkOK m) {n:Nat} (ha: ∀u∈l,Ag k u) (hx: ∃x0,l[n]? =some (val x0)/\Ok x0): ∃x,(fun x=>rdK k (fl (bagAt m (vblk v))).toArray (n*k)=val x/\Ok x) x:=by
  obtain ⟨x0,hx,hok⟩:=hx
  have hl:l≠ []:=fun q=>by rw [q] at hx;simp at hx
  exact ⟨x0,by rw [bagAt_eq hB hb hl];exact rdK_fl ha hx,hok⟩
theorem bag_el {l:List BT} (ho: ∀b∈l,okB b) {n:Nat} (hn:n<l.length): ∃x0,(l.map bV)[n]? =some (bV x0)/\okB x0:=
  ⟨l[n],by rw [List.getElem?_map,List.getElem?_eq_getElem hn];rfl,ho _ (List.getElem_mem hn)⟩
theorem bag_ag (l:List BT): ∀u∈l.map bV,Ag 42 u:=fun u hu=>by
  obtain ⟨b,_,rfl⟩:=List.mem_map.1 hu
  exact bV_Ag b
theorem bag_is {l:List BT} (ho: ∀b∈l,okB b) {n:Nat} {x:BT} (h:(l.map bV)[n]? =some (bV x)/\okB x):l[n]? =some x:=by
  obtain ⟨h,hx⟩:=h
  rw [List.getElem?_map] at h
  cases hg:l[n]? with
  | none=>rw [hg] at h;cases h
  | some b =>
    rw [hg] at h
    have h1:bV b=bV x:=by injection h
    have h2:=congrArg unB h1
    rw [unB_bV (ho b (List.mem_of_getElem? hg)),unB_bV hx] at h2
    rw [h2]
theorem BR.there {K Kp:MK} {m p:KV} {l:List BT} {po:Int} (h:BR K Kp m p l po) {i:Nat} {b:BT} (hb:l[i]? =some b):(Go.Sx.mget m (.int .u32 (b.1 0))).isSome=true/\unB ((Go.Sx.mget m (.int .u32 (b.1 0))).getD (bV b0))=b:=by
  have hm:=List.mem_of_getElem? hb
  have:=h.mb.at hm
  unfold nk at this
  rw [this]
  exact ⟨rfl,unB_bV (h.mb.ok b hm)⟩
theorem BR.stands {K Kp:MK} {m p:KV} {l:List BT} {po:Int} (h:BR K Kp m p l po) (n:Int):(Go.Sx.mget m (.int .u32 n)).isSome=l.any fun b=>decide (b.1 0=n):=by
  rw [h.mget]
  by_cases hf:findL l n<0
  · rw [if_pos hf]
    symm
    rw [show (none:Option Value).isSome=false from rfl,List.any_eq_false]
    intro b hb q
    exact findL_nn hb (of_decide_eq_true q) hf
  · rw [if_neg hf]
    obtain ⟨b,h1,h2,_⟩:=findL_pos hf
    symm
    rw [show (some (bV (atL l n))).isSome=true from rfl,List.any_eq_true]
    exact ⟨b,List.mem_of_getElem? h1,decide_eq_true h2⟩
theorem BR.none {K Kp:MK} {m p:KV} {l:List BT} {po:Int} (h:BR K Kp m p l po) {n:Int} (hn:(Go.Sx.mget m (.int .u32 n)).isSome=false):unB ((Go.Sx.mget m (.int .u32 n)).getD (bV b0))=b0:=by
  cases hg:Go.Sx.mget m (.int .u32 n) with
  | none=>exact unB_bV okB0
  | some v=>rw [hg] at hn;cases hn
theorem nodupR {a b:Nat} (h: [a,b].Nodup): ¬ (a=b):=by simpa using h
theorem undoAll_twoK {K K' :MK} {b0 b1:Nat} {m0 m1 m0' m1' :KV} {E:List Ent} (h:undoAll E [(K,b0,m0),(K',b1,m1)]= [(K,b0,m0'),(K',b1,m1')]):m0' =undoB b0 E m0/\m1' =undoB b1 E m1:=by
  rw [undoAll_map] at h
  simp only [List.map_cons,List.map_nil,List.cons.injEq,Prod.mk.injEq,true_and,and_true] at h
  exact ⟨h.1.symm,h.2.symm⟩
theorem any_step {l:List BT} {i:Nat} {b:BT} (h:l[i]? =some b) (f:BT->Bool):(l.take (i+1)).any f=((l.take i).any f || f b):=by
  rw [List.take_add_one,h,List.any_append];simp
end Go.Sx
namespace Go.Sx
open Go
theorem trod_field {H:Type} {enc:TypeId×Value->H} {P:Program} {w:World} {base:Nat} {sp:Nat->Bool} {held:Bool} {fs:Array Field} {cs:List Value} {xs:List (DataW H×List MemPlace)} {n:Nat} (hlen:xs.length=fs.size)
    (hf: ∀ (i:Nat) (f:Field),fs[i]? =some f->DataW.trod enc P w base sp held n f.type ((cs.drop f.offset).take (P.cellsOf f.type))=xs[i]?) (i:Nat) {f:Field} (h:fs[i]? =some f) {t off k:Nat} (ht:f.type=t) (ho:f.offset=off) (hk:P.cellsOf t=k):
    ∃y,DataW.trod enc P w base sp held n t ((cs.drop off).take k)=some y:=by
  have hi:i<fs.size:=by
    rcases Nat.lt_or_ge i fs.size with q | q
    · exact q
    · rw [Array.getElem?_eq_none q] at h;cases h
  have g:=hf i f h
  rw [ht,ho,hk,List.getElem?_eq_getElem (by omega)] at g
  exact ⟨_,g⟩
end Go.Sx
