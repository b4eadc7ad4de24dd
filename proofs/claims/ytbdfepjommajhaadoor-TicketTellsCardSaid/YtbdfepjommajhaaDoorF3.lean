/- A part of the prover's own frame for walking code (see the claim's other texts). -/
import Derived.Test.YtbdfepjommajhaaDoorF1
import Derived.Test.YtbdfepjommajhaaDoorF2
import Derived.Laws.BytesString
import Derived.ChangeKeysEq
set_option linter.unusedVariables false
set_option linter.unusedSimpArgs false
set_option linter.unusedVariables false
set_option linter.unusedSimpArgs false
namespace Go.Sx
open Go.RowKit
def nb8 (x:Int):List Int:= [IntKind.u8.wrap (Int.fdiv x (2^56)),IntKind.u8.wrap (Int.fdiv x (2^48)),IntKind.u8.wrap (Int.fdiv x (2^40)),IntKind.u8.wrap (Int.fdiv x (2^32)),IntKind.u8.wrap (Int.fdiv x (2^24)),IntKind.u8.wrap (Int.fdiv x (2^16)),IntKind.u8.wrap (Int.fdiv x (2^8)),IntKind.u8.wrap (Int.fdiv x (2^0))]
noncomputable def wordB (m:KV) (k:Value):List Int:=nb4 (IntKind.u64.wrap (ci k))++nb8 (ci ((mget m k).getD (u64v 0)))
noncomputable def wordsB (m:KV) (l:List Value):List Int:=l.flatMap (wordB m)
theorem wordsB_eq {m n:KV} (h:EqM m n) (l:List Value):wordsB m l=wordsB n l:=by
  unfold wordsB wordB
  congr 1
  funext k
  rw [h k]
end Go.Sx
set_option linter.unusedVariables false
set_option linter.unusedSimpArgs false
namespace Go.Sx
open Go.RowKit
structure SpO (K:MK) (ls:List Int) (o:Int) (i:Nat) (m1:KV) (L1:List Ent) (m2:KV) (L2:List Ent) (c:Nat) (inb:Bool):Prop where
  le:i<=ls.length
  a:SpS K (ls.take i) m1 c
  b: ∃d,SpS K (ls.reverse.take i) m2 d
  inn:inb=decide (o∈ls.take i)
  l1:L1.length<=i
  l2:L2.length<=i
theorem SpO.start {K:MK} {ls:List Int} {o:Int}:SpO K ls o 0 [] [] [] [] 0 false:=⟨Nat.zero_le _,SpS.nil,⟨0,SpS.nil⟩,by simp,Nat.le_refl _,Nat.le_refl _⟩
theorem bif_len {b:Bool} {L:List Ent} {e:Ent}:(bif b then L else L++ [e]).length<=L.length+1:=by cases b<;>simp
theorem SpO.step {K:MK} (I:WdK K) {ls:List Int} {o:Int} {i:Nat} {m1:KV} {L1:List Ent} {m2:KV} {L2:List Ent} {c:Nat} {inb:Bool} (h:SpO K ls o i m1 L1 m2 L2 c inb) {x y:Int} (hx:ls[i]? =some x) (hy:ls[ls.length - 1 - i]? =some y)
    {e1 e2:Ent} {m1' :KV} {L1' :List Ent} {m2' :KV} {L2' :List Ent} {c' :Nat} {inb' :Bool} (p1:m1' =putO m1 x/\L1' =bif hasI m1 x then L1 else L1++ [e1]) (p2:m2' =putO m2 y/\L2' =bif hasI m2 y then L2 else L2++ [e2]) (hc:c' =c+if hasI m1 x then 0 else 1) (hi:inb' =(inb || x==o)):
    SpO K ls o (i+1) m1' L1' m2' L2' c' inb' :=by
  have hlt:=(List.getElem?_eq_some_iff.1 hx).1
  have t1:ls.take (i+1)=ls.take i++ [x]:=by
    rw [List.take_succ_eq_append_getElem hlt]
    rw [List.getElem?_eq_getElem hlt] at hx;injection hx with hx;rw [hx]
  have hr:ls.reverse[i]? =some y:=by rw [List.getElem?_reverse hlt];exact hy
  have hlr:i<ls.reverse.length:=by rw [List.length_reverse];exact hlt
  have t2:ls.reverse.take (i+1)=ls.reverse.take i++ [y]:=by
    rw [List.take_succ_eq_append_getElem hlr]
    rw [List.getElem?_eq_getElem hlr] at hr;injection hr with hr;rw [hr]
  obtain ⟨d,hb⟩:=h.b
  refine ⟨hlt,?_,⟨d+if hasI m2 y then 0 else 1,?_⟩,?_,?_,?_⟩
  · rw [t1,p1.1,hc];exact h.a.put I x
  · rw [t2,p2.1];exact hb.put I y
  · rw [hi,h.inn,t1]
    rw [Bool.eq_iff_iff]
    simp only [Bool.or_eq_true,decide_eq_true_eq,beq_iff_eq,List.mem_append,List.mem_singleton]
    exact ⟨fun q=>q.elim .inl (fun e=> .inr e.symm),fun q=>q.elim .inl (fun e=> .inr e.symm)⟩
  · rw [p1.2];exact Nat.le_trans bif_len (Nat.succ_le_succ h.l1)
  · rw [p2.2];exact Nat.le_trans bif_len (Nat.succ_le_succ h.l2)
theorem SpO.bytes {K:MK} (I:WdK K) {ls:List Int} {o:Int} {i:Nat} {m1:KV} {L1:List Ent} {m2:KV} {L2:List Ent} {c:Nat} {inb:Bool} (h:SpO K ls o i m1 L1 m2 L2 c inb) (hi:i=ls.length) {r q:Row} (h1:BOK r/\ ∃l,KeysOf .u32 m1 l/\dg r=wordsB m1 l) (h2:BOK q/\ ∃l,KeysOf .u32 m2 l/\dg q=wordsB m2 l):dg r=dg q:=by
  obtain ⟨d,hb⟩:=h.b
  have e:=h.a.eqm I hb (fun x=>by subst hi;rw [List.take_length,List.take_of_length_le (by simp)];exact List.mem_reverse.symm)
  obtain ⟨_,l,k1,e1⟩:=h1
  obtain ⟨_,l',k2,e2⟩:=h2
  rw [e1,e2,keys_eq h.a.ok.once hb.ok.once e k1 k2,wordsB_eq e]
end Go.Sx
set_option linter.unusedVariables false
namespace Go.Sx
open Go.RowKit
end Go.Sx
namespace Go.Sx
open Go.RowKit
theorem KeysOf2.len {m:KV} {l:List Value} (h:KeysOf2 m l):l.length=m.length:=by have:=h.1.length_eq;simpa using this
def InR (m:KV):Prop:= ∀e∈m,∃t p v:Int,e=(kk t p,vI v)/\0<=t/\t<4/\0<=p/\p<18/\R4 v/\v≠0
theorem InR.nil:InR []:=fun e h=>by cases h
theorem mem_del {m:KV} {k:Value} {e:Value×Value} (h:e∈mdel m k):e∈m:=List.mem_of_mem_eraseP h
theorem InR.put {m:KV} (h:InR m) {t p n:Int} (hn:R4 n) (t0:0<=t) (t4:t<4) (p0:0<=p) (p18:p<18):InR (mput m (kk t p) n):=by
  unfold mput
  split
  · exact fun e he=>h e (mem_del he)
  · rename_i hz
    intro e he
    rcases mem_set he with rfl | he
    · exact ⟨t,p,n,rfl,t0,t4,p0,p18,hn,hz⟩
    · exact h e he
theorem mset_len (m:KV) (k v:Value):(mset m k v).length<=m.length+1:=by unfold mset;split<;>simp
theorem mput_len (m:KV) (k:Value) (n:Int):(mput m k n).length<=m.length+1:=by
  unfold mput;split
  · have:(mdel m k).length<=m.length:=List.length_eraseP_le
    omega
  · exact mset_len _ _ _
section
variable {Kb Ks:MK} (nb:NumK Kb) (ns:NumK Ks) (ob: ∀t p,Kb.OkK (kk t p)) (os: ∀t:Int,Ks.OkK (.int .u8 t))
structure BTI (Kb Ks:MK) (s:BS) (i:Nat):Prop where
  kb:KOK Kb s.1
  ks:KOK Ks s.2.1
  inr:InR s.1
  ml:s.1.length<=3*i
  ll:s.2.2.length<=4*i
theorem BTI.nil:BTI Kb Ks ([],[],[]) 0:=⟨KOK.nil,KOK.nil,InR.nil,Nat.zero_le _,Nat.zero_le _⟩
theorem bMint_in {s : BS} (hb : KOK Kb s.1) (hs : KOK Ks s.2.1) (hi : InR s.1) (nb : NumK Kb) (ns : NumK Ks) (ob : ∀ t p, Kb.OkK (kk t p)) (os : ∀ t : Int, Ks.OkK (.int .u8 t)) {eb es : KV -> Value -> Ent} {t p n : Int} (hn : R4 n) (t0 : 0 <= t) (p0 : 0 <= p) {x : Int × BS} (hx : x = bMint eb es s t p n) :
    KOK Kb x.2.1/\KOK Ks x.2.2.1/\InR x.2.1/\x.2.1.length<=s.1.length+1/\x.2.2.2.length<=s.2.2.length+2:=by
  subst hx
  unfold bMint
  split
  · exact ⟨hb,hs,hi,by simp only;omega,by simp only;omega⟩
  · rename_i hw
    split
    · exact ⟨hb,hs,hi,by simp only;omega,by simp only;omega⟩
    · rename_i hov
      have hw' :t<4/\p<18:=by
        unfold bw1 at hw
        split at hw
        · exact absurd (by decide:(1:Int)≠0) hw
        · omega
      have rB:R4 (hAdd (bal s.1 t p) n).1:=hAdd_R (KOK.R4v nb hb _) hn
      have rS:R4 (sup s.2.1 t+n):=⟨by have:=(KOK.R4v ns hs (.int .u8 t)).1;have:=hn.1;unfold sup;omega,Int.not_le.1 hov⟩
      refine ⟨hb.put nb (ob t p) rB,hs.set (os t) ((ns _).2 ⟨_,rS,rfl⟩),hi.put rB t0 hw'.1 p0 hw'.2,mput_len _ _ _,?_⟩
      have h1:=(bPut_len eb (bSup es s t (sup s.2.1 t+n)) (kk t p) (hAdd (bal s.1 t p) n).1).2
      have h2:=bSup_len es s t (sup s.2.1 t+n)
      show (bPut eb (bSup es s t (sup s.2.1 t+n)) (kk t p) (hAdd (bal s.1 t p) n).1).2.2.length<=_
      omega
theorem bMove_in {s : BS} (hb : KOK Kb s.1) (hs : KOK Ks s.2.1) (hi : InR s.1) (nb : NumK Kb) (ob : ∀ t p, Kb.OkK (kk t p)) {eb : KV -> Value -> Ent} {t p q n : Int} (hn : R4 n) (t0 : 0 <= t) (p0 : 0 <= p) (q0 : 0 <= q) {x : Int × BS} (hx : x = bMove eb s t p q n) :
    KOK Kb x.2.1/\KOK Ks x.2.2.1/\InR x.2.1/\x.2.1.length<=s.1.length+2/\x.2.2.2.length<=s.2.2.length+2:=by
  subst hx
  unfold bMove
  split
  · exact ⟨hb,hs,hi,by simp only;omega,by simp only;omega⟩
  · rename_i hw
    split
    · exact ⟨hb,hs,hi,by simp only;omega,by simp only;omega⟩
    · rename_i hov
      have hw' :t<4/\p<18/\q<18:=by
        unfold bw2 at hw
        split at hw
        · exact absurd (by decide:(1:Int)≠0) hw
        · omega
      have hB:=KOK.R4v nb hb (kk t p)
      have r1:R4 (bal s.1 t p - n):=⟨by have: ¬bal s.1 t p<n:=hov;omega,by have:=hB.2;have:=hn.1;show bal s.1 t p - n<_;unfold bal;omega⟩
      have k1:KOK Kb (bPut eb s (kk t p) (bal s.1 t p - n)).1:=hb.put nb (ob t p) r1
      have i1:InR (bPut eb s (kk t p) (bal s.1 t p - n)).1:=hi.put r1 t0 hw'.1 p0 hw'.2.1
      have r2:R4 (hAdd (bal (bPut eb s (kk t p) (bal s.1 t p - n)).1 t q) n).1:=hAdd_R (KOK.R4v nb k1 _) hn
      refine ⟨k1.put nb (ob t q) r2,hs,i1.put r2 t0 hw'.1 q0 hw'.2.2,?_,?_⟩
      · have h1:=mput_len (bPut eb s (kk t p) (bal s.1 t p - n)).1 (kk t q) (hAdd (bal (bPut eb s (kk t p) (bal s.1 t p - n)).1 t q) n).1
        have h2:(bPut eb s (kk t p) (bal s.1 t p - n)).1.length<=s.1.length+1:=mput_len _ _ _
        show (mput _ _ _).length<=_
        omega
      · have h1:=(bPut_len eb (bPut eb s (kk t p) (bal s.1 t p - n)) (kk t q) (hAdd (bal (bPut eb s (kk t p) (bal s.1 t p - n)).1 t q) n).1).2
        have h2:=(bPut_len eb s (kk t p) (bal s.1 t p - n)).2
        show (bPut eb (bPut eb s (kk t p) (bal s.1 t p - n)) (kk t q) _).2.2.length<=_
        omega
theorem BTI.step {s:BS} {i:Nat} (h:BTI Kb Ks s i) (nb:NumK Kb) (ns:NumK Ks) (ob: ∀t p,Kb.OkK (kk t p)) (os: ∀t:Int,Ks.OkK (.int .u8 t)) {eb es eb' :KV->Value->Ent} {t p q n:Int} (hn:R4 n) (t0:0<=t) (p0:0<=p) (q0:0<=q) {x y:Int×BS} (hx:x=bMint eb es s t p n) (hy:y=bMove eb' x.2 t p q n):BTI Kb Ks y.2 (i+1):=by
  obtain ⟨a1,a2,a3,a4,a5⟩:=bMint_in h.kb h.ks h.inr nb ns ob os hn t0 p0 hx
  obtain ⟨b1,b2,b3,b4,b5⟩:=bMove_in a1 a2 a3 nb ob hn t0 p0 q0 hy
  exact ⟨b1,b2,b3,by have:=h.ml;omega,by have:=h.ll;omega⟩
end
structure BTl where
  i:Nat
  s:BS
  b:Nat
  bm:Nat
  bs:Nat
  bj:Nat
  cb:Nat
  cm:Nat
  cr:Nat
noncomputable def kc (k:Value):Int:=18*ci (cell k 0)+ci (cell k 1)
theorem key_in {m:KV} (h:InR m) {k:Value} (hk:k∈m.map (·.1)): ∃t p:Int,k=kk t p/\0<=t/\t<4/\0<=p/\p<18:=by
  obtain ⟨e,he,rfl⟩:=List.mem_map.1 hk
  obtain ⟨t,p,v,rfl,a,b,c,d,_⟩:=h e he
  exact ⟨t,p,rfl,a,b,c,d⟩
theorem rise_kc {m:KV} (h:InR m) {l:List Value} (hk:KeysOf2 m l) {i j:Nat} (hij:i<j) (hj:j<l.length):kc (l.getD i undef)<kc (l.getD j undef):=by
  have hi:i<l.length:=by omega
  rw [List.getD_eq_getElem?_getD,List.getD_eq_getElem?_getD,List.getElem?_eq_getElem hi,List.getElem?_eq_getElem hj]
  have h1:=(List.pairwise_iff_getElem.1 hk.2.1) i j hi hj hij
  obtain ⟨t,p,e1,_,_,_,h4⟩:=key_in h (hk.1.mem_iff.1 (List.getElem_mem hi))
  obtain ⟨t',p',e2,_,_,h5,_⟩:=key_in h (hk.1.mem_iff.1 (List.getElem_mem hj))
  simp only [Option.getD_some]
  rw [e1,e2] at h1 ⊢
  have h2:=(ahd_iff _ _).1 h1
  have h3:t<t' ∨(t=t' /\p<p'):=h2
  show 18*t+p<18*t' +p'
  omega
def TL1 (l:List Value) (i:Nat) (y:Int×Nat):Prop:=y.2=i/\ -1<=y.1/\y.1<72/\ ∀j,i<=j->j<l.length->y.1<kc (l.getD j undef)
theorem TL1.start {m:KV} (h:InR m) {l:List Value} (hk:KeysOf2 m l):TL1 l 0 (-1,0):=by
  refine ⟨rfl,Int.le_refl _,by decide,fun j _ hj=> ?_⟩
  obtain ⟨t,p,e,a,_,b,_⟩:=key_in h (hk.1.mem_iff.1 (getD_mem (d:=undef) hj))
  rw [e];show -1<18*t+p;omega
theorem TL1.next {m:KV} (h:InR m) {l:List Value} (hk:KeysOf2 m l) {i:Nat} (hi:i<l.length) {y:Int×Nat} (hy:TL1 l i y) {t p:Int} (e:l.getD i undef=kk t p):0<=t/\t<4/\0<=p/\p<18/\y.1<18*t+p/\TL1 l (i+1) (18*t+p,y.2+1):=by
  obtain ⟨t',p',e',a,b,c,d⟩:=key_in h (hk.1.mem_iff.1 (getD_mem (d:=undef) hi))
  obtain ⟨rfl,rfl⟩:=kk_inj.1 (e.symm.trans e')
  have hlt:=hy.2.2.2 i (Nat.le_refl _) hi
  rw [e] at hlt
  refine ⟨a,b,c,d,hlt,by rw [hy.1],by show -1<=18*t+p;omega,by show 18*t+p<72;omega,fun j hj hjl=> ?_⟩
  have:=rise_kc h hk (i:=i) (j:=j) (by omega) hjl
  rw [e] at this
  exact this
def TL2 (most:Int) (i:Nat) (y:Bool×Nat):Prop:=y.1=true/\y.2=i/\(0<i->((i:Nat):Int)<most)
def TL2S (most:Int) (n:Nat) (y:Bool×Nat):Prop:=y.1=false/\0<y.2/\y.2<=n/\most<=((y.2:Nat):Int)/\(y.2=1∨((y.2:Nat):Int) - 1<most)
theorem TL2.fin {most:Int} {n:Nat} {y:Bool×Nat} (h:TL2 most n y∨TL2S most n y):((y.2:Nat):Int)=min ((n:Nat):Int) (max most 1):=by
  rcases h with ⟨_,h1,h2⟩ | ⟨_,h1,h2,h3,h4⟩
  · rcases Nat.eq_zero_or_pos n with q | q
    · subst q;rw [h1];omega
    · have:=h2 q;rw [h1];omega
  · omega
end Go.Sx
namespace Go.Sx
theorem TL2.round {most:Int} {n i:Nat} (hi:i<n) {y:Bool×Nat} (hy:TL2 most i y) {z:Bool×Nat} (hz:z.2=y.2+1/\(z.1=true->((y.2:Nat):Int)+1<most)/\(z.1=false->most<=((y.2:Nat):Int)+1)):(z.1=true->TL2 most (i+1) z)/\(z.1=false->TL2S most n z):=by
  obtain ⟨h1,h2,h3⟩:=hy
  obtain ⟨a,b,c⟩:=hz
  refine ⟨fun q=>⟨q,by omega,fun _=>by have:=b q;omega⟩,fun q=>⟨q,by omega,by omega,by have:=c q;omega,?_⟩⟩
  rcases Nat.eq_zero_or_pos i with e | e
  · exact .inl (by omega)
  · have:=h3 e;exact .inr (by omega)
end Go.Sx
namespace Go.Sx
open Go.RowKit
def eqL (a b:List Int):Bool:=a==b
def eqF (f g:Nat->Int):Bool:=eqL (l32 f) (l32 g)
theorem l32_map (f:Nat->Int):l32 f=(List.range 32).map f:=rfl
theorem hV_inj {f g:Nat->Int}:hV f=hV g↔l32 f=l32 g:=by
  have e: ∀f,hV f= .agg ((l32 f).map (Value.int .u8)).toArray:=fun _=>rfl
  rw [e f,e g]
  constructor
  · intro h
    simp only [Value.agg.injEq] at h
    have h2:(l32 f).map (Value.int .u8)=(l32 g).map (Value.int .u8):=by simpa using congrArg Array.toList h
    exact List.map_inj_right (fun x y q=>by simpa using q) |>.1 h2
  · intro h;rw [h]
theorem eqF_iff {f g:Nat->Int}:eqF f g=true↔hV f=hV g:=by
  rw [hV_inj];unfold eqF eqL;exact beq_iff_eq
noncomputable def eqV (x y:Value):Bool:=eqF (hf x) (hf y)
theorem eqV_eq (f g:Nat->Int):eqV (hV f) (hV g)=eqF f g:=rfl
theorem eqV_iff {f g:Nat->Int}:eqV (hV f) (hV g)=true↔hV f=hV g:=by rw [eqV_eq];exact eqF_iff
theorem eqF_all (f g:Nat->Int):((List.range 32).all fun i=>f i==g i)=eqF f g:=by
  rw [Bool.eq_iff_iff,eqF_iff,hV_inj,l32_map,l32_map,List.map_inj_left,List.all_eq_true]
  exact ⟨fun h i hi=>beq_iff_eq.1 (h i hi),fun h i hi=>beq_iff_eq.2 (h i hi)⟩
theorem hV_cell {f:Nat->Int} {i:Nat} (hi:i<32):(hV f).cells[i]? =some (.int .u8 (f i)):=by
  have e:(hV f).cells=((l32 f).map (Value.int .u8)).toArray:=rfl
  rw [e,l32_map]
  simp [hi]
theorem eqItemsH {P:Program} {e:TypeId} (he:P.underlying e=some (.int .u8)) (ha: ∀w,(isAgg e).run P w= .ok false w) (f g:Nat->Int) (w:World) (d:Nat): ∀is:List Nat,(∀i∈is,i<32)->
    (Op.eqItems (d+1) e 1 (hV f).cells (hV g).cells is).run P w= .ok (is.all fun i=>f i==g i) w
  | [],_=>by simp [Op.eqItems]
  | i :: is, h => by
    have hi:=h i List.mem_cons_self
    have ih:=eqItemsH he ha f g w d is fun j hj=>h j (List.mem_cons_of_mem _ hj)
    have p1:(part e (hV f).cells (i*1)).run P w= .ok (.int .u8 (f i)) w:=by rw [Nat.mul_one];exact run_part1 w ha (hV_cell hi)
    have p2:(part e (hV g).cells (i*1)).run P w= .ok (.int .u8 (g i)) w:=by rw [Nat.mul_one];exact run_part1 w ha (hV_cell hi)
    have p3:=run_equalIn_int w d e .u8 .u8 (f i) (g i) he
    simp only [Op.eqItems,Sem.run_bind,p1,p2,p3,Result.andThen_ok,List.all_cons]
    cases hq:(f i==g i)
    · simp
    · simpa using ih
theorem xeqH {P:Program} {t e:TypeId} (hg:P.eqGuardType P.depth t=false) (hu:P.underlying t=some (.array 32 e)) (he:P.underlying e=some (.int .u8)) (ha: ∀w,(isAgg e).run P w= .ok false w) (hc:(P.info? e).map (·.size)=some 1) (f g:Nat->Int):
    PureRun P (xBin .eql t (hV f) (hV g)) (.bool (eqV (hV f) (hV g))):=by
  intro w
  rw [eqV_eq]
  obtain ⟨i,hi,hi2⟩:=Option.map_eq_some_iff.1 hc
  have hs:P.cellsOf e=1:=by unfold Program.cellsOf;rw [hc];rfl
  have h:(Op.equalIn 10000 t (hV f) (hV g)).run P w= .ok (eqF f g) w:=by
    have:=Go.run_equalIn_array w 9999 (hV f).cells (hV g).cells hu hi
    rw [hs,eqItemsH he ha f g w 9998 _ fun j hj=>List.mem_range.1 hj,eqF_all] at this
    exact this
  have g' :(eqGuard .eql t (.const (hV f)) (.const (hV g)) (hV f) (hV g)).run P w= .ok () w:=run_eqGuard_agg (w:=w) .eql t _ _ _ _ hg
  have q:(binOp .eql t (hV f) (hV g)).run P w= .ok (.bool (eqF f g)) w:=by
    have:=run_eql_struct (P:=P) (w:=w) t (hV f).cells (hV g).cells
    have e1:(Op.equalIn 10000 t (.agg (hV f).cells) (.agg (hV g).cells)).run P w= .ok (eqF f g) w:=h
    rw [e1] at this
    exact this
  simp [xBin,Sem.run_bind,g',q]
def recF (l:List Int) (o:Nat):Nat->Int:=fun k=>l.getD (o+k) 0
theorem xcutB {P:Program} {t:TypeId} {z:Value} (h:SlT P t 5 z) (r:Row) (k k' :IntKind) (lo hi:Int) (l m:Nat) (hl:lo=(l:Int)) (hh:hi=((l+m:Nat):Int)) (h1:l+m<=(dg r).length) (h2:0<m):
    PureRun P (do pure (.value (←Instr.sliceAt t (sv r) (some (.int k lo)) (some (.int k' hi)) none))) (.slice (some ⟨rblk r,l,none⟩) m (rcap r - l)):=by
  have h3:=xpart h (rblk r) 0 (dg r).length (rcap r) k k' lo hi l m hl hh (Nat.le_trans h1 rcap_le) h2
  rw [←sv_some (by omega) rfl,Nat.zero_add] at h3
  exact h3
theorem xarrB {P:Program} {t e:TypeId} {n:Nat} (hu:P.underlying t=some (.array n e)) (a:Addr) (c:Nat):PureRun P (do pure (.value (←Instr.arrayAt t (.slice (some a) n c)))) (.pointer (some a)):=by
  intro w
  simp [Instr.arrayAt,Sem.run_bind,run_underlying hu]
theorem bgetD {r:Row} (hb:BOK r) {i:Nat} (hi:i<(dg r).length):(vals r)[i]? =some (.int .u8 ((dg r).getD i 0)):=by
  have hv:vals r=bv (dg r):=hb.eq
  rw [hv]
  simp [bv,List.getElem?_eq_getElem hi]
theorem xcutL {P : Program} {te : TypeId} (ha : ∀ w, (isAgg te).run P w = .ok true w) (hs : ∀ w, (sizeOf te).run P w = .ok 32 w) {r : Row} (hb : BOK r) {l : Nat} (hl : l + 32 <= (dg r).length) :
    OpT P (do pure (.value (←Instr.loadAt te (.pointer (some ⟨rblk r,l,none⟩))))) [ss 5 r] Unit (fun _=>hV (recF (dg r) l)) (fun _=> [ss 5 r]) (fun _=>True):=by
  obtain ⟨b,vs,ex,rfl⟩:=row_some (r:=r) (by omega)
  intro R w ho
  have hblk:=ho.block (i:=0) rfl
  have hr:=run_loadCells_list (P:=P) w ⟨rblk (.mk b vs ex),l,none⟩ ((l32 (recF (dg (.mk b vs ex)) l)).map (Value.int .u8)) (by
    intro j c hj
    have hj' :j<32:=by
      rcases Nat.lt_or_ge j 32 with q | q
      · exact q
      · rw [List.getElem?_eq_none (by simpa [l32] using q)] at hj;cases hj
    rw [Addr.add_lit]
    have h1:=bgetD hb (i:=l+j) (by omega)
    have h2:(vs++ex)[l+j]? =some (.int .u8 ((dg (.mk b vs ex)).getD (l+j) 0)):=by
      have hlt:l+j<vs.length:=by
        have h5:(vals (.mk b vs ex))[l+j]? ≠none:=by rw [h1];simp
        rcases Nat.lt_or_ge (l+j) vs.length with q | q
        · exact q
        · exact absurd (List.getElem?_eq_none q) h5
      rw [List.getElem?_append_left hlt];exact h1
    have e2:c= .int .u8 ((dg (.mk b vs ex)).getD (l+j) 0):=by
      rw [l32_map,List.map_map,List.getElem?_map,List.getElem?_range hj'] at hj
      simpa [recF] using hj.symm
    rw [e2]
    show w.cell? ⟨b,l+j,none⟩=_
    have hb2:w.heap[b]? =some (.cells (vs++ex).toArray 5 (0,0)):=hblk
    simp [World.cell?,hb2,h2])
  refine ⟨(),w,trivial, .inl ?_,ho,Ext.refl w⟩
  have hr' :(loadCells ⟨rblk (.mk b vs ex),l,none⟩ 32).run P w=_:=hr
  simp [Instr.loadAt,Instr.sureAddr,loadVar,Sem.run_bind,ha,hs,hr',hV,l32]
noncomputable def eT (k v:Value):List Int:=l32 (hf k)++(nb1 (IntKind.u64.wrap (unT v).1)++nb1 (IntKind.u64.wrap (unT v).2))
noncomputable def tkB (m:KV) (l:List Value):List Int:=l.flatMap fun k=>eT k ((mget m k).getD (tV (0,0)))
theorem eT_len (k v:Value):(eT k v).length=34:=rfl
theorem tkB_len (m:KV): ∀l:List Value,(tkB m l).length=34*l.length
  | []=>rfl
  | k :: l => by
    have:=tkB_len m l
    unfold tkB at *
    rw [List.flatMap_cons,List.length_append,eT_len,this,List.length_cons];omega
theorem tkB_take {m:KV} {l:List Value} {i:Nat} (h:i<l.length):tkB m (l.take (i+1))=tkB m (l.take i)++eT (l.getD i undef) ((mget m (l.getD i undef)).getD (tV (0,0))):=by
  unfold tkB
  rw [List.take_succ_eq_append_getElem h,List.flatMap_append,List.getD_eq_getElem?_getD,List.getElem?_eq_getElem h]
  simp
theorem KeysOfH.len {m:KV} {l:List Value} (h:KeysOfH m l):l.length=m.length:=by have:=h.1.length_eq;simpa using this
theorem wit_tkB {m:KV} (hi:Keys32 (m.map (·.1))): ∃x:Row,(fun x=>BOK x/\ ∃l,KeysOfH m l/\dg x=tkB m l) x:=by
  obtain ⟨y,hp,hs⟩:=sortH_wit (l:=m.map (·.1))
  exact ⟨.mk 0 (bv (tkB m y)) [],bok_lit _ _ _,y,keysOfH_of hi hp hs,by show ((bv (tkB m y)).map ci)=_;rw [bv_ci]⟩
theorem tkB_at {m:KV} {l:List Value} {i k:Nat} (h:i<l.length) (hk:k<34):(tkB m l).getD (34*i+k) 0=(eT (l.getD i undef) ((mget m (l.getD i undef)).getD (tV (0,0)))).getD k 0:=by
  have h1:tkB m l=tkB m (l.take (i+1))++tkB m (l.drop (i+1)):=by
    unfold tkB;rw [←List.flatMap_append,List.take_append_drop]
  have h2:(tkB m (l.take i)).length=34*i:=by rw [tkB_len,List.length_take];omega
  rw [h1,tkB_take h,List.append_assoc,List.getD_eq_getElem?_getD,List.getElem?_append_right (by omega),h2,Nat.add_sub_cancel_left,List.getElem?_append_left (by rw [eT_len];exact hk),←List.getD_eq_getElem?_getD]
theorem wrap8_b (n:Int):0<=IntKind.u8.wrap n/\IntKind.u8.wrap n<256:=by
  have e:IntKind.u8.wrap n=n%256:=rfl
  rw [e]
  exact ⟨Int.emod_nonneg _ (by decide),Int.emod_lt_of_pos _ (by decide)⟩
theorem nb1_b {x:Int} (h0:0<=x) (h1:x<256):nb1 (IntKind.u64.wrap x)= [x]:=by
  unfold nb1
  rw [wrap_W ⟨h0,by omega⟩,show (2:Int)^0=1 from rfl,Int.fdiv_one,wrap_u8 _ h0 (by omega)]
end Go.Sx
namespace Go.Sx
open Go.RowKit
structure TTI (K:MK) (m:KV) (L:List Ent) (ids:Nat->Nat->Int) (i:Nat):Prop where
  kok:KOK K m
  inr: ∀e∈m,∃j,j<i/\ ∃o s:Int,e=(hV (ids j),tV (o,s))/\(0<=o/\o<256)/\0<=s/\s<256
  ml:m.length<=2*i
  ll:L.length<=2*i
theorem TTI.nil {K:MK} {ids:Nat->Nat->Int}:TTI K [] [] ids 0:=⟨KOK.nil,fun e h=>(by cases h),Nat.zero_le _,Nat.zero_le _⟩
theorem wf8_in {n:Int} (h:(Lit.int .u8 n).wf=true):0<=n/\n<256:=by have:=wf8 h;omega
theorem tkF_in {m:KV} {ids:Nat->Nat->Int} {i:Nat} (hi: ∀e∈m,∃j,j<i/\ ∃o s:Int,e=(hV (ids j),tV (o,s))/\(0<=o/\o<256)/\0<=s/\s<256) (k:Value) {xo:Int} (ho:0<=xo/\xo<256):
    (0<=(tkF m k xo).1/\(tkF m k xo).1<256)/\0<=(tkF m k xo).2/\(tkF m k xo).2<256:=by
  unfold tkF
  cases hg:mget m k with
  | none=>exact ⟨ho,Int.le_refl _,by show (0:Int)<256;decide⟩
  | some v =>
    obtain ⟨j,_,o,s,e,h1,h2⟩:=hi _ (mget_mem hg)
    have e2:v=tV (o,s):=congrArg Prod.snd e
    rw [e2];exact ⟨h1,h2⟩
theorem setIf_in {K:MK} {m:KV} (hk:KOK K m) {ids:Nat->Nat->Int} {i:Nat} (hi: ∀e∈m,∃j,j<i+1/\ ∃o s:Int,e=(hV (ids j),tV (o,s))/\(0<=o/\o<256)/\0<=s/\s<256) (ok: ∀f:Nat->Int,K.OkK (hV f)) (ov: ∀x:Int×Int,K.OkV (tV x)) (c:Int) {o s:Int} (ho:0<=o/\o<256) (hs:0<=s/\s<256):
    KOK K (setIf c m (hV (ids i)) (tV (o,s)))/\(∀e∈setIf c m (hV (ids i)) (tV (o,s)),∃j,j<i+1/\ ∃o s:Int,e=(hV (ids j),tV (o,s))/\(0<=o/\o<256)/\0<=s/\s<256)/\(setIf c m (hV (ids i)) (tV (o,s))).length<=m.length+1:=by
  unfold setIf
  cases c==0
  · exact ⟨hk,hi,Nat.le_succ _⟩
  · refine ⟨hk.set (ok _) (ov _),fun e he=> ?_,mset_len _ _ _⟩
    rcases mem_set he with rfl | he
    · exact ⟨i,Nat.lt_succ_self _,o,s,rfl,ho,hs⟩
    · exact hi e he
theorem TTI.step {K:MK} {m:KV} {L:List Ent} {ids:Nat->Nat->Int} {i:Nat} (h:TTI K m L ids i) (ok: ∀f:Nat->Int,K.OkK (hV f)) (ov: ∀x:Int×Int,K.OkV (tV x)) {c c2 to how xo:Int} {k:Value} (hk:k=hV (ids i))
    (hto:0<=to/\to<256) (hhow:0<=how/\how<256) (hxo:0<=xo/\xo<256) {m1 m2:KV} {e1 e2:Ent} (h1:m1=setIf c m k (tV (to,(tkF m k xo).2))) (h2:m2=setIf c2 m1 k (tV ((tkF m1 k xo).1,how))):
    TTI K m2 (addIf c2 (addIf c L e1) e2) ids (i+1):=by
  subst hk
  have hin: ∀e∈m,∃j,j<i+1/\ ∃o s:Int,e=(hV (ids j),tV (o,s))/\(0<=o/\o<256)/\0<=s/\s<256:=fun e he=>by
    obtain ⟨j,hj,q⟩:=h.inr e he;exact ⟨j,by omega,q⟩
  obtain ⟨a1,a2,a3⟩:=setIf_in h.kok hin ok ov c (o:=to) (s:=(tkF m (hV (ids i)) xo).2) hto (tkF_in hin _ hxo).2
  rw [←h1] at a1 a2 a3
  obtain ⟨b1,b2,b3⟩:=setIf_in a1 a2 ok ov c2 (o:=(tkF m1 (hV (ids i)) xo).1) (s:=how) (tkF_in a2 _ hxo).1 hhow
  rw [←h2] at b1 b2 b3
  have q1:=addIf_len (c:=c) (L:=L) (e:=e1)
  have q2:=addIf_len (c:=c2) (L:=addIf c L e1) (e:=e2)
  have:=h.ml;have:=h.ll
  exact ⟨b1,b2,by omega,by omega⟩
theorem TTI.keys {K:MK} {m:KV} {L:List Ent} {ids:Nat->Nat->Int} {i:Nat} (h:TTI K m L ids i):KeysH m:=by
  refine ⟨fun v hv=> ?_,h.kok.once⟩
  obtain ⟨e,he,rfl⟩:=List.mem_map.1 hv
  obtain ⟨j,_,o,s,rfl,_⟩:=h.inr e he
  exact ⟨_,rfl⟩
theorem TTI.told {K:MK} {m:KV} {L:List Ent} {ids:Nat->Nat->Int} {n:Nat} (h:TTI K m L ids n) {l:List Value} (hl:KeysOfH m l) {i:Nat} (hi:i<l.length):
    ∃j,j<n/\ ∃o s:Int,l.getD i undef=hV (ids j)/\mget m (hV (ids j))=some (tV (o,s))/\(0<=o/\o<256)/\0<=s/\s<256:=by
  obtain ⟨e,he,h1⟩:=List.mem_map.1 (hl.1.mem_iff.1 (getD_mem (d:=undef) hi))
  obtain ⟨j,hj,o,s,rfl,q⟩:=h.inr e he
  exact ⟨j,hj,o,s,h1.symm,mget_of_mem h.kok.once he,q⟩
theorem TTI.recd {K:MK} {m:KV} {L:List Ent} {ids:Nat->Nat->Int} {n:Nat} (h:TTI K m L ids n) {l:List Value} (hl:KeysOfH m l) {i:Nat} (hi:i<l.length) {b:List Int} (hb:b=tkB m l):
    hV (recF b (34*i))=l.getD i undef/\(∃j,j<n/\hV (ids j)=hV (recF b (34*i)))/\ ∀k xo,k=hV (recF b (34*i))->(tkF m k xo).1=b.getD (34*i+32) 0/\(tkF m k xo).2=b.getD (34*i+33) 0:=by
  subst hb
  obtain ⟨j,hj,o,s,e1,e2,ho,hs⟩:=h.told hl hi
  have hval: ∀k,k<34->(tkB m l).getD (34*i+k) 0=(eT (hV (ids j)) (tV (o,s))).getD k 0:=fun k hk=>by
    rw [tkB_at hi hk,e1,e2];rfl
  have hkey:hV (recF (tkB m l) (34*i))=hV (ids j):=by
    rw [←eqF_iff,←eqF_all,List.all_eq_true]
    intro k hk
    have hk' :=List.mem_range.1 hk
    refine beq_iff_eq.2 ?_
    show (tkB m l).getD (34*i+k) 0=_
    rw [hval k (by omega)]
    have e3:(eT (hV (ids j)) (tV (o,s))).getD k 0=(l32 (ids j)).getD k 0:=by
      unfold eT
      rw [List.getD_eq_getElem?_getD,List.getElem?_append_left (by show k<32;exact hk'),←List.getD_eq_getElem?_getD];rfl
    rw [e3,l32_map,List.getD_eq_getElem?_getD,List.getElem?_map,List.getElem?_range hk'];rfl
  refine ⟨by rw [hkey,e1],⟨j,hj,hkey.symm⟩,fun k xo hk=> ?_⟩
  rw [hk,hkey]
  have e4:tkF m (hV (ids j)) xo=(o,s):=by unfold tkF;rw [e2];rfl
  have e5:eT (hV (ids j)) (tV (o,s))=l32 (ids j)++([o]++ [s]):=by
    show l32 (hf (hV (ids j)))++(nb1 (IntKind.u64.wrap o)++nb1 (IntKind.u64.wrap s))=_
    rw [l32_hf,nb1_b ho.1 ho.2,nb1_b hs.1 hs.2]
  rw [e4,hval 32 (by decide),hval 33 (by decide),e5]
  exact ⟨rfl,rfl⟩
theorem TTI.rise {K:MK} {m:KV} {L:List Ent} {ids:Nat->Nat->Int} {n:Nat} (h:TTI K m L ids n) (hid: ∀j k,0<=ids j k/\ids j k<256) {l:List Value} (hl:KeysOfH m l) {i:Nat} (hi:i+1<l.length) {f g:Nat->Int} (hf' :hV f=l.getD i undef) (hg:hV g=l.getD (i+1) undef):ltK f g=true:=by
  obtain ⟨j,_,_,_,e1,_⟩:=h.told hl (i:=i) (by omega)
  obtain ⟨j',_,_,_,e2,_⟩:=h.told hl hi
  have l1:l32 f=l32 (ids j):=hV_inj.1 (hf'.trans e1)
  have l2:l32 g=l32 (ids j'):=hV_inj.1 (hg.trans e2)
  have b1:hbs f=hbs (ids j):=by unfold hbs;rw [l1]
  have b2:hbs g=hbs (ids j'):=by unfold hbs;rw [l2]
  have hs:=(List.pairwise_iff_getElem.1 hl.2.1) i (i+1) (by omega) hi (by omega)
  have hn:l.Nodup:=hl.1.nodup_iff.2 h.kok.once
  have hne:l.getD i undef≠l.getD (i+1) undef:=by
    rw [List.getD_eq_getElem?_getD,List.getD_eq_getElem?_getD,List.getElem?_eq_getElem (show i<l.length by omega),List.getElem?_eq_getElem hi]
    exact (List.pairwise_iff_getElem.1 hn) i (i+1) (by omega) hi (by omega)
  have g1:l[i]'(by omega)=hV (ids j):=by rw [←e1,List.getD_eq_getElem?_getD,List.getElem?_eq_getElem (show i<l.length by omega)];rfl
  have g2:l[i+1]=hV (ids j'):=by rw [←e2,List.getD_eq_getElem?_getD,List.getElem?_eq_getElem hi];rfl
  rw [g1,g2,hf_hV] at hs
  unfold ltK at hs ⊢
  rw [b1,b2]
  cases hq:lexN (hbs (ids j)) (hbs (ids j'))
  · have e:=lexN_eq (l:=hbs (ids j)) (m:=hbs (ids j')) rfl hq hs
    refine absurd ?_ hne
    rw [e1,e2,hV_inj]
    unfold hbs at e
    rw [l32_map,l32_map,List.map_map,List.map_map,List.map_inj_left] at e
    rw [l32_map,l32_map,List.map_inj_left]
    intro k hk
    have e3:=e k hk
    simp only [Function.comp] at e3
    have:=hid j k;have:=hid j' k
    omega
  · rfl
theorem idF_b (a b c d e f g:Int) (k:Nat):0<=idF a b c d e f g k/\idF a b c d e f g k<256:=wrap8_b _
end Go.Sx
namespace Go.Sx
open Go.RowKit
structure TT1 where
  i:Nat
  m:KV
  L:List Ent
  rb:Nat
  b:Nat
  bj:Nat
structure TT2 where
  j:Nat
  lf:Nat->Int
  m:KV
  L:List Ent
  rb:Nat
  b:Nat
  bj:Nat
  r:Row
  c7:Nat
  lb:List Value
structure TT2J (K:MK) (ids:Nat->Nat->Int) (n:Nat) (x:TT2):Prop where
  t:TTI K x.m x.L ids n
  rb:BOK x.r
  kl:KeysOfH x.m x.lb
  bb:dg x.r=tkB x.m x.lb
  jl:x.j<=x.lb.length
  lst: ∀i,x.j=i+1->hV x.lf=x.lb.getD i undef
theorem TT2J.len {K:MK} {ids:Nat->Nat->Int} {n:Nat} {x:TT2} (h:TT2J K ids n x):(dg x.r).length=34*x.lb.length:=by rw [h.bb,tkB_len]
theorem TT2J.small {K:MK} {ids:Nat->Nat->Int} {n:Nat} {x:TT2} (h:TT2J K ids n x):x.lb.length<=2*n:=by rw [h.kl.len];exact h.t.ml
theorem TT2J.recd {K:MK} {ids:Nat->Nat->Int} {n:Nat} {x:TT2} (h:TT2J K ids n x) (hj:x.j<x.lb.length):
    hV (recF (dg x.r) (34*x.j))=x.lb.getD x.j undef/\(∃j,j<n/\hV (ids j)=hV (recF (dg x.r) (34*x.j)))/\ ∀k xo,k=hV (recF (dg x.r) (34*x.j))->(tkF x.m k xo).1=(dg x.r).getD (34*x.j+32) 0/\(tkF x.m k xo).2=(dg x.r).getD (34*x.j+33) 0:=
  h.t.recd h.kl hj h.bb
theorem TT2J.next {K:MK} {ids:Nat->Nat->Int} {n:Nat} {x:TT2} (h:TT2J K ids n x) (hj:x.j<x.lb.length):TT2J K ids n { x with j:=x.j+1,lf:=recF (dg x.r) (34*x.j) }:=
  ⟨h.t,h.rb,h.kl,h.bb,hj,fun i hi=>by
    have e:x.j=i:=Nat.succ.inj hi
    rw [←e];exact (h.recd hj).1⟩
theorem TT2J.less {K:MK} {ids:Nat->Nat->Int} {n:Nat} {x:TT2} (h:TT2J K ids n x) (hid: ∀j k,0<=ids j k/\ids j k<256) (hj:x.j<x.lb.length) (h0:0<x.j):ltK x.lf (recF (dg x.r) (34*x.j))=true:=by
  obtain ⟨i,hi⟩: ∃i,x.j=i+1:=⟨x.j - 1,by omega⟩
  refine h.t.rise hid h.kl (i:=i) (by omega) (h.lst i hi) ?_
  rw [←hi];exact (h.recd hj).1
def TK3 (ids:Nat->Nat->Int) (n:Nat) (f:Nat->Int) (q:Nat) (kn:Bool):Prop:=q<=n/\(kn=true∨ ∃j,q<=j/\j<n/\hV (ids j)=hV f)
theorem TK3.start {ids:Nat->Nat->Int} {n:Nat} {f:Nat->Int} (h: ∃j,j<n/\hV (ids j)=hV f):TK3 ids n f 0 false:=by
  obtain ⟨j,hj,e⟩:=h
  exact ⟨Nat.zero_le _, .inr ⟨j,Nat.zero_le _,hj,e⟩⟩
theorem TK3.yes {ids:Nat->Nat->Int} {n:Nat} {f:Nat->Int} {q:Nat} (hq:q<n):TK3 ids n f (q+1) true:=⟨hq, .inl rfl⟩
theorem TK3.no {ids:Nat->Nat->Int} {n:Nat} {f:Nat->Int} {q:Nat} {kn:Bool} (h:TK3 ids n f q kn) (hk:kn=false) (hq:q<n) {g:Nat->Int} (hg:hV g=hV (ids q)) (he:eqV (hV g) (hV f)=false):TK3 ids n f (q+1) false:=by
  refine ⟨hq, .inr ?_⟩
  rcases h.2 with q1 | ⟨j,h1,h2,h3⟩
  · rw [hk] at q1;cases q1
  · refine ⟨j,?_,h2,h3⟩
    rcases Nat.lt_or_ge q j with q2 | q2
    · exact q2
    · have e:j=q:=by omega
      subst e
      rw [eqV_iff.2 (hg.trans h3)] at he;cases he
theorem TK3.fin {ids:Nat->Nat->Int} {n:Nat} {f:Nat->Int} {q:Nat} {kn:Bool} (h:TK3 ids n f q kn) (hq: ¬q<n):kn=true:=by
  rcases h.2 with q1 | ⟨j,h1,h2,_⟩
  · exact q1
  · exact absurd (Nat.lt_of_le_of_lt h1 h2) hq
end Go.Sx
