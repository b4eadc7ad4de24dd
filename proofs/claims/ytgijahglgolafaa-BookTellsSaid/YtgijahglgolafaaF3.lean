/- A part of the prover's own frame for walking code (see the claim's other texts). -/
import Derived.Test.YtgijahglgolafaaF2
set_option linter.unusedVariables false
set_option linter.unusedSimpArgs false
namespace Go.Sx
open Go.RowKit
noncomputable def eB (k v:Value):List Int:=nb1 (IntKind.u64.wrap (ci (cell k 0)))++(nb1 (IntKind.u64.wrap (ci (cell k 1)))++l32 (ib4 (lim (num v) 0) (lim (num v) 1) (lim (num v) 2) (lim (num v) 3)))
noncomputable def bkB (m:KV) (l:List Value):List Int:=l.flatMap fun k=>eB k ((mget m k).getD (vI 0))
theorem eB_len (k v:Value):(eB k v).length=34:=rfl
theorem bkB_len (m:KV): ∀l:List Value,(bkB m l).length=34*l.length
  | []=>rfl
  | k :: l => by
    have:=bkB_len m l
    unfold bkB at *
    rw [List.flatMap_cons,List.length_append,eB_len,this,List.length_cons];omega
theorem bkB_take {m:KV} {l:List Value} {i:Nat} (h:i<l.length):bkB m (l.take (i+1))=bkB m (l.take i)++eB (l.getD i undef) ((mget m (l.getD i undef)).getD (vI 0)):=by
  unfold bkB
  rw [List.take_succ_eq_append_getElem h,List.flatMap_append,List.getD_eq_getElem?_getD,List.getElem?_eq_getElem h]
  simp
theorem KeysOf2.len {m:KV} {l:List Value} (h:KeysOf2 m l):l.length=m.length:=by have:=h.1.length_eq;simpa using this
theorem wit_bkB {m:KV} (hi:Pairs2 (m.map (·.1))) (hm:MOK m): ∃x:Row,(fun x=>BOK x/\ ∃l,KeysOf2 m l/\dg x=bkB m l) x:=by
  obtain ⟨y,hp,hs⟩:=sort2_wit hi
  exact ⟨.mk 0 (bv (bkB m y)) [],bok_lit _ _ _,y,keysOf2_of hm hi hp hs,by show ((bv (bkB m y)).map ci)=_;rw [bv_ci]⟩
def InR (m:KV):Prop:= ∀e∈m,∃t p v:Int,e=(kk t p,vI v)/\0<=t/\t<4/\0<=p/\p<18/\R4 v/\v≠0
theorem InR.nil:InR []:=fun e h=>by cases h
theorem mem_del {m:KV} {k:Value} {e:Value×Value} (h:e∈mdel m k):e∈m:=List.mem_of_mem_eraseP h
theorem InR.put {m:KV} (h:InR m) {t p n:Int} (hn:R4 n) (t0:0<=t) (t4:t<4) (p0:0<=p) (p18:p<18):InR (mput m (kk t p) n):=by
  unfold mput
  split
  · exact fun e he=>h e (mem_del he)
  · rename_i hz
    intro e he
    rcases mem_set he with rfl | he
    · exact ⟨t,p,n,rfl,t0,t4,p0,p18,hn,hz⟩
    · exact h e he
theorem mset_len (m:KV) (k v:Value):(mset m k v).length<=m.length+1:=by unfold mset;split<;>simp
theorem mput_len (m:KV) (k:Value) (n:Int):(mput m k n).length<=m.length+1:=by
  unfold mput;split
  · have:(mdel m k).length<=m.length:=List.length_eraseP_le
    omega
  · exact mset_len _ _ _
theorem wf8_of {n:Int} (h0:0<=n) (h1:n<=255):(Lit.int .u8 n).wf=true:=by
  simp [Lit.wf,IntKind.min,IntKind.max,IntKind.signed,IntKind.bits];omega
theorem rem8 {n k:Int} (h:(Lit.int .u8 n).wf=true) (hk:0<k):Int.tmod n k=n%k:=Int.tmod_eq_emod_of_nonneg (wf8 h).1
theorem rem8_wf {n k:Int} (hk:0<k) (hk2:k<=255):(Lit.int .u8 (n%k)).wf=true:=wf8_of (Int.emod_nonneg _ (by omega)) (by have:=Int.emod_lt_of_pos n hk;omega)
section
variable {Kb Ks:MK} (nb:NumK Kb) (ns:NumK Ks) (ob: ∀t p,Kb.OkK (kk t p)) (os: ∀t:Int,Ks.OkK (.int .u8 t))
structure BTI (Kb Ks:MK) (s:BS) (i:Nat):Prop where
  kb:KOK Kb s.1
  ks:KOK Ks s.2.1
  inr:InR s.1
  ml:s.1.length<=3*i
  ll:s.2.2.length<=4*i
theorem BTI.nil:BTI Kb Ks ([],[],[]) 0:=⟨KOK.nil,KOK.nil,InR.nil,Nat.zero_le _,Nat.zero_le _⟩
theorem bMint_in {s : BS} (hb : KOK Kb s.1) (hs : KOK Ks s.2.1) (hi : InR s.1) (nb : NumK Kb) (ns : NumK Ks) (ob : ∀ t p, Kb.OkK (kk t p)) (os : ∀ t : Int, Ks.OkK (.int .u8 t)) {eb es : KV -> Value -> Ent} {t p n : Int} (hn : R4 n) (t0 : 0 <= t) (p0 : 0 <= p) {x : Int × BS} (hx : x = bMint eb es s t p n) :
    KOK Kb x.2.1/\KOK Ks x.2.2.1/\InR x.2.1/\x.2.1.length<=s.1.length+1/\x.2.2.2.length<=s.2.2.length+2:=by
  subst hx
  unfold bMint
  split
  · exact ⟨hb,hs,hi,by simp only;omega,by simp only;omega⟩
  · rename_i hw
    split
    · exact ⟨hb,hs,hi,by simp only;omega,by simp only;omega⟩
    · rename_i hov
      have hw' :t<4/\p<18:=by
        unfold bw1 at hw
        split at hw
        · exact absurd (by decide:(1:Int)≠0) hw
        · omega
      have rB:R4 (hAdd (bal s.1 t p) n).1:=hAdd_R (KOK.R4v nb hb _) hn
      have rS:R4 (sup s.2.1 t+n):=⟨by have:=(KOK.R4v ns hs (.int .u8 t)).1;have:=hn.1;unfold sup;omega,Int.not_le.1 hov⟩
      refine ⟨hb.put nb (ob t p) rB,hs.set (os t) ((ns _).2 ⟨_,rS,rfl⟩),hi.put rB t0 hw'.1 p0 hw'.2,mput_len _ _ _,?_⟩
      have h1:=(bPut_len eb (bSup es s t (sup s.2.1 t+n)) (kk t p) (hAdd (bal s.1 t p) n).1).2
      have h2:=bSup_len es s t (sup s.2.1 t+n)
      show (bPut eb (bSup es s t (sup s.2.1 t+n)) (kk t p) (hAdd (bal s.1 t p) n).1).2.2.length<=_
      omega
theorem bMove_in {s : BS} (hb : KOK Kb s.1) (hs : KOK Ks s.2.1) (hi : InR s.1) (nb : NumK Kb) (ob : ∀ t p, Kb.OkK (kk t p)) {eb : KV -> Value -> Ent} {t p q n : Int} (hn : R4 n) (t0 : 0 <= t) (p0 : 0 <= p) (q0 : 0 <= q) {x : Int × BS} (hx : x = bMove eb s t p q n) :
    KOK Kb x.2.1/\KOK Ks x.2.2.1/\InR x.2.1/\x.2.1.length<=s.1.length+2/\x.2.2.2.length<=s.2.2.length+2:=by
  subst hx
  unfold bMove
  split
  · exact ⟨hb,hs,hi,by simp only;omega,by simp only;omega⟩
  · rename_i hw
    split
    · exact ⟨hb,hs,hi,by simp only;omega,by simp only;omega⟩
    · rename_i hov
      have hw' :t<4/\p<18/\q<18:=by
        unfold bw2 at hw
        split at hw
        · exact absurd (by decide:(1:Int)≠0) hw
        · omega
      have hB:=KOK.R4v nb hb (kk t p)
      have r1:R4 (bal s.1 t p - n):=⟨by have: ¬bal s.1 t p<n:=hov;omega,by have:=hB.2;have:=hn.1;show bal s.1 t p - n<_;unfold bal;omega⟩
      have k1:KOK Kb (bPut eb s (kk t p) (bal s.1 t p - n)).1:=hb.put nb (ob t p) r1
      have i1:InR (bPut eb s (kk t p) (bal s.1 t p - n)).1:=hi.put r1 t0 hw'.1 p0 hw'.2.1
      have r2:R4 (hAdd (bal (bPut eb s (kk t p) (bal s.1 t p - n)).1 t q) n).1:=hAdd_R (KOK.R4v nb k1 _) hn
      refine ⟨k1.put nb (ob t q) r2,hs,i1.put r2 t0 hw'.1 q0 hw'.2.2,?_,?_⟩
      · have h1:=mput_len (bPut eb s (kk t p) (bal s.1 t p - n)).1 (kk t q) (hAdd (bal (bPut eb s (kk t p) (bal s.1 t p - n)).1 t q) n).1
        have h2:(bPut eb s (kk t p) (bal s.1 t p - n)).1.length<=s.1.length+1:=mput_len _ _ _
        show (mput _ _ _).length<=_
        omega
      · have h1:=(bPut_len eb (bPut eb s (kk t p) (bal s.1 t p - n)) (kk t q) (hAdd (bal (bPut eb s (kk t p) (bal s.1 t p - n)).1 t q) n).1).2
        have h2:=(bPut_len eb s (kk t p) (bal s.1 t p - n)).2
        show (bPut eb (bPut eb s (kk t p) (bal s.1 t p - n)) (kk t q) _).2.2.length<=_
        omega
theorem BTI.step {s:BS} {i:Nat} (h:BTI Kb Ks s i) (nb:NumK Kb) (ns:NumK Ks) (ob: ∀t p,Kb.OkK (kk t p)) (os: ∀t:Int,Ks.OkK (.int .u8 t)) {eb es eb' :KV->Value->Ent} {t p q n:Int} (hn:R4 n) (t0:0<=t) (p0:0<=p) (q0:0<=q) {x y:Int×BS} (hx:x=bMint eb es s t p n) (hy:y=bMove eb' x.2 t p q n):BTI Kb Ks y.2 (i+1):=by
  obtain ⟨a1,a2,a3,a4,a5⟩:=bMint_in h.kb h.ks h.inr nb ns ob os hn t0 p0 hx
  obtain ⟨b1,b2,b3,b4,b5⟩:=bMove_in a1 a2 a3 nb ob hn t0 p0 q0 hy
  exact ⟨b1,b2,b3,by have:=h.ml;omega,by have:=h.ll;omega⟩
end
structure BTl where
  i:Nat
  s:BS
  b:Nat
  bm:Nat
  bs:Nat
  bj:Nat
  cb:Nat
  cm:Nat
  cr:Nat
noncomputable def kc (k:Value):Int:=18*ci (cell k 0)+ci (cell k 1)
theorem key_in {m:KV} (h:InR m) {k:Value} (hk:k∈m.map (·.1)): ∃t p:Int,k=kk t p/\0<=t/\t<4/\0<=p/\p<18:=by
  obtain ⟨e,he,rfl⟩:=List.mem_map.1 hk
  obtain ⟨t,p,v,rfl,a,b,c,d,_⟩:=h e he
  exact ⟨t,p,rfl,a,b,c,d⟩
theorem rise_kc {m:KV} (h:InR m) {l:List Value} (hk:KeysOf2 m l) {i j:Nat} (hij:i<j) (hj:j<l.length):kc (l.getD i undef)<kc (l.getD j undef):=by
  have hi:i<l.length:=by omega
  rw [List.getD_eq_getElem?_getD,List.getD_eq_getElem?_getD,List.getElem?_eq_getElem hi,List.getElem?_eq_getElem hj]
  have h1:=(List.pairwise_iff_getElem.1 hk.2.1) i j hi hj hij
  obtain ⟨t,p,e1,_,_,_,h4⟩:=key_in h (hk.1.mem_iff.1 (List.getElem_mem hi))
  obtain ⟨t',p',e2,_,_,h5,_⟩:=key_in h (hk.1.mem_iff.1 (List.getElem_mem hj))
  simp only [Option.getD_some]
  rw [e1,e2] at h1 ⊢
  have h2:=(ahd_iff _ _).1 h1
  have h3:t<t' ∨(t=t' /\p<p'):=h2
  show 18*t+p<18*t' +p'
  omega
def TL1 (l:List Value) (i:Nat) (y:Int×Nat):Prop:=y.2=i/\ -1<=y.1/\y.1<72/\ ∀j,i<=j->j<l.length->y.1<kc (l.getD j undef)
theorem TL1.start {m:KV} (h:InR m) {l:List Value} (hk:KeysOf2 m l):TL1 l 0 (-1,0):=by
  refine ⟨rfl,Int.le_refl _,by decide,fun j _ hj=> ?_⟩
  obtain ⟨t,p,e,a,_,b,_⟩:=key_in h (hk.1.mem_iff.1 (getD_mem (d:=undef) hj))
  rw [e];show -1<18*t+p;omega
theorem TL1.next {m:KV} (h:InR m) {l:List Value} (hk:KeysOf2 m l) {i:Nat} (hi:i<l.length) {y:Int×Nat} (hy:TL1 l i y) {t p:Int} (e:l.getD i undef=kk t p):0<=t/\t<4/\0<=p/\p<18/\y.1<18*t+p/\TL1 l (i+1) (18*t+p,y.2+1):=by
  obtain ⟨t',p',e',a,b,c,d⟩:=key_in h (hk.1.mem_iff.1 (getD_mem (d:=undef) hi))
  obtain ⟨rfl,rfl⟩:=kk_inj.1 (e.symm.trans e')
  have hlt:=hy.2.2.2 i (Nat.le_refl _) hi
  rw [e] at hlt
  refine ⟨a,b,c,d,hlt,by rw [hy.1],by show -1<=18*t+p;omega,by show 18*t+p<72;omega,fun j hj hjl=> ?_⟩
  have:=rise_kc h hk (i:=i) (j:=j) (by omega) hjl
  rw [e] at this
  exact this
theorem told_val {m:KV} (h:InR m) {l:List Value} (hk:KeysOf2 m l) (hm:MOK m) {i:Nat} (hi:i<l.length): ∃t p v:Int,l.getD i undef=kk t p/\(mget m (l.getD i undef)).getD (vI 0)=vI v/\R4 v/\v≠0/\bal m t p=v:=by
  obtain ⟨e,he,h1⟩:=List.mem_map.1 (hk.1.mem_iff.1 (getD_mem (d:=undef) hi))
  obtain ⟨t,p,v,rfl,_,_,_,_,rv,vn⟩:=h e he
  have hg:mget m (kk t p)=some (vI v):=mget_of_mem hm he
  simp only at h1
  refine ⟨t,p,v,h1.symm,by rw [←h1,hg];rfl,rv,vn,?_⟩
  unfold bal;rw [hg];exact num_vI rv
def TL2 (most:Int) (i:Nat) (y:Bool×Nat):Prop:=y.1=true/\y.2=i/\(0<i->((i:Nat):Int)<most)
def TL2S (most:Int) (n:Nat) (y:Bool×Nat):Prop:=y.1=false/\0<y.2/\y.2<=n/\most<=((y.2:Nat):Int)/\(y.2=1∨((y.2:Nat):Int) - 1<most)
theorem TL2.fin {most:Int} {n:Nat} {y:Bool×Nat} (h:TL2 most n y∨TL2S most n y):((y.2:Nat):Int)=min ((n:Nat):Int) (max most 1):=by
  rcases h with ⟨_,h1,h2⟩ | ⟨_,h1,h2,h3,h4⟩
  · rcases Nat.eq_zero_or_pos n with q | q
    · subst q;rw [h1];omega
    · have:=h2 q;rw [h1];omega
  · omega
end Go.Sx
namespace Go.Sx
theorem tl1_wit {m:KV} (h:InR m) {l:List Value} (hk:KeysOf2 m l): ∃y:Int×Nat,TL1 l l.length y:=⟨(-1,l.length),rfl,Int.le_refl _,by show (-1:Int)<72;decide,fun j h1 h2=>by omega⟩
theorem tl2_wit (most:Int) (l:List Value): ∃y:Bool×Nat,TL2 most l.length y∨TL2S most l.length y:=by
  by_cases h:0<l.length/\most<=(l.length:Int)
  · by_cases h1:most<=1
    · exact ⟨(false,1), .inr ⟨rfl,Nat.one_pos,h.1,h1, .inl rfl⟩⟩
    · exact ⟨(false,most.toNat), .inr ⟨rfl,by dsimp only;omega,by dsimp only;omega,by dsimp only;omega, .inr (by dsimp only;omega)⟩⟩
  · exact ⟨(true,l.length), .inl ⟨rfl,rfl,fun q=>by omega⟩⟩
theorem TL2.round {most:Int} {n i:Nat} (hi:i<n) {y:Bool×Nat} (hy:TL2 most i y) {z:Bool×Nat} (hz:z.2=y.2+1/\(z.1=true->((y.2:Nat):Int)+1<most)/\(z.1=false->most<=((y.2:Nat):Int)+1)):(z.1=true->TL2 most (i+1) z)/\(z.1=false->TL2S most n z):=by
  obtain ⟨h1,h2,h3⟩:=hy
  obtain ⟨a,b,c⟩:=hz
  refine ⟨fun q=>⟨q,by omega,fun _=>by have:=b q;omega⟩,fun q=>⟨q,by omega,by omega,by have:=c q;omega,?_⟩⟩
  rcases Nat.eq_zero_or_pos i with e | e
  · exact .inl (by omega)
  · have:=h3 e;exact .inr (by omega)
end Go.Sx
