/- A part of the prover's own frame for walking code (see the claim's other texts). -/
import Derived.Test.YtbdfepjommajhaaDoorF1
import Derived.Test.YtbdfepjommajhaaDoorF2
import Derived.Laws.BytesString
import Derived.Lib.ConvBytes
import Derived.Shelf.SlSortCmp.WholeK
import Derived.Shelf.SlSortCmp.NoneTotal
import Derived.Lib.BytesEntry
import Derived.Laws.Externs
import Derived.ChangeKeysEq
set_option linter.unusedVariables false
set_option linter.unusedSimpArgs false
set_option linter.unusedVariables false
set_option linter.unusedSimpArgs false
namespace Go.Sx
def pcn:Nat->Nat->Nat
  | 0,_=>0
  | n+1,x=>x%2+pcn n (x/2)
theorem pcn_set : ∀ (n x k : Nat), k < n -> x.testBit k = false -> pcn n (x ||| 2 ^ k) = pcn n x + 1 := by
  intro n
  induction n with
  | zero=>intro x k h;omega
  | succ n ih =>
    intro x k h hx
    cases k with
    | zero =>
      have h0:x%2=0:=by simp [Nat.testBit_zero] at hx;omega
      have h1:(x ||| 2^0)%2=1:=by
        have:=Nat.or_mod_two_pow (a:=x) (b:=1) (n:=1)
        simp only [Nat.pow_one] at this
        rw [Nat.pow_zero,this,h0];rfl
      have h2:(x ||| 2^0)/2=x/2:=by
        rw [Nat.or_div_two];simp
      simp only [pcn];rw [h1,h2,h0];omega
    | succ k =>
      have h1:(x ||| 2^(k+1))%2=x%2:=by
        have z:(2^(k+1))%2=0:=by rw [Nat.pow_succ];omega
        have:=Nat.or_mod_two_pow (a:=x) (b:=2^(k+1)) (n:=1)
        simp only [Nat.pow_one] at this
        rw [this,z,Nat.or_zero]
      have h2:(x ||| 2^(k+1))/2=x/2 ||| 2^k:=by
        rw [Nat.or_div_two];congr 1;rw [Nat.pow_succ];omega
      simp only [pcn];rw [h1,h2,ih (x/2) k (by omega) (by rw [←Nat.testBit_succ];exact hx)];omega
end Go.Sx
set_option linter.unusedVariables false
set_option linter.unusedSimpArgs false
namespace Go.Sx
end Go.Sx
set_option linter.unusedVariables false
set_option linter.unusedSimpArgs false
namespace Go.Sx
open Go.RowKit
abbrev u32v (n:Int):Value:= .int .u32 n
abbrev u64v (n:Int):Value:= .int .u64 n
structure WdK (K:MK):Prop where
  k: ∀n,K.OkK (u32v n)
  k' : ∀v,K.OkK v-> ∃n,v=u32v n
  v: ∀n:Int,W n->K.OkV (u64v n)
  v' : ∀x,K.OkV x-> ∃n:Int,W n/\x=u64v n
noncomputable def wd (m:KV) (w:Int):Int:=ci ((mget m (u32v w)).getD (u64v 0))
theorem wd_W {K:MK} (I:WdK K) {m:KV} (h:KOK K m) (w:Int):W (wd m w):=by
  unfold wd
  cases hg:mget m (u32v w) with
  | none=>exact ⟨by decide,by decide⟩
  | some v=>obtain ⟨n,hn,rfl⟩:=I.v' v (h.val hg);exact hn
noncomputable def hasI (m:KV) (i:Int):Bool:=(wd m (i/64)).toNat.testBit (i%64).toNat
def setW (x:Int) (b:Nat):Int:=((x.toNat ||| 2^b:Nat):Int)
theorem setW_W {x:Int} {b:Nat} (h:W x) (hb:b<64):W (setW x b):=by
  unfold W at h
  have:=Nat.or_lt_two_pow (x:=x.toNat) (y:=2^b) (n:=64) (by omega) (Nat.pow_lt_pow_right (by decide) hb)
  unfold setW W;omega
theorem setW_bit (x:Int) (b c:Nat):(setW x b).toNat.testBit c=(x.toNat.testBit c || decide (b=c)):=by
  unfold setW
  rw [Int.toNat_natCast,Nat.testBit_or,Nat.testBit_two_pow]
noncomputable def putM (m:KV) (i:Int):KV:=mset m (u32v (i/64)) (u64v (setW (wd m (i/64)) (i%64).toNat))
theorem wd_put (m:KV) (i w:Int):wd (putM m i) w=if w=i/64 then setW (wd m w) (i%64).toNat else wd m w:=by
  show ci ((mget (mset m _ _) (u32v w)).getD (u64v 0))=_
  rw [mget_set]
  by_cases h:w=i/64
  · subst h;rw [if_pos rfl,if_pos rfl];rfl
  · rw [if_neg (fun e=>h (by injection e)),if_neg h];rfl
theorem put_ok {K:MK} (I:WdK K) {m:KV} (h:KOK K m) (i:Int):KOK K (putM m i):=h.set (I.k _) (I.v _ (setW_W (wd_W I h _) (by omega)))
noncomputable def sumV (g:Value->Nat) (m:KV):Nat:=(m.map fun e=>g e.2).sum
theorem sumV_map {g : Value -> Nat} {k v : Value} : ∀ {m : KV}, MOK m -> ∀ {x : Value}, mget m k = some x -> sumV g (m.map fun e => if e.1 = k then (k, v) else e) + g x = sumV g m + g v
  | [],_,x,h=>by rw [mget_nil] at h;cases h
  | e :: m, hm, x, h => by
    unfold MOK at hm
    rw [List.map_cons,List.nodup_cons] at hm
    rw [mget_cons] at h
    unfold sumV
    simp only [List.map_cons,List.sum_cons]
    by_cases he:e.1=k
    · rw [if_pos he] at h
      injection h with h
      rw [if_pos he]
      have hs:(m.map fun e=>if e.1=k then (k,v) else e)=m:=by
        conv=>rhs;rw [←List.map_id m]
        apply List.map_congr_left
        intro y hy
        rw [if_neg];rfl
        intro q;exact hm.1 (by rw [he,←q];exact List.mem_map_of_mem (f:=(·.1)) hy)
      rw [hs,h];show g v+_+_=_;omega
    · rw [if_neg he] at h
      have:=sumV_map (g:=g) (v:=v) (m:=m) hm.2 h
      rw [if_neg he]
      unfold sumV at this
      omega
theorem sumV_set {g:Value->Nat} {z:Value} (hz:g z=0) {m:KV} (hm:MOK m) (k v:Value):sumV g (mset m k v)+g ((mget m k).getD z)=sumV g m+g v:=by
  unfold mset
  cases hg:mget m k with
  | none =>
    rw [if_neg (by simp),show (none:Option Value).getD z=z from rfl,hz]
    unfold sumV
    rw [List.map_append,List.sum_append]
    rfl
  | some x =>
    rw [if_pos (by simp)]
    exact sumV_map hm hg
theorem perm_sum {l l' :List Nat} (h:l.Perm l'):l.sum=l'.sum:=by
  induction h with
  | nil=>rfl
  | cons _ _ ih=>simp only [List.sum_cons];rw [ih]
  | swap a b l=>simp only [List.sum_cons];omega
  | trans _ _ h1 h2=>rw [h1,h2]
noncomputable def c64 (v:Value):Nat:=pcn 64 (ci v).toNat
noncomputable def totW (m:KV):Nat:=sumV c64 m
theorem c64_zero:c64 (u64v 0)=0:=by unfold c64;decide
theorem c64_nat (n:Nat):c64 (u64v ((n:Nat):Int))=pcn 64 n:=by
  unfold c64
  rw [show (ci (u64v ((n:Nat):Int))).toNat=n from Int.toNat_natCast n]
theorem c64_wd (m:KV) (w:Int):c64 ((mget m (u32v w)).getD (u64v 0))=pcn 64 (wd m w).toNat:=rfl
theorem totW_put {K:MK} (I:WdK K) {m:KV} (h:KOK K m) {i:Int} (hi:hasI m i=false):totW (putM m i)=totW m+1:=by
  have h1:=sumV_set c64_zero h.once (u32v (i/64)) (u64v (setW (wd m (i/64)) (i%64).toNat))
  have hb:(i%64).toNat<64:=by omega
  have hp:=pcn_set 64 (wd m (i/64)).toNat (i%64).toNat hb hi
  rw [c64_wd] at h1
  unfold setW at h1
  rw [c64_nat,hp] at h1
  unfold totW putM setW
  generalize pcn 64 (wd m (i/64)).toNat=q at *
  omega
structure SpS (K:MK) (P:List Int) (m:KV) (c:Nat):Prop where
  ok:KOK K m
  bit: ∀w:Int,∀b,b<64->((wd m w).toNat.testBit b=true↔ ∃x∈P,x/64=w/\(x%64).toNat=b)
  key: ∀w:Int,(mget m (u32v w)).isSome=true↔ ∃x∈P,x/64=w
  cnt:totW m=c
theorem SpS.nil {K:MK}:SpS K [] [] 0:=⟨KOK.nil,fun w b _=>by
  rw [show wd [] w=0 from rfl];simp,fun w=>by rw [mget_nil];simp,rfl⟩
theorem SpS.has {K:MK} {P:List Int} {m:KV} {c:Nat} (h:SpS K P m c) (i:Int):hasI m i=true↔i∈P:=by
  unfold hasI
  rw [h.bit _ _ (by omega)]
  constructor
  · rintro ⟨x,hx,h1,h2⟩
    have:x=i:=by omega
    rw [←this];exact hx
  · intro hi;exact ⟨i,hi,rfl,rfl⟩
theorem SpS.old {K:MK} {P:List Int} {m:KV} {c:Nat} (h:SpS K P m c) {i:Int} (hi:hasI m i=true):SpS K (P++ [i]) m c:=by
  have hm:=(h.has i).1 hi
  have e: ∀x,x∈P++ [i]↔x∈P:=fun x=>by simp only [List.mem_append,List.mem_singleton];exact ⟨fun q=>q.elim id (fun q=>q▸hm), .inl⟩
  exact ⟨h.ok,fun w b hb=>by rw [h.bit w b hb];simp only [e],fun w=>by rw [h.key w];simp only [e],h.cnt⟩
theorem SpS.new {K : MK} (I : WdK K) {P : List Int} {m : KV} {c : Nat} (h : SpS K P m c) {i : Int} (hi : hasI m i = false) : SpS K (P ++ [i]) (putM m i) (c + 1) := by
  refine ⟨put_ok I h.ok i,fun w b hb=> ?_,fun w=> ?_,by rw [totW_put I h.ok hi,h.cnt]⟩
  · rw [wd_put]
    by_cases hw:w=i/64
    · subst hw
      rw [if_pos rfl,setW_bit,Bool.or_eq_true,h.bit _ _ hb,decide_eq_true_eq]
      constructor
      · rintro (⟨x,hx,q⟩ | q)
        · exact ⟨x,List.mem_append_left _ hx,q⟩
        · exact ⟨i,by simp,rfl,q⟩
      · rintro ⟨x,hx,q⟩
        rcases List.mem_append.1 hx with hx | hx
        · exact .inl ⟨x,hx,q⟩
        · simp at hx;subst hx;exact .inr q.2
    · rw [if_neg hw,h.bit _ _ hb]
      constructor
      · rintro ⟨x,hx,q⟩;exact ⟨x,List.mem_append_left _ hx,q⟩
      · rintro ⟨x,hx,q⟩
        rcases List.mem_append.1 hx with hx | hx
        · exact ⟨x,hx,q⟩
        · simp at hx;subst hx;exact absurd q.1.symm hw
  · unfold putM
    rw [mget_set]
    by_cases hw:w=i/64
    · subst hw;rw [if_pos rfl];simp
    · rw [if_neg (fun e=>hw (by injection e)),h.key w]
      constructor
      · rintro ⟨x,hx,q⟩;exact ⟨x,List.mem_append_left _ hx,q⟩
      · rintro ⟨x,hx,q⟩
        rcases List.mem_append.1 hx with hx | hx
        · exact ⟨x,hx,q⟩
        · simp at hx;subst hx;exact absurd q.symm hw
noncomputable def putO (m:KV) (i:Int):KV:=if hasI m i then m else putM m i
theorem SpS.put {K:MK} (I:WdK K) {P:List Int} {m:KV} {c:Nat} (h:SpS K P m c) (i:Int):SpS K (P++ [i]) (putO m i) (c+if hasI m i then 0 else 1):=by
  unfold putO
  cases hi:hasI m i with
  | true=>exact h.old hi
  | false=>exact h.new I hi
theorem SpS.eqm {K : MK} (I : WdK K) {P Q : List Int} {m n : KV} {c d : Nat} (h : SpS K P m c) (g : SpS K Q n d) (e : ∀ x, x ∈ P ↔ x ∈ Q) : EqM m n := by
  have hw: ∀w,wd m w=wd n w:=fun w=>by
    have a:=wd_W I h.ok w
    have b:=wd_W I g.ok w
    unfold W at a b
    have:(wd m w).toNat=(wd n w).toNat:=by
      apply Nat.eq_of_testBit_eq;intro j
      by_cases hj:j<64
      · rw [Bool.eq_iff_iff,h.bit w j hj,g.bit w j hj];simp only [e]
      · rw [Nat.testBit_lt_two_pow,Nat.testBit_lt_two_pow]
        · exact Nat.lt_of_lt_of_le (show _<2^64 by omega) (Nat.pow_le_pow_right (by decide) (by omega))
        · exact Nat.lt_of_lt_of_le (show _<2^64 by omega) (Nat.pow_le_pow_right (by decide) (by omega))
    omega
  have key: ∀ {P Q:List Int} {m n:KV} {c d:Nat},SpS K P m c->SpS K Q n d->(∀x,x∈P↔x∈Q)->(∀w,wd m w=wd n w)-> ∀k v,mget m k=some v->mget n k=some v:=by
    intro P Q m n c d h g e hw k v hk
    obtain ⟨w,rfl⟩:=I.k' k (h.ok.ok _ (mget_mem hk)).1
    obtain ⟨x,_,rfl⟩:=I.v' v (h.ok.val hk)
    have h1:(mget n (u32v w)).isSome=true:=by
      rw [g.key w];simp only [←e];exact (h.key w).1 (by rw [hk];rfl)
    obtain ⟨v',hv'⟩:=Option.isSome_iff_exists.1 h1
    obtain ⟨y,_,rfl⟩:=I.v' v' (g.ok.val hv')
    have q:=hw w
    unfold wd at q
    rw [hk,hv'] at q
    have:x=y:=q
    rw [hv',this]
  intro k
  cases hm:mget m k with
  | some v=>exact (key h g e hw k v hm).symm
  | none =>
    cases hn:mget n k with
    | none=>rfl
    | some v=>have:=key g h (fun x=>(e x).symm) (fun w=>(hw w).symm) k v hn;rw [hm] at this;cases this
theorem SpS.int {K:MK} (I:WdK K) {m:KV} (h:KOK K m):IntKeys .u32 m:=⟨fun v hv=>by
  obtain ⟨e,he,rfl⟩:=List.mem_map.1 hv
  exact I.k' _ (h.ok e he).1,h.once⟩
theorem SpS.len {K:MK} (I:WdK K) {P:List Int} {m:KV} {c:Nat} (h:SpS K P m c):m.length<=P.length:=by
  have:=keys_le h.ok.once (l:=P.map fun x=>u32v (x/64)) (fun k v hk=>by
    obtain ⟨w,rfl⟩:=I.k' k (h.ok.ok _ (mget_mem hk)).1
    obtain ⟨x,hx,rfl⟩:=(h.key w).1 (by rw [hk];rfl)
    exact List.mem_map_of_mem (f:=fun x=>u32v (x/64)) hx)
  simpa using this
noncomputable def sumK (m:KV) (l:List Value):Nat:=(l.map fun k=>c64 ((mget m k).getD (u64v 0))).sum
theorem sumK_totW {m:KV} (hm:MOK m) {kk:IntKind} {l:List Value} (h:KeysOf kk m l):sumK m l=totW m:=by
  unfold sumK totW sumV
  rw [perm_sum (h.1.map _),List.map_map]
  refine congrArg List.sum (List.map_congr_left fun e he=> ?_)
  show c64 ((mget m e.1).getD (u64v 0))=c64 e.2
  exact congrArg c64 (by rw [mget_of_mem hm he];rfl)
end Go.Sx
set_option linter.unusedVariables false
set_option linter.unusedSimpArgs false
namespace Go.Sx
open Go.RowKit
def strOf (l:List Value):ByteArray:=(l.map ci).foldl (fun r n=>r.push (UInt8.ofNat n.toNat)) ByteArray.empty
theorem xstr {P:Program} {src dst e:TypeId} (hs:P.underlying src=some (.slice e)) (he:P.underlying e=some (.int .u8)) (hd:P.underlying dst=some .string) (r:Row) (te:TypeId) (hb:BOK r):
    OpT P (do pure (.value (←convert src dst (sv r)))) [ss te r] Unit (fun _=> .string (strOf (rvals (sv r) (ss te r)))) (fun _=> [ss te r]) (fun _=>True):=by
  intro R w ho
  refine ⟨(),w,trivial, .inl ?_,ho,Ext.refl w⟩
  rw [rvals_eq]
  cases r with
  | nil =>
    simp only [sv]
    simp only [Sem.run_bind,run_convert_bytes_string w src dst e none 0 0 hs he hd]
    rfl
  | mk b vs ex =>
    have hb' :=ho.block (i:=0) rfl
    have hr:=run_loadCells_list (P:=P) w ⟨b,0,none⟩ vs (by
      intro j c hj
      have ea:(⟨b,0,none⟩:Addr).add j=⟨b,j,none⟩:=by rw [Addr.add_lit,Nat.zero_add]
      rw [ea,cell_of_block hb' rfl]
      have hlt:=(List.getElem?_eq_some_iff.1 hj).1
      simp [List.getElem?_append_left hlt,hj])
    have hv:vs=(vs.map ci).map (Value.int .u8):=hb.eq
    simp only [sv]
    simp only [Sem.run_bind,run_convert_bytes_string w src dst e (some ⟨b,0,none⟩) vs.length _ hs he hd]
    rw [run_bytesToString w ⟨b,0,none⟩ vs.length _ (vs.map ci) (by rw [←hv];exact hr)]
    rfl
def nb8 (x:Int):List Int:= [IntKind.u8.wrap (Int.fdiv x (2^56)),IntKind.u8.wrap (Int.fdiv x (2^48)),IntKind.u8.wrap (Int.fdiv x (2^40)),IntKind.u8.wrap (Int.fdiv x (2^32)),IntKind.u8.wrap (Int.fdiv x (2^24)),IntKind.u8.wrap (Int.fdiv x (2^16)),IntKind.u8.wrap (Int.fdiv x (2^8)),IntKind.u8.wrap (Int.fdiv x (2^0))]
noncomputable def wordB (m:KV) (k:Value):List Int:=nb4 (IntKind.u64.wrap (ci k))++nb8 (ci ((mget m k).getD (u64v 0)))
noncomputable def wordsB (m:KV) (l:List Value):List Int:=l.flatMap (wordB m)
theorem wordsB_eq {m n:KV} (h:EqM m n) (l:List Value):wordsB m l=wordsB n l:=by
  unfold wordsB wordB
  congr 1
  funext k
  rw [h k]
end Go.Sx
set_option linter.unusedVariables false
set_option linter.unusedSimpArgs false
namespace Go.Sx
open Go.RowKit
theorem wf32n {n:Int} (h:(Lit.int .u32 n).wf=true):0<=n/\n<=4294967295:=by
  simp only [Lit.wf,Bool.and_eq_true,decide_eq_true_eq] at h
  exact h
theorem put_again {m:KV} {i:Int} (h:hasI m i=true):putO m i=m:=by unfold putO;rw [if_pos h]
structure SpO (K:MK) (ls:List Int) (o:Int) (i:Nat) (m1:KV) (L1:List Ent) (m2:KV) (L2:List Ent) (c:Nat) (inb:Bool):Prop where
  le:i<=ls.length
  a:SpS K (ls.take i) m1 c
  b: ∃d,SpS K (ls.reverse.take i) m2 d
  inn:inb=decide (o∈ls.take i)
  l1:L1.length<=i
  l2:L2.length<=i
theorem SpO.start {K:MK} {ls:List Int} {o:Int}:SpO K ls o 0 [] [] [] [] 0 false:=⟨Nat.zero_le _,SpS.nil,⟨0,SpS.nil⟩,by simp,Nat.le_refl _,Nat.le_refl _⟩
theorem bif_len {b:Bool} {L:List Ent} {e:Ent}:(bif b then L else L++ [e]).length<=L.length+1:=by cases b<;>simp
theorem SpO.step {K:MK} (I:WdK K) {ls:List Int} {o:Int} {i:Nat} {m1:KV} {L1:List Ent} {m2:KV} {L2:List Ent} {c:Nat} {inb:Bool} (h:SpO K ls o i m1 L1 m2 L2 c inb) {x y:Int} (hx:ls[i]? =some x) (hy:ls[ls.length - 1 - i]? =some y)
    {e1 e2:Ent} {m1' :KV} {L1' :List Ent} {m2' :KV} {L2' :List Ent} {c' :Nat} {inb' :Bool} (p1:m1' =putO m1 x/\L1' =bif hasI m1 x then L1 else L1++ [e1]) (p2:m2' =putO m2 y/\L2' =bif hasI m2 y then L2 else L2++ [e2]) (hc:c' =c+if hasI m1 x then 0 else 1) (hi:inb' =(inb || x==o)):
    SpO K ls o (i+1) m1' L1' m2' L2' c' inb' :=by
  have hlt:=(List.getElem?_eq_some_iff.1 hx).1
  have t1:ls.take (i+1)=ls.take i++ [x]:=by
    rw [List.take_succ_eq_append_getElem hlt]
    rw [List.getElem?_eq_getElem hlt] at hx;injection hx with hx;rw [hx]
  have hr:ls.reverse[i]? =some y:=by rw [List.getElem?_reverse hlt];exact hy
  have hlr:i<ls.reverse.length:=by rw [List.length_reverse];exact hlt
  have t2:ls.reverse.take (i+1)=ls.reverse.take i++ [y]:=by
    rw [List.take_succ_eq_append_getElem hlr]
    rw [List.getElem?_eq_getElem hlr] at hr;injection hr with hr;rw [hr]
  obtain ⟨d,hb⟩:=h.b
  refine ⟨hlt,?_,⟨d+if hasI m2 y then 0 else 1,?_⟩,?_,?_,?_⟩
  · rw [t1,p1.1,hc];exact h.a.put I x
  · rw [t2,p2.1];exact hb.put I y
  · rw [hi,h.inn,t1]
    rw [Bool.eq_iff_iff]
    simp only [Bool.or_eq_true,decide_eq_true_eq,beq_iff_eq,List.mem_append,List.mem_singleton]
    exact ⟨fun q=>q.elim .inl (fun e=> .inr e.symm),fun q=>q.elim .inl (fun e=> .inr e.symm)⟩
  · rw [p1.2];exact Nat.le_trans bif_len (Nat.succ_le_succ h.l1)
  · rw [p2.2];exact Nat.le_trans bif_len (Nat.succ_le_succ h.l2)
theorem SpO.bytes {K:MK} (I:WdK K) {ls:List Int} {o:Int} {i:Nat} {m1:KV} {L1:List Ent} {m2:KV} {L2:List Ent} {c:Nat} {inb:Bool} (h:SpO K ls o i m1 L1 m2 L2 c inb) (hi:i=ls.length) {r q:Row} (h1:BOK r/\ ∃l,KeysOf .u32 m1 l/\dg r=wordsB m1 l) (h2:BOK q/\ ∃l,KeysOf .u32 m2 l/\dg q=wordsB m2 l):dg r=dg q:=by
  obtain ⟨d,hb⟩:=h.b
  have e:=h.a.eqm I hb (fun x=>by subst hi;rw [List.take_length,List.take_of_length_le (by simp)];exact List.mem_reverse.symm)
  obtain ⟨_,l,k1,e1⟩:=h1
  obtain ⟨_,l',k2,e2⟩:=h2
  rw [e1,e2,keys_eq h.a.ok.once hb.ok.once e k1 k2,wordsB_eq e]
theorem SpO.m1 {K:MK} (I:WdK K) {ls:List Int} {o:Int} {i:Nat} {m1:KV} {L1:List Ent} {m2:KV} {L2:List Ent} {c:Nat} {inb:Bool} (h:SpO K ls o i m1 L1 m2 L2 c inb):m1.length<=ls.length:=by
  have:=h.a.len I;rw [List.length_take] at this;omega
end Go.Sx
set_option linter.unusedVariables false
set_option linter.unusedSimpArgs false
namespace Go.Sx
open Go.RowKit
theorem swap3 (a:Slot) (b c:List Slot):Imp (a::(b++c)) (b++a::c):=fun R w ho=>by
  have h1:Own (ofList ((a::b)++c)) R w:=ho
  have h2:=Imp.swap (a::b) c R w h1
  have h3:Own (ofList ((c++ [a])++b)) R w:=by rw [List.append_assoc];exact h2
  have h4:=Imp.swap (c++ [a]) b R w h3
  have h5:Imp (b++(c++ [a])) (b++([a]++c)):=imp_tails b (Imp.swap _ _)
  exact h5 R w h4
def Iter (P : Program) (gf : FuncId) (cap : Array Value) (Hs : List Slot) (len : Nat) (kv : Nat -> Array Value) : Prop :=
  ∀ (l : Nat) (T : Nat -> Slot) (S : Slot), (∀ i, i < len -> RoundT P l (kv i) [T i] Bool (fun b => .bool b) (fun b => [bif b then T (i + 1) else S]) (fun _ => True)) ->
    CallT P gf (#[.func (.yield l) #[] #[]]++cap) (Hs++ [T 0]) Bool (fun _=>undef) (fun b=>Hs++ [bif b then T len else S]) (fun _=>True)
end Go.Sx
set_option linter.unusedVariables false
set_option linter.unusedSimpArgs false
namespace Go.Sx
open Go.RowKit
def bitsL (x:Nat):List Nat:=(List.range 64).filter fun b=>x.testBit b
theorem bitsL_mem {x b:Nat}:b∈bitsL x↔b<64/\x.testBit b=true:=by unfold bitsL;rw [List.mem_filter,List.mem_range]
theorem bitsL_rise (x:Nat):(bitsL x).Pairwise (· < ·):=List.Pairwise.filter _ List.pairwise_lt_range
noncomputable def numsW (m:KV) (k:Value):List Int:=(bitsL (ci ((mget m k).getD (u64v 0))).toNat).map fun b=>ci k*64+((b:Nat):Int)
noncomputable def numsK (m:KV) (l:List Value):List Int:=l.flatMap (numsW m)
theorem numsW_len (m:KV) (k:Value):(numsW m k).length=(bitsL (ci ((mget m k).getD (u64v 0))).toNat).length:=by unfold numsW;rw [List.length_map]
end Go.Sx
set_option linter.unusedVariables false
set_option linter.unusedSimpArgs false
namespace Go.Sx
open Go.RowKit
def uvs (l:List Int):List Value:=l.map (Value.int .u32)
theorem bits_len: ∀ (n x:Nat),((List.range n).filter fun b=>x.testBit b).length=pcn n x
  | 0,x=>rfl
  | n + 1, x => by
    rw [List.range_succ_eq_map,List.filter_cons,List.filter_map,pcn,←bits_len n (x/2)]
    have e:((fun b=>x.testBit b)∘Nat.succ)=fun b=>(x/2).testBit b:=by
      funext b;simp [Nat.testBit_succ]
    rw [e]
    by_cases h:x.testBit 0=true
    · rw [if_pos h,List.length_cons,List.length_map]
      rw [Nat.testBit_zero] at h
      have:=of_decide_eq_true h
      omega
    · rw [if_neg h,List.length_map]
      rw [Nat.testBit_zero] at h
      have: ¬x%2=1:=fun q=>h (by simp [q])
      omega
theorem numsK_sum {m:KV} {l:List Value}:(numsK m l).length=sumK m l:=by
  unfold numsK sumK
  induction l with
  | nil=>rfl
  | cons a l ih =>
    rw [List.flatMap_cons,List.length_append,ih,numsW_len,List.map_cons,List.sum_cons]
    exact congrArg (· +_) (bits_len 64 _)
theorem numsK_totW {m:KV} (hm:MOK m) {kk:IntKind} {l:List Value} (h:KeysOf kk m l):(numsK m l).length=totW m:=by rw [numsK_sum,sumK_totW hm h]
theorem numsK_rise {m:KV}: ∀ {l:List Value},Rise l->(numsK m l).Pairwise (· < ·)
  | [],_=>List.Pairwise.nil
  | a :: l, h => by
    unfold Rise at h
    rw [List.pairwise_cons] at h
    show (numsW m a++numsK m l).Pairwise (· < ·)
    rw [List.pairwise_append]
    refine ⟨?_,numsK_rise h.2,fun v hv u hu=> ?_⟩
    · unfold numsW
      rw [List.pairwise_map]
      exact (bitsL_rise _).imp fun q=>by omega
    · unfold numsW at hv
      obtain ⟨b,hb,rfl⟩:=List.mem_map.1 hv
      obtain ⟨k,hk,hu⟩:=List.mem_flatMap.1 hu
      unfold numsW at hu
      obtain ⟨d,hd,rfl⟩:=List.mem_map.1 hu
      have:=(bitsL_mem.1 hb).1
      have:=h.1 k hk
      omega
theorem numsK_mem {m:KV} {l:List Value} (h:KeysOf .u32 m l) {v:Int} (hv:v∈numsK m l):hasI m v=true:=by
  obtain ⟨k,hk,hu⟩:=List.mem_flatMap.1 hv
  unfold numsW at hu
  obtain ⟨d,hd,rfl⟩:=List.mem_map.1 hu
  obtain ⟨n,rfl⟩:=h.2.2 k hk
  have hd' :=bitsL_mem.1 hd
  unfold hasI
  rw [show (ci (Value.int .u32 n)*64+((d:Nat):Int))/64=n by show (n*64+((d:Nat):Int))/64=n;omega,show ((ci (Value.int .u32 n)*64+((d:Nat):Int))%64).toNat=d by show ((n*64+((d:Nat):Int))%64).toNat=d;omega]
  exact hd'.2
theorem hasI_put {m:KV} {i j:Int} (h:hasI m j=true):hasI (putO m i) j=true:=by
  unfold putO
  cases hi:hasI m i with
  | true=>rw [if_pos rfl];exact h
  | false =>
    rw [if_neg (by decide)]
    unfold hasI at h ⊢
    rw [wd_put]
    split
    · rw [setW_bit,h];rfl
    · exact h
theorem SpS.keyb {K:MK} {P:List Int} {m:KV} {c:Nat} (h:SpS K P m c) (hP: ∀x∈P,(Lit.int .u32 x).wf=true) {l:List Value} (hx:KeysOf .u32 m l): ∀v∈l,0<=ci v/\ci v<=67108863:=by
  intro v hv
  obtain ⟨n,rfl⟩:=hx.2.2 v hv
  have hm:=hx.1.mem_iff.1 hv
  obtain ⟨e,he,h1⟩:=List.mem_map.1 hm
  have:=mget_of_mem h.ok.once he
  rw [h1] at this
  obtain ⟨x,hx',h2⟩:=(h.key n).1 (by rw [this];rfl)
  have:=wf32n (hP x hx')
  show 0<=n/\n<=67108863
  omega
structure SpT (K:MK) (ls:List Int) (i:Nat) (m:KV) (L:List Ent):Prop where
  le:i<=ls.length
  a: ∃c,SpS K (ls.take i) m c
  l:L.length<=i
theorem SpT.start {K:MK} {ls:List Int}:SpT K ls 0 [] []:=⟨Nat.zero_le _,⟨0,SpS.nil⟩,Nat.le_refl _⟩
theorem SpT.ok {K:MK} {ls:List Int} {i:Nat} {m:KV} {L:List Ent} (h:SpT K ls i m L):KOK K m:=h.a.elim fun _ q=>q.ok
theorem SpS.cnt_le {K:MK} (I:WdK K) {P:List Int} {m:KV} {c:Nat} (q:SpS K P m c):totW m<=P.length:=by
  obtain ⟨z,hz⟩:=keysOf_wit (SpS.int I q.ok).1 q.ok.once
  rw [←numsK_totW q.ok.once hz]
  have hr:=numsK_rise (m:=m) hz.2.1
  have hn:(numsK m (vals z)).Nodup:=hr.imp fun h e=>by omega
  exact List.Nodup.length_le_of_subset hn fun v hv=>(q.has v).1 (numsK_mem hz hv)
theorem SpT.len {K:MK} (I:WdK K) {ls:List Int} {i:Nat} {m:KV} {L:List Ent} (h:SpT K ls i m L):m.length<=ls.length/\totW m<=ls.length:=by
  obtain ⟨c,q⟩:=h.a
  have h1:=q.len I
  have h2:=q.cnt_le I
  rw [List.length_take] at h1 h2
  omega
theorem SpT.step {K:MK} (I:WdK K) {ls:List Int} {i:Nat} {m:KV} {L:List Ent} (h:SpT K ls i m L) {x:Int} (hx:ls[i]? =some x) {e1:Ent} {m' :KV} {L' :List Ent} (p1:m' =putO m x/\L' =bif hasI m x then L else L++ [e1]):SpT K ls (i+1) m' L' :=by
  have hlt:=(List.getElem?_eq_some_iff.1 hx).1
  have t1:ls.take (i+1)=ls.take i++ [x]:=by
    rw [List.take_succ_eq_append_getElem hlt]
    rw [List.getElem?_eq_getElem hlt] at hx;injection hx with hx;rw [hx]
  obtain ⟨c,q⟩:=h.a
  exact ⟨hlt,⟨_,by rw [t1,p1.1];exact q.put I x⟩,by rw [p1.2];exact Nat.le_trans bif_len (Nat.succ_le_succ h.l)⟩
theorem SpT.more {K:MK} (I:WdK K) {ls:List Int} {i:Nat} {m:KV} {L:List Ent} (h:SpT K ls i m L) (x:Int): ∃c,SpS K (ls.take i++ [x]) (putO m x) c:=by
  obtain ⟨c,q⟩:=h.a
  exact ⟨_,q.put I x⟩
theorem SpT.keyb {K:MK} {ls:List Int} {i:Nat} {m:KV} {L:List Ent} (h:SpT K ls i m L) (hP: ∀x∈ls,(Lit.int .u32 x).wf=true) {l:List Value} (hx:KeysOf .u32 m l): ∀v∈l,0<=ci v/\ci v<=67108863:=by
  obtain ⟨c,q⟩:=h.a
  exact q.keyb (fun x hx=>hP x (List.mem_of_mem_take hx)) hx
theorem SpT.keyb2 {K:MK} (I:WdK K) {ls:List Int} {i:Nat} {m:KV} {L:List Ent} (h:SpT K ls i m L) (hP: ∀x∈ls,(Lit.int .u32 x).wf=true) {x:Int} (hw:(Lit.int .u32 x).wf=true) {l:List Value} (hx:KeysOf .u32 (putO m x) l):(∀v∈l,0<=ci v/\ci v<=67108863)/\KOK K (putO m x)/\(putO m x).length<=ls.length+1/\totW (putO m x)<=ls.length+1:=by
  obtain ⟨c,q⟩:=h.more I x
  have h1:=q.len I
  have h2:=q.cnt_le I
  rw [List.length_append,List.length_take] at h1 h2
  simp only [List.length_singleton] at h1 h2
  refine ⟨q.keyb (fun y hy=> ?_) hx,q.ok,by omega,by omega⟩
  rcases List.mem_append.1 hy with hy | hy
  · exact hP y (List.mem_of_mem_take hy)
  · simp at hy;subst hy;exact hw
structure SpU (K:MK) (ns:List Int) (a b:Row) (m:KV):Prop where
  a:vals a=uvs ns
  b:vals b=uvs ns
  r:ns.Pairwise (· < ·)
  n:ns.length<=61
  h: ∀v∈ns,hasI m v=true
  w: ∀v∈ns,(Lit.int .u32 v).wf=true
  ok:KOK K m
  l:m.length<=61
  t:totW m<=61
  k: ∀l,KeysOf .u32 m l-> ∀v∈l,0<=ci v/\ci v<=67108863
theorem wf_u32 {n:Int} (h0:0<=n) (h1:n<=4294967295):(Lit.int .u32 n).wf=true:=by
  simp only [Lit.wf,Bool.and_eq_true,decide_eq_true_eq]
  exact ⟨h0,h1⟩
theorem numsK_wf {m:KV} {l:List Value} (h: ∀v∈l,0<=ci v/\ci v<=67108863): ∀v∈numsK m l,(Lit.int .u32 v).wf=true:=by
  intro v hv
  obtain ⟨k,hk,hu⟩:=List.mem_flatMap.1 hv
  unfold numsW at hu
  obtain ⟨d,hd,rfl⟩:=List.mem_map.1 hu
  have:=(bitsL_mem.1 hd).1
  have:=h k hk
  exact wf_u32 (by omega) (by omega)
theorem SpU.of {K:MK} (I:WdK K) {ls:List Int} {i:Nat} {m:KV} {L:List Ent} (h:SpT K ls i m L) (hls:ls.length<=60) (hP: ∀x∈ls,(Lit.int .u32 x).wf=true) {more:Int} (hw:(Lit.int .u32 more).wf=true) {x:Row} (hx:KeysOf .u32 m (vals x)) {m' :KV} (p:m' =putO m more) {a b:Row}
    (ha:vals a=uvs (List.take (Int.toNat 100) (numsK m (vals x)))) (hb:vals b=uvs (List.take (Int.toNat 100) (numsK m (vals x)))):SpU K (numsK m (vals x)) a b m' :=by
  subst p
  have h1:=h.len I
  have hn:(numsK m (vals x)).length<=60:=by rw [numsK_totW h.ok.once hx];omega
  rw [List.take_of_length_le (by omega)] at ha hb
  have kb:=h.keyb hP hx
  obtain ⟨c,q⟩:=h.more I more
  obtain ⟨z,hz⟩:=keysOf_wit (SpS.int I q.ok).1 q.ok.once
  have h2:=(h.keyb2 I hP hw hz).2
  exact ⟨ha,hb,numsK_rise hx.2.1,by omega,fun v hv=>hasI_put (numsK_mem hx hv),numsK_wf kb,q.ok,by omega,by omega,fun l hl=>(h.keyb2 I hP hw hl).1⟩
end Go.Sx
set_option linter.unusedVariables false
set_option linter.unusedSimpArgs false
namespace Go.Sx
open Go.RowKit
def rowE (r:Row):Value×Value:=(sv r, .agg (vals r).toArray)
def bagKV (rs:List Row):KV:=rs.map rowE
def bag (e:TypeId) (m:KV):Slot:=bun [] (.kv m) (fun rs: {rs:List Row//bagKV rs=m/\MOK m/\ ∀r∈rs,r≠ .nil}=>rs.val.map (ss e))
noncomputable def bget (m:KV) (v:Value):List Value:=((mget m v).getD (.agg #[])).cells.toList
structure InBag (m:KV) (v:Value) (l:List Value):Prop where
  at_:(v=sv .nil/\l= [])∨(v≠sv .nil/\mget m v=some (.agg l.toArray))
  ok: ∀e∈m,e.1≠sv .nil
  row: ∃r:Row,v=sv r/\vals r=l
theorem InBag.nil {m:KV} (h: ∀e∈m,e.1≠sv .nil):InBag m (sv .nil) []:=⟨.inl ⟨rfl,rfl⟩,h, .nil,rfl,rfl⟩
theorem InBag.vlen {m:KV} {v:Value} {l:List Value} (h:InBag m v l):vlen v=l.length:=by
  obtain ⟨r,rfl,rfl⟩:=h.row
  exact vlen_sv r
theorem InBag.get {m:KV} {v:Value} {l:List Value} (h:InBag m v l):bget m v=l:=by
  unfold bget
  rcases h.at_ with ⟨rfl,rfl⟩ | ⟨_,q⟩
  · rw [mget_none.2 h.ok];rfl
  · rw [q];simp [Value.cells]
theorem own_perm {a b:List Slot} (h:a.Perm b):Imp a b:= .same (sep_perm h)
theorem sv_nil_ne {r:Row} (h:r≠ .nil):sv r≠sv .nil:=by
  cases r with
  | nil=>exact absurd rfl h
  | mk b vs ex=>intro e;simp [sv] at e
theorem ofList_get {l:List Slot} {i:Nat} {s:Slot} (h:l[i]? =some s):ofList l i=s:=by unfold ofList;rw [List.getD_eq_getElem?_getD,h];rfl
theorem InBag.add {m:KV} {v:Value} {l:List Value} (h:InBag m v l) {y:Row} (hy:y≠ .nil) (hn:mget m (sv y)=none):InBag (m++ [rowE y]) v l:=by
  have ok: ∀e∈m++ [rowE y],e.1≠sv .nil:=fun e he=>by
    rcases List.mem_append.1 he with q | q
    · exact h.ok e q
    · simp at q;subst q;exact sv_nil_ne hy
  refine ⟨?_,ok,h.row⟩
  rcases h.at_ with q | ⟨q1,q2⟩
  · exact .inl q
  · exact .inr ⟨q1,by rw [mget_append,q2];rfl⟩
theorem InBag.new {m:KV} (ok: ∀e∈m,e.1≠sv .nil) {y:Row} (hy:y≠ .nil) (hn:mget m (sv y)=none):InBag (m++ [rowE y]) (sv y) (vals y):=by
  refine ⟨.inr ⟨sv_nil_ne hy,?_⟩,fun e he=> ?_,y,rfl,rfl⟩
  · rw [mget_append,hn];show mget [rowE y] (sv y)=_;rw [mget_cons,if_pos (show (rowE y).1=sv y from rfl)];rfl
  · rcases List.mem_append.1 he with q | q
    · exact ok e q
    · simp at q;subst q;exact sv_nil_ne hy
end Go.Sx
set_option linter.unusedVariables false
set_option linter.unusedSimpArgs false
namespace Go.Sx
open Go.RowKit
noncomputable def bl (m:KV) (v:Value):List Int:=(bget m v).map ci
theorem uvs_ci (l:List Int):(uvs l).map ci=l:=by
  unfold uvs;rw [List.map_map];conv=>rhs;rw [←List.map_id l]
  exact List.map_congr_left fun x _=>rfl
theorem InBag.bl {m:KV} {v:Value} {l:List Int} (h:InBag m v (uvs l)):bl m v=l:=by unfold Sx.bl;rw [h.get,uvs_ci]
def stP (i:Int) (s:List Int×Bool) (x:Int):List Int×Bool:=if i<x/\s.2=false then (s.1++ [i]++ [x],true) else (s.1++ [x],s.2)
def finP (i:Int) (s:List Int×Bool):List Int:=if s.2 then s.1 else s.1++ [i]
def pIns (l:List Int) (i:Int):List Int:=finP i (l.foldl (stP i) ([],false))
def insA (i:Int) (p:List Int):List Int×Bool:=if p.any (fun x=>decide (i<x)) then (p.filter (fun x=>decide (x<i))++i::p.filter (fun x=>decide (i<x)),true) else (p,false)
theorem fold_ins {i : Int} {l : List Int} (h : l.Pairwise (· < ·)) (hi : i ∉ l) : ∀ n, n <= l.length -> (l.take n).foldl (stP i) ([], false) = insA i (l.take n)
  | 0,_=>by simp [insA]
  | n + 1, hn => by
    have hlt:n<l.length:=hn
    have hs:(l.take n++ [l[n]]).Pairwise (· < ·):=by
      rw [←List.take_succ_eq_append_getElem hlt];exact h.sublist (List.take_sublist _ _)
    have hm: ∀y∈l.take n,y<l[n]:=fun y hy=>(List.pairwise_append.1 hs).2.2 y hy _ (by simp)
    have hne: ∀y∈l.take n,y≠i:=fun y hy e=>hi (e▸List.mem_of_mem_take hy)
    have hxe:l[n]≠i:=fun e=>hi (e▸List.getElem_mem hlt)
    rw [List.take_succ_eq_append_getElem hlt,List.foldl_append,fold_ins h hi n (by omega)]
    simp only [List.foldl_cons,List.foldl_nil]
    generalize l[n]=x at *
    generalize l.take n=p at *
    unfold insA
    by_cases ha:p.any (fun x=>decide (i<x))=true
    · obtain ⟨y,hy,hy2⟩:=List.any_eq_true.1 ha
      have h1:i<x:=Int.lt_trans (of_decide_eq_true hy2) (hm y hy)
      have h2: ¬x<i:=by omega
      rw [if_pos ha,if_pos (by simp [List.any_append,ha])]
      unfold stP
      rw [if_neg (by simp)]
      simp [List.filter_append,h1,h2]
    · have hall: ∀y∈p,y<i:=fun y hy=>by
        have: ¬i<y:=fun q=>ha (List.any_eq_true.2 ⟨y,hy,decide_eq_true q⟩)
        have:=hne y hy
        omega
      have f1:p.filter (fun x=>decide (x<i))=p:=List.filter_eq_self.2 fun y hy=>decide_eq_true (hall y hy)
      have f2:p.filter (fun x=>decide (i<x))= []:=List.filter_eq_nil_iff.2 fun y hy=>by have:=hall y hy;simp;omega
      rw [if_neg ha]
      unfold stP
      by_cases hx:i<x
      · rw [if_pos ⟨hx,rfl⟩,if_pos (by simp [List.any_append,hx])]
        simp [List.filter_append,f1,f2,hx,show ¬x<i by omega]
      · rw [if_neg (by simp [hx]),if_neg (by simp only [List.any_append,List.any_cons,List.any_nil,Bool.or_false,Bool.or_eq_true,not_or];exact ⟨ha,by simp;omega⟩)]
theorem pIns_eq {i:Int} {l:List Int} (h:l.Pairwise (· < ·)) (hi:i∉l):pIns l i=l.filter (fun x=>decide (x<i))++i::l.filter (fun x=>decide (i<x)):=by
  have:=fold_ins h hi l.length (Nat.le_refl _)
  rw [List.take_length] at this
  unfold pIns
  rw [this]
  unfold insA
  by_cases ha:l.any (fun x=>decide (i<x))=true
  · rw [if_pos ha];rfl
  · have hall: ∀y∈l,y<i:=fun y hy=>by
      have h1: ¬i<y:=fun q=>ha (List.any_eq_true.2 ⟨y,hy,decide_eq_true q⟩)
      have h2:y≠i:=fun e=>hi (e▸hy)
      omega
    rw [if_neg ha,List.filter_eq_self.2 fun y hy=>decide_eq_true (hall y hy),List.filter_eq_nil_iff.2 fun y hy=>by have:=hall y hy;simp;omega]
    rfl
theorem pIns_rise {i : Int} {l : List Int} (h : l.Pairwise (· < ·)) (hi : i ∉ l) : (pIns l i).Pairwise (· < ·) /\ ∀ v, v ∈ pIns l i ↔ v ∈ l ∨ v = i := by
  rw [pIns_eq h hi]
  refine ⟨?_,fun v=> ?_⟩
  · rw [List.pairwise_append,List.pairwise_cons]
    refine ⟨h.filter _,⟨fun b hb=>of_decide_eq_true (List.mem_filter.1 hb).2,h.filter _⟩,fun a ha b hb=> ?_⟩
    have h1:=of_decide_eq_true (List.mem_filter.1 ha).2
    rcases List.mem_cons.1 hb with e | hb
    · omega
    · have h2:=of_decide_eq_true (List.mem_filter.1 hb).2;omega
  · rw [List.mem_append, List.mem_cons, List.mem_filter, List.mem_filter]
    simp only [decide_eq_true_eq]
    constructor
    · rintro (q | q | q)
      · exact .inl q.1
      · exact .inr q
      · exact .inl q.1
    · rintro (q | q)
      · have:v≠i:=fun e=>hi (e▸q)
        rcases Int.lt_or_gt_of_ne this with r | r
        · exact .inl ⟨q,r⟩
        · exact .inr (.inr ⟨q,r⟩)
      · exact .inr (.inl q)
def dg4 (x:Int):List Int:= [x/256/256/256%256,x/256/256%256,x/256%256,x%256]
def dg8 (x:Int):List Int:= [x/256/256/256/256/256/256/256%256,x/256/256/256/256/256/256%256,x/256/256/256/256/256%256,x/256/256/256/256%256]++dg4 x
theorem fb {x:Int} (h:0<=x) (q:Int) (hq:0<=q):IntKind.u8.wrap (Int.fdiv x q)=x/q%256:=by
  rw [Int.fdiv_eq_ediv_of_nonneg _ hq];rfl
theorem nb4_dg {x:Int} (h:W x):nb4 x=dg4 x:=by
  unfold W at h
  unfold nb4 dg4
  simp only [Int.reducePow]
  rw [fb h.1 16777216 (by decide),fb h.1 65536 (by decide),fb h.1 256 (by decide),fb h.1 1 (by decide)]
  have e1:x/16777216%256=x/256/256/256%256:=by omega
  have e2:x/65536%256=x/256/256%256:=by omega
  have e3:x/1%256=x%256:=by omega
  rw [e1,e2,e3]
theorem nb8_dg {x:Int} (h:W x):nb8 x=dg8 x:=by
  have h4:=nb4_dg h
  unfold W at h
  unfold dg8
  rw [←h4]
  unfold nb8 nb4
  simp only [Int.reducePow]
  rw [fb h.1 72057594037927936 (by decide),fb h.1 281474976710656 (by decide),fb h.1 1099511627776 (by decide),fb h.1 4294967296 (by decide)]
  have e1:x/72057594037927936%256=x/256/256/256/256/256/256/256%256:=by omega
  have e2:x/281474976710656%256=x/256/256/256/256/256/256%256:=by omega
  have e3:x/1099511627776%256=x/256/256/256/256/256%256:=by omega
  have e4:x/4294967296%256=x/256/256/256/256%256:=by omega
  rw [e1,e2,e3,e4];rfl
def strL (l:List Int):ByteArray:=strOf (bv l)
theorem strL_eq (l:List Int):strL l=l.foldl (fun r n=>r.push (UInt8.ofNat n.toNat)) ByteArray.empty:=by unfold strL strOf;rw [bv_ci]
theorem push_data (l:List Int): ∀ (b:ByteArray),(l.foldl (fun r n=>r.push (UInt8.ofNat n.toNat)) b).data=b.data++(l.map fun n=>UInt8.ofNat n.toNat).toArray:=by
  induction l with
  | nil=>intro b;simp
  | cons a l ih =>
    intro b
    rw [List.foldl_cons,ih]
    show (b.data.push _)++_=_
    apply Array.ext'
    simp
theorem strL_data (l:List Int):(strL l).data=(l.map fun n=>UInt8.ofNat n.toNat).toArray:=by rw [strL_eq,push_data];show #[]++_=_;simp
theorem strL_app (a b:List Int):strL a++strL b=strL (a++b):=by
  apply ByteArray.ext
  rw [ByteArray.data_append,strL_data,strL_data,strL_data]
  simp
theorem strL_size (l:List Int):(strL l).size=l.length:=by
  show (strL l).data.size=_
  rw [strL_data];simp
theorem xstrN {P:Program} {src dst e:TypeId} (hs:P.underlying src=some (.slice e)) (he:P.underlying e=some (.int .u8)) (hd:P.underlying dst=some .string) (b:Nat) (l:List Int) (te:TypeId):
    OpT P (do pure (.value (←convert src dst (.slice (some ⟨b,0,none⟩) l.length l.length)))) [.blk b (.cells (bv l).toArray te (0,0))] Unit (fun _=> .string (strL l)) (fun _=> [.blk b (.cells (bv l).toArray te (0,0))]) (fun _=>True):=by
  have h:=xstr hs he hd (.mk b (bv l) []) te (bok_lit b l [])
  rw [rvals_eq] at h
  simp only [sv,ss,vals,List.append_nil,bv,List.length_map,List.length_nil,Nat.add_zero] at h
  exact h
def strV:Value->ByteArray | .string a=>a | _=>ByteArray.empty
def f_cat:List Value->Value:=fun vs=> .string (strV (varg vs 0)++strV (varg vs 1))
theorem xstrcat {P:Program} {t:TypeId} (a b:ByteArray) (h:a.size+b.size<=1000000):PureRun P (xBin .add t (.string a) (.string b)) (.string (a++b)):=by
  intro w
  have hs: ¬ ((a.size+b.size:Nat):Int)>IntKind.i64.max:=by
    have:IntKind.i64.max=9223372036854775807:=rfl
    omega
  simp only [xBin,eqGuard,binOp,Op.stringOp,hs,if_false]
  rfl
def F_strN:List Value->List Slot->Ctr:=fun _ hs=>⟨Unit,fun _=> .string (strL [ci (scell (sarg hs 0) 0)]),fun _=>hs,fun _=>True⟩
theorem strL_nil:(⟨#[]⟩:ByteArray)=strL []:=rfl
theorem scat4 (a b c d:Int):strL [a]++(strL [b]++(strL [c]++(strL [d]++(⟨#[]⟩:ByteArray))))=strL [a,b,c,d]:=by
  rw [strL_nil];simp only [strL_app];rfl
theorem scat8 (a b c d e f g h:Int):strL [a]++(strL [b]++(strL [c]++(strL [d]++(strL [e]++(strL [f]++(strL [g]++(strL [h]++(⟨#[]⟩:ByteArray))))))))=strL [a,b,c,d,e,f,g,h]:=by
  rw [strL_nil];simp only [strL_app];rfl
theorem dg4_len (x:Int):(dg4 x).length=4:=rfl
theorem dg8_len (x:Int):(dg8 x).length=8:=rfl
theorem rem256 {x:Int} (h:W x):IntKind.u8.wrap (Int.tmod x 256)=x%256:=by
  unfold W at h
  rw [Int.tmod_eq_emod_of_nonneg h.1]
  show x%256%256=x%256
  omega
theorem quo256 {x:Int} (h:W x):IntKind.u64.wrap (Int.tdiv x 256)=x/256:=by
  unfold W at h
  rw [Int.tdiv_eq_ediv_of_nonneg h.1,wrap_u64];omega
theorem W_d256 {x:Int} (h:W x):W (x/256):=by unfold W at *;omega
def PutB (m:KV) (v:Value) (i:Int) (x:KV×Value×Bool):Prop:=x.2.2= !decide (i∈bl m v)/\InBag x.1 x.2.1 (uvs (if i∈bl m v then bl m v else pIns (bl m v) i))/\ ∀v' k',InBag m v' k' ->InBag x.1 v' k'
theorem fresh_blk: ∀ (m:KV),∃B,∀e∈m,∀a n c,e.1=Value.slice (some a) n c->a.block<B
  | []=>⟨0,fun _ h=>by cases h⟩
  | e :: m => by
    obtain ⟨B,hB⟩:=fresh_blk m
    refine ⟨B+(match e.1 with | .slice (some a) _ _=>a.block | _=>0)+1,fun q hq a n c h=> ?_⟩
    rcases List.mem_cons.1 hq with rfl | hq
    · rw [h];simp only;omega
    · have:=hB q hq a n c h;omega
theorem emp_size:(⟨#[]⟩:ByteArray).size=0:=rfl
end Go.Sx
namespace Go.Sx
def src43 (cs:Array Value):List Int:=(cs.toList.take 43).map ci
def Src43 (cs:Array Value):Prop:= ∀j,j<43->cs[j]? =some (.int .u8 ((src43 cs).getD j 0))
theorem Src43.len {cs:Array Value} (h:Src43 cs):(src43 cs).length=43:=by
  have:=h 42 (by decide)
  have h2:42<cs.size:=by
    rcases Nat.lt_or_ge 42 cs.size with q | q
    · exact q
    · rw [Array.getElem?_eq_none q] at this;cases this
  unfold src43
  rw [List.length_map,List.length_take,Array.length_toList];omega
def F_appFB (e:TypeId):List Value->List Slot->Ctr:=fun vs hs=>⟨Row,fun y=>sv y,fun y=> [ss e y,sarg hs 1],fun y=>vals y=rvals (varg vs 0) (sarg hs 0)++bv (src43 (scells (sarg hs 1)))⟩
theorem xappFB {P:Program} {t e:TypeId} {z:Value} (h:SlT P t e z) (ty:TypeId) (r:Row) (hl:(vals r).length<=1073741824) {c cap:Nat} {cs:Array Value} {te:TypeId} {fz:Nat×Nat} (hs:Src43 cs):
    OpT P (do pure (.value (←Builtin.append_ #[t,t] ty #[sv r, .slice (some ⟨c,0,none⟩) 43 cap]))) [ss e r, .blk c (.cells cs te fz)] Row sv (fun y=> [ss e y, .blk c (.cells cs te fz)]) (fun y=>vals y=rvals (sv r) (ss e r)++bv (src43 cs)):=by
  rw [rvals_eq]
  refine xappN h ty r hl (by rw [bv,List.length_map,hs.len]) (by decide) ?_ (bv_one _)
  intro j u hu
  have hj:j<43:=by
    rcases Nat.lt_or_ge j 43 with q | q
    · exact q
    · rw [List.getElem?_eq_none (by rw [bv,List.length_map,hs.len];exact q)] at hu;cases hu
  rw [Nat.zero_add,hs j hj]
  have hj' :j<(src43 cs).length:=by rw [hs.len];exact hj
  rw [bv,List.getElem?_map,List.getElem?_eq_getElem hj'] at hu
  rw [List.getD_eq_getElem?_getD,List.getElem?_eq_getElem hj']
  simpa using hu
def bytesI (s:ByteArray):List Int:=s.data.toList.map fun b=>((b.toNat:Nat):Int)
theorem bytesI_BY (s:ByteArray):BY (bytesI s):=by
  intro x hx
  obtain ⟨b,_,rfl⟩:=List.mem_map.1 hx
  have:=b.toNat_lt
  omega
theorem bytesI_strL {l:List Int} (h:BY l):bytesI (strL l)=l:=by
  unfold bytesI
  rw [strL_data]
  simp only [List.map_map]
  have: ∀x∈l,((fun b:UInt8=>((b.toNat:Nat):Int))∘fun n:Int=>UInt8.ofNat n.toNat) x=x:=by
    intro x hx
    have:=h x hx
    simp only [Function.comp,UInt8.toNat_ofNat']
    omega
  rw [List.map_congr_left this];simp
abbrev SBy:Type:=Nat×Nat×Array Value×(Nat×Nat)
def F_strB:List Value->List Slot->Ctr:=fun vs _=>⟨SBy,fun x=> .slice (some ⟨x.1,0,none⟩) 43 x.2.1,fun x=> [.blk x.1 (.cells x.2.2.1 5 x.2.2.2)],fun x=>Src43 x.2.2.1/\src43 x.2.2.1=bytesI (strV (varg vs 0))⟩
theorem src_of {s:ByteArray} (hs:s.size=43) (m:Nat):src43 ((s.data.map fun b=>Value.int .u8 b.toNat)++Array.replicate m (Value.int .u8 0))=bytesI s:=by
  have hl:s.data.toList.length=43:=by rw [Array.length_toList];exact hs
  have e:((s.data.map fun b=>Value.int .u8 b.toNat)++Array.replicate m (Value.int .u8 0)).toList=(s.data.toList.map fun b=>Value.int .u8 b.toNat)++List.replicate m (Value.int .u8 0):=by simp
  unfold src43
  rw [e,List.take_append_of_le_length (by rw [List.length_map,hl];exact Nat.le_refl _),List.take_of_length_le (by rw [List.length_map,hl];exact Nat.le_refl _),List.map_map]
  rfl
theorem src_ok {s:ByteArray} (hs:s.size=43) (m:Nat):Src43 ((s.data.map fun b=>Value.int .u8 b.toNat)++Array.replicate m (Value.int .u8 0)):=by
  intro j hj
  rw [src_of hs]
  have hl:s.data.toList.length=43:=by rw [Array.length_toList];exact hs
  have hj' :j<s.data.toList.length:=by omega
  have hj2:j<s.data.size:=by simpa using hj'
  rw [Array.getElem?_append_left (by simpa using hj2),Array.getElem?_map,Array.getElem?_eq_getElem hj2]
  unfold bytesI
  rw [List.getD_eq_getElem?_getD,List.getElem?_map,List.getElem?_eq_getElem hj',Array.getElem_toList]
  rfl
theorem wit_strB {s:ByteArray} (hs:s.size=43): ∃x:SBy,(fun x:SBy=>Src43 x.2.2.1/\src43 x.2.2.1=bytesI s) x:=
  ⟨(0,0,_,(0,0)),src_ok hs 0,src_of hs 0⟩
theorem xstrB {P:Program} {src dst:TypeId} {u:TypeDesc} (hs:P.underlying src=some u) (hd:P.underlying dst=some (.slice 5)) (he:P.underlying 5=some (.int .u8)) {s:ByteArray} (hz:s.size=43):
    OpT P (do pure (.value (←convert src dst (.string s)))) [] SBy (fun x=> .slice (some ⟨x.1,0,none⟩) 43 x.2.1) (fun x=> [.blk x.1 (.cells x.2.2.1 5 x.2.2.2)]) (fun x=>Src43 x.2.2.1/\src43 x.2.2.1=bytesI s):=by
  intro R w ho
  have hr:=Go.Lib.run_convert_string_bytes (P:=P) w src dst 5 s hs hd he
  rw [hz] at hr
  refine ⟨(w.heap.size,grownCap w 43 0 5,Go.Lib.bytesCells w 5 s,((Go.Lib.bytesCells w 5 s).size,(Go.Lib.bytesCells w 5 s).size+1)),Go.Lib.bytesWorld w 5 s,⟨src_ok hz _,src_of hz _⟩, .inl ?_,?_,?_⟩
  · rw [Sem.run_bind,hr];rfl
  · have:=ho.new (w' :=Go.Lib.bytesWorld w 5 s) (i:=0) (o:= .cells (Go.Lib.bytesCells w 5 s) 5 ((Go.Lib.bytesCells w 5 s).size,(Go.Lib.bytesCells w 5 s).size+1)) (Go.Lib.bytesWorld_at_new w 5 s) (fun c hc=>Go.Lib.bytesWorld_at_old w 5 s c hc)
    refine (congrArg (fun H=>Own H R _) ?_).mp this
    funext i
    cases i<;>rfl
  · refine ⟨rfl,rfl,rfl,?_,?_⟩
    · rw [Go.Lib.bytesWorld_size];exact Nat.le_succ _
    · show w.drawn<=_
      simp [Go.Lib.bytesWorld,World.freeze,World.alloc,World.drew,-World.alloc_eq,-World.drew_eq]
end Go.Sx
namespace Go.Sx
def sfz:Slot->Nat×Nat
  | .blk _ (.cells _ _ f)=>f
  | _=>(0,0)
end Go.Sx
namespace Go.Sx
open Go.RowKit Go.Sort Go.Proofs Go.Shelf
def orI (a b:Int):Int:=if a=0 then b else a
def ahd (x y:Int×Int):Bool:=decide (orI (cmpI x.1 y.1) (cmpI x.2 y.2)<0)
noncomputable def c2 (v:Value):Int×Int:=(ci (cell v 0),ci (cell v 1))
def Pairs2 (l:List Value):Prop:= ∀v∈l,∃t p:Int,v=kk t p
def Rise2 (l:List Value):Prop:=l.Pairwise fun a b=>ahd (c2 a) (c2 b)=true
def KeysOf2 (m:KV) (l:List Value):Prop:=l.Perm (m.map (·.1))/\Rise2 l/\Pairs2 l
def RK.of {k:Nat} (l:List Value) (h: ∀v∈l,Ag k v):RK k:=⟨.mk 0 l [],fun v hv=>h v (by simpa using hv)⟩
end Go.Sx
namespace Go.Sx
open Go.RowKit
theorem Iter.all {P:Program} {gf:FuncId} {cap:Array Value} {Hs:List Slot} {len:Nat} {kv:Nat->Array Value} (h:Iter P gf cap Hs len kv) (l:Nat) (rec:Loop) (T:Nat->Slot)
    (hT: ∀i,i<len->RoundT P l (kv i) [loopB l rec,T i] Unit (fun _=> .bool true) (fun _=> [loopB l rec,T (i+1)]) (fun _=>True)):
    CallT P gf (#[.func (.yield l) #[] #[]]++cap) (loopB l rec::(Hs++ [T 0])) Unit (fun _=>undef) (fun _=>loopB l rec::(Hs++ [T len])) (fun _=>True):=by
  refine (h l (fun i=>pk (fun _:Unit=> [loopB l rec,T i]) (fun _=>True)) (pk (fun _:Unit=> []) (fun _=>False)) fun i hi R w ho=> ?_).imp ?_ ?_
  · obtain ⟨y,_,ho2⟩:=pk_open ho
    rw [List.append_nil] at ho2
    obtain ⟨fn',tmps',asg,bd,hr,hk⟩:=hT i hi R w ho2
    refine ⟨fn',tmps',asg,bd,hr,hk.mono ?_⟩
    rintro e' w' ⟨z,_,he,ho4,hx⟩
    refine ⟨true,trivial,he,?_,hx⟩
    have h5:=pk_shut (G:=fun _:Unit=> [loopB l rec,T (i+1)]) (ok:=fun _=>True) (y:=()) trivial [] R w'
    rw [List.append_nil] at h5
    exact h5 ho4
  · intro R w ho
    have h2:=swap3 _ Hs [T 0] R w ho
    have h1:=pk_shut (G:=fun _:Unit=> [loopB l rec,T 0]) (ok:=fun _=>True) (y:=()) trivial []
    rw [List.append_nil] at h1
    exact imp_tails Hs h1 R w h2
  · intro b R w _ ho
    cases b with
    | false =>
      obtain ⟨y,hy,_⟩:=pk_open (Imp.swap Hs [_] R w ho)
      exact hy.elim
    | true =>
      obtain ⟨y,_,h2⟩:=pk_open (Imp.swap Hs [_] R w ho)
      have h3:Own (ofList (loopB l rec::(T len::Hs))) R w:=h2
      exact ⟨(),trivial,rfl,Imp.tail _ (Imp.swap [T len] Hs) R w h3⟩
end Go.Sx
namespace Go.Sx
open Go.RowKit Go.Sort Go.Proofs Go.Shelf
def hbs (f:Nat->Int):List Nat:=(l32 f).map fun n=>n.toNat%256
def lexN:List Nat->List Nat->Bool
  | a::l,b::m=>if a<b then true else if b<a then false else lexN l m
  | _,_=>false
def ltK (f g:Nat->Int):Bool:=lexN (hbs f) (hbs g)
noncomputable def hf (v:Value):Nat->Int:=fun i=>ci (cell v i)
def SortedH (l:List Value):Prop:=l.Pairwise fun a b=>ltK (hf b) (hf a)=false
def Keys32 (l:List Value):Prop:= ∀v∈l,∃f:Nat->Int,v=hV f
def KeysOfH (m:KV) (l:List Value):Prop:=l.Perm (m.map (·.1))/\SortedH l/\Keys32 l
end Go.Sx
namespace Go.Sx
open Go.RowKit
end Go.Sx
namespace Go.Sx
open Go.RowKit
def KeysH (m:KV):Prop:=Keys32 (m.map (·.1))/\MOK m
end Go.Sx
set_option linter.unusedVariables false
namespace Go.Sx
open Go.RowKit
end Go.Sx
namespace Go.Sx
open Go.RowKit
theorem KeysOf2.len {m:KV} {l:List Value} (h:KeysOf2 m l):l.length=m.length:=by have:=h.1.length_eq;simpa using this
def InR (m:KV):Prop:= ∀e∈m,∃t p v:Int,e=(kk t p,vI v)/\0<=t/\t<4/\0<=p/\p<18/\R4 v/\v≠0
theorem InR.nil:InR []:=fun e h=>by cases h
theorem mem_del {m:KV} {k:Value} {e:Value×Value} (h:e∈mdel m k):e∈m:=List.mem_of_mem_eraseP h
theorem InR.put {m:KV} (h:InR m) {t p n:Int} (hn:R4 n) (t0:0<=t) (t4:t<4) (p0:0<=p) (p18:p<18):InR (mput m (kk t p) n):=by
  unfold mput
  split
  · exact fun e he=>h e (mem_del he)
  · rename_i hz
    intro e he
    rcases mem_set he with rfl | he
    · exact ⟨t,p,n,rfl,t0,t4,p0,p18,hn,hz⟩
    · exact h e he
theorem mset_len (m:KV) (k v:Value):(mset m k v).length<=m.length+1:=by unfold mset;split<;>simp
theorem mput_len (m:KV) (k:Value) (n:Int):(mput m k n).length<=m.length+1:=by
  unfold mput;split
  · have:(mdel m k).length<=m.length:=List.length_eraseP_le
    omega
  · exact mset_len _ _ _
section
variable {Kb Ks:MK} (nb:NumK Kb) (ns:NumK Ks) (ob: ∀t p,Kb.OkK (kk t p)) (os: ∀t:Int,Ks.OkK (.int .u8 t))
structure BTI (Kb Ks:MK) (s:BS) (i:Nat):Prop where
  kb:KOK Kb s.1
  ks:KOK Ks s.2.1
  inr:InR s.1
  ml:s.1.length<=3*i
  ll:s.2.2.length<=4*i
theorem BTI.nil:BTI Kb Ks ([],[],[]) 0:=⟨KOK.nil,KOK.nil,InR.nil,Nat.zero_le _,Nat.zero_le _⟩
theorem bMint_in {s : BS} (hb : KOK Kb s.1) (hs : KOK Ks s.2.1) (hi : InR s.1) (nb : NumK Kb) (ns : NumK Ks) (ob : ∀ t p, Kb.OkK (kk t p)) (os : ∀ t : Int, Ks.OkK (.int .u8 t)) {eb es : KV -> Value -> Ent} {t p n : Int} (hn : R4 n) (t0 : 0 <= t) (p0 : 0 <= p) {x : Int × BS} (hx : x = bMint eb es s t p n) :
    KOK Kb x.2.1/\KOK Ks x.2.2.1/\InR x.2.1/\x.2.1.length<=s.1.length+1/\x.2.2.2.length<=s.2.2.length+2:=by
  subst hx
  unfold bMint
  split
  · exact ⟨hb,hs,hi,by simp only;omega,by simp only;omega⟩
  · rename_i hw
    split
    · exact ⟨hb,hs,hi,by simp only;omega,by simp only;omega⟩
    · rename_i hov
      have hw' :t<4/\p<18:=by
        unfold bw1 at hw
        split at hw
        · exact absurd (by decide:(1:Int)≠0) hw
        · omega
      have rB:R4 (hAdd (bal s.1 t p) n).1:=hAdd_R (KOK.R4v nb hb _) hn
      have rS:R4 (sup s.2.1 t+n):=⟨by have:=(KOK.R4v ns hs (.int .u8 t)).1;have:=hn.1;unfold sup;omega,Int.not_le.1 hov⟩
      refine ⟨hb.put nb (ob t p) rB,hs.set (os t) ((ns _).2 ⟨_,rS,rfl⟩),hi.put rB t0 hw'.1 p0 hw'.2,mput_len _ _ _,?_⟩
      have h1:=(bPut_len eb (bSup es s t (sup s.2.1 t+n)) (kk t p) (hAdd (bal s.1 t p) n).1).2
      have h2:=bSup_len es s t (sup s.2.1 t+n)
      show (bPut eb (bSup es s t (sup s.2.1 t+n)) (kk t p) (hAdd (bal s.1 t p) n).1).2.2.length<=_
      omega
theorem bMove_in {s : BS} (hb : KOK Kb s.1) (hs : KOK Ks s.2.1) (hi : InR s.1) (nb : NumK Kb) (ob : ∀ t p, Kb.OkK (kk t p)) {eb : KV -> Value -> Ent} {t p q n : Int} (hn : R4 n) (t0 : 0 <= t) (p0 : 0 <= p) (q0 : 0 <= q) {x : Int × BS} (hx : x = bMove eb s t p q n) :
    KOK Kb x.2.1/\KOK Ks x.2.2.1/\InR x.2.1/\x.2.1.length<=s.1.length+2/\x.2.2.2.length<=s.2.2.length+2:=by
  subst hx
  unfold bMove
  split
  · exact ⟨hb,hs,hi,by simp only;omega,by simp only;omega⟩
  · rename_i hw
    split
    · exact ⟨hb,hs,hi,by simp only;omega,by simp only;omega⟩
    · rename_i hov
      have hw' :t<4/\p<18/\q<18:=by
        unfold bw2 at hw
        split at hw
        · exact absurd (by decide:(1:Int)≠0) hw
        · omega
      have hB:=KOK.R4v nb hb (kk t p)
      have r1:R4 (bal s.1 t p - n):=⟨by have: ¬bal s.1 t p<n:=hov;omega,by have:=hB.2;have:=hn.1;show bal s.1 t p - n<_;unfold bal;omega⟩
      have k1:KOK Kb (bPut eb s (kk t p) (bal s.1 t p - n)).1:=hb.put nb (ob t p) r1
      have i1:InR (bPut eb s (kk t p) (bal s.1 t p - n)).1:=hi.put r1 t0 hw'.1 p0 hw'.2.1
      have r2:R4 (hAdd (bal (bPut eb s (kk t p) (bal s.1 t p - n)).1 t q) n).1:=hAdd_R (KOK.R4v nb k1 _) hn
      refine ⟨k1.put nb (ob t q) r2,hs,i1.put r2 t0 hw'.1 q0 hw'.2.2,?_,?_⟩
      · have h1:=mput_len (bPut eb s (kk t p) (bal s.1 t p - n)).1 (kk t q) (hAdd (bal (bPut eb s (kk t p) (bal s.1 t p - n)).1 t q) n).1
        have h2:(bPut eb s (kk t p) (bal s.1 t p - n)).1.length<=s.1.length+1:=mput_len _ _ _
        show (mput _ _ _).length<=_
        omega
      · have h1:=(bPut_len eb (bPut eb s (kk t p) (bal s.1 t p - n)) (kk t q) (hAdd (bal (bPut eb s (kk t p) (bal s.1 t p - n)).1 t q) n).1).2
        have h2:=(bPut_len eb s (kk t p) (bal s.1 t p - n)).2
        show (bPut eb (bPut eb s (kk t p) (bal s.1 t p - n)) (kk t q) _).2.2.length<=_
        omega
theorem BTI.step {s:BS} {i:Nat} (h:BTI Kb Ks s i) (nb:NumK Kb) (ns:NumK Ks) (ob: ∀t p,Kb.OkK (kk t p)) (os: ∀t:Int,Ks.OkK (.int .u8 t)) {eb es eb' :KV->Value->Ent} {t p q n:Int} (hn:R4 n) (t0:0<=t) (p0:0<=p) (q0:0<=q) {x y:Int×BS} (hx:x=bMint eb es s t p n) (hy:y=bMove eb' x.2 t p q n):BTI Kb Ks y.2 (i+1):=by
  obtain ⟨a1,a2,a3,a4,a5⟩:=bMint_in h.kb h.ks h.inr nb ns ob os hn t0 p0 hx
  obtain ⟨b1,b2,b3,b4,b5⟩:=bMove_in a1 a2 a3 nb ob hn t0 p0 q0 hy
  exact ⟨b1,b2,b3,by have:=h.ml;omega,by have:=h.ll;omega⟩
end
structure BTl where
  i:Nat
  s:BS
  b:Nat
  bm:Nat
  bs:Nat
  bj:Nat
  cb:Nat
  cm:Nat
  cr:Nat
noncomputable def kc (k:Value):Int:=18*ci (cell k 0)+ci (cell k 1)
theorem key_in {m:KV} (h:InR m) {k:Value} (hk:k∈m.map (·.1)): ∃t p:Int,k=kk t p/\0<=t/\t<4/\0<=p/\p<18:=by
  obtain ⟨e,he,rfl⟩:=List.mem_map.1 hk
  obtain ⟨t,p,v,rfl,a,b,c,d,_⟩:=h e he
  exact ⟨t,p,rfl,a,b,c,d⟩
def TL1 (l:List Value) (i:Nat) (y:Int×Nat):Prop:=y.2=i/\ -1<=y.1/\y.1<72/\ ∀j,i<=j->j<l.length->y.1<kc (l.getD j undef)
theorem TL1.start {m:KV} (h:InR m) {l:List Value} (hk:KeysOf2 m l):TL1 l 0 (-1,0):=by
  refine ⟨rfl,Int.le_refl _,by decide,fun j _ hj=> ?_⟩
  obtain ⟨t,p,e,a,_,b,_⟩:=key_in h (hk.1.mem_iff.1 (getD_mem (d:=undef) hj))
  rw [e];show -1<18*t+p;omega
def TL2 (most:Int) (i:Nat) (y:Bool×Nat):Prop:=y.1=true/\y.2=i/\(0<i->((i:Nat):Int)<most)
def TL2S (most:Int) (n:Nat) (y:Bool×Nat):Prop:=y.1=false/\0<y.2/\y.2<=n/\most<=((y.2:Nat):Int)/\(y.2=1∨((y.2:Nat):Int) - 1<most)
theorem TL2.fin {most:Int} {n:Nat} {y:Bool×Nat} (h:TL2 most n y∨TL2S most n y):((y.2:Nat):Int)=min ((n:Nat):Int) (max most 1):=by
  rcases h with ⟨_,h1,h2⟩ | ⟨_,h1,h2,h3,h4⟩
  · rcases Nat.eq_zero_or_pos n with q | q
    · subst q;rw [h1];omega
    · have:=h2 q;rw [h1];omega
  · omega
end Go.Sx
namespace Go.Sx
theorem TL2.round {most:Int} {n i:Nat} (hi:i<n) {y:Bool×Nat} (hy:TL2 most i y) {z:Bool×Nat} (hz:z.2=y.2+1/\(z.1=true->((y.2:Nat):Int)+1<most)/\(z.1=false->most<=((y.2:Nat):Int)+1)):(z.1=true->TL2 most (i+1) z)/\(z.1=false->TL2S most n z):=by
  obtain ⟨h1,h2,h3⟩:=hy
  obtain ⟨a,b,c⟩:=hz
  refine ⟨fun q=>⟨q,by omega,fun _=>by have:=b q;omega⟩,fun q=>⟨q,by omega,by omega,by have:=c q;omega,?_⟩⟩
  rcases Nat.eq_zero_or_pos i with e | e
  · exact .inl (by omega)
  · have:=h3 e;exact .inr (by omega)
end Go.Sx
namespace Go.Sx
open Go.RowKit
theorem xcutB {P:Program} {t:TypeId} {z:Value} (h:SlT P t 5 z) (r:Row) (k k' :IntKind) (lo hi:Int) (l m:Nat) (hl:lo=(l:Int)) (hh:hi=((l+m:Nat):Int)) (h1:l+m<=(dg r).length) (h2:0<m):
    PureRun P (do pure (.value (←Instr.sliceAt t (sv r) (some (.int k lo)) (some (.int k' hi)) none))) (.slice (some ⟨rblk r,l,none⟩) m (rcap r - l)):=by
  have h3:=xpart h (rblk r) 0 (dg r).length (rcap r) k k' lo hi l m hl hh (Nat.le_trans h1 rcap_le) h2
  rw [←sv_some (by omega) rfl,Nat.zero_add] at h3
  exact h3
theorem bgetD {r:Row} (hb:BOK r) {i:Nat} (hi:i<(dg r).length):(vals r)[i]? =some (.int .u8 ((dg r).getD i 0)):=by
  have hv:vals r=bv (dg r):=hb.eq
  rw [hv]
  simp [bv,List.getElem?_eq_getElem hi]
theorem KeysOfH.len {m:KV} {l:List Value} (h:KeysOfH m l):l.length=m.length:=by have:=h.1.length_eq;simpa using this
end Go.Sx
namespace Go.Sx
def dg1 (x:Int):List Int:= [x%256]
theorem dg1_len (x:Int):(dg1 x).length=1:=rfl
theorem scat1 (a:Int):strL [a]++(⟨#[]⟩:ByteArray)=strL [a]:=by rw [strL_nil,strL_app];rfl
theorem nb1_dg {x:Int} (h:W x):nb1 x=dg1 x:=by
  unfold nb1 dg1
  rw [show (2:Int)^0=1 from rfl,Int.fdiv_one];rfl
theorem xlenS {P:Program} {t:TypeId} (hu:P.underlying t=some .string) (ty:TypeId) {s:ByteArray} {n:Nat} (h:s.size=n):PureRun P (do pure (.value (←Builtin.len_ #[t] ty #[.string s]))) (.int .i64 ((n:Nat):Int)):=by
  intro w
  simp [Builtin.len_,run_underlying hu,goInt,h]
def f_i38:List Value->Value:=fun _=> .int .i64 38
theorem iL_dg {xi xt xo m0 m1 m2 m3:Int} (h0:W m0) (h1:W m1) (h2:W m2) (h3:W m3):
    iL xi xt xo m0 m1 m2 m3=dg4 (IntKind.u64.wrap xi)++dg1 (IntKind.u64.wrap xt)++dg1 (IntKind.u64.wrap xo)++(dg8 m3++dg8 m2++dg8 m1++dg8 m0):=by
  unfold iL
  rw [nb4_dg (W_wrap _),nb1_dg (W_wrap _),nb1_dg (W_wrap _),←nb8_dg h0,←nb8_dg h1,←nb8_dg h2,←nb8_dg h3]
  rfl
theorem BY_wrap8 {l:List Int} (h: ∀x∈l,∃y,x=IntKind.u8.wrap y):BY l:=fun x hx=>by
  obtain ⟨y,rfl⟩:=h x hx
  have e:IntKind.u8.wrap y=y%256:=rfl
  rw [e];exact ⟨Int.emod_nonneg _ (by decide),Int.emod_lt_of_pos _ (by decide)⟩
theorem iL_BY (xi xt xo m0 m1 m2 m3 : Int) : BY (iL xi xt xo m0 m1 m2 m3) := by
  refine BY_wrap8 fun x hx=> ?_
  unfold iL at hx
  rcases List.mem_append.1 hx with hx | hx
  · rcases List.mem_append.1 hx with hx | hx
    · rcases List.mem_append.1 hx with hx | hx
      · simp only [nb4,List.mem_cons,List.not_mem_nil,or_false] at hx
        rcases hx with rfl | rfl | rfl | rfl<;>exact ⟨_,rfl⟩
      · simp only [nb1,List.mem_cons,List.not_mem_nil,or_false] at hx
        exact ⟨_,hx⟩
    · simp only [nb1,List.mem_cons,List.not_mem_nil,or_false] at hx
      exact ⟨_,hx⟩
  · have:l32 (ib4 m0 m1 m2 m3)=(List.range 32).map (ib4 m0 m1 m2 m3):=rfl
    rw [this] at hx
    obtain ⟨i,_,rfl⟩:=List.mem_map.1 hx
    exact ⟨_,rfl⟩
theorem head_BY:BY [3,0,0,0,38]:=by
  intro x hx
  simp only [List.mem_cons,List.not_mem_nil,or_false] at hx
  omega
theorem id_text (xi xt xo m0 m1 m2 m3:Int):sum43 (bytesI (strL [3,0,0,0,38]++strL (iL xi xt xo m0 m1 m2 m3)))=idF xi xt xo m0 m1 m2 m3:=by
  rw [strL_app,bytesI_strL (head_BY.app (iL_BY xi xt xo m0 m1 m2 m3))];rfl
theorem head_str (B:ByteArray):(strL (dg1 3)++strL (dg4 38))++B=strL [3,0,0,0,38]++B:=by rw [strL_app];rfl
theorem may_not {xt xo m0 m1 m2 m3:Int} (h0:W m0) (h1:W m1) (h2:W m2) (h3:W m3):
    (decide (xt<=3) && (decide (xo<=15) && (decide (m0>0) || (decide (m1>0) || (decide (m2>0) || decide (m3>0))))))= !inBad xt xo m0 m1 m2 m3:=by
  unfold W at *
  unfold inBad
  rw [Bool.eq_iff_iff]
  simp only [Bool.and_eq_true,Bool.or_eq_true,Bool.not_eq_true',Bool.or_eq_false_iff,Bool.and_eq_false_iff,decide_eq_true_eq,decide_eq_false_iff_not,beq_eq_false_iff_ne]
  constructor
  · rintro ⟨a,b,c⟩
    refine ⟨by omega,by omega,?_⟩
    rcases c with c | c | c | c
    · exact .inl (by omega)
    · exact .inr (.inl (by omega))
    · exact .inr (.inr (.inl (by omega)))
    · exact .inr (.inr (.inr (by omega)))
  · rintro ⟨a,b,c⟩
    refine ⟨by omega,by omega,?_⟩
    rcases c with c | c | c | c
    · exact .inl (by omega)
    · exact .inr (.inl (by omega))
    · exact .inr (.inr (.inl (by omega)))
    · exact .inr (.inr (.inr (by omega)))
end Go.Sx
namespace Go.Sx
open Go.RowKit
abbrev IX:=Int×Int×Int×Int×Int×Int×Int
def xV (x:IX):Value:= .agg #[.int .u32 x.1, .int .u8 x.2.1, .int .u8 x.2.2.1, .int .u64 x.2.2.2.1, .int .u64 x.2.2.2.2.1, .int .u64 x.2.2.2.2.2.1, .int .u64 x.2.2.2.2.2.2]
abbrev TKt:=IX×Int×Int
def tkV (t:TKt):Value:= .agg #[.int .u32 t.1.1, .int .u8 t.1.2.1, .int .u8 t.1.2.2.1, .int .u64 t.1.2.2.2.1, .int .u64 t.1.2.2.2.2.1, .int .u64 t.1.2.2.2.2.2.1, .int .u64 t.1.2.2.2.2.2.2, .int .u8 t.2.1, .int .u8 t.2.2]
theorem tkV_inj {a b:TKt} (h:tkV a=tkV b):a=b:=by
  obtain ⟨⟨a0,a1,a2,a3,a4,a5,a6⟩,a7,a8⟩:=a
  obtain ⟨⟨b0,b1,b2,b3,b4,b5,b6⟩,b7,b8⟩:=b
  simp only [tkV,Value.agg.injEq,Array.mk.injEq,List.cons.injEq,Value.int.injEq,true_and,and_true] at h
  obtain ⟨h0,h1,h2,h3,h4,h5,h6,h7,h8⟩:=h
  subst h0 h1 h2 h3 h4 h5 h6 h7 h8;rfl
theorem xV_inj {a b:IX} (h:xV a=xV b):a=b:=by
  obtain ⟨a0,a1,a2,a3,a4,a5,a6⟩:=a
  obtain ⟨b0,b1,b2,b3,b4,b5,b6⟩:=b
  simp only [xV,Value.agg.injEq,Array.mk.injEq,List.cons.injEq,Value.int.injEq,true_and,and_true] at h
  obtain ⟨h0,h1,h2,h3,h4,h5,h6⟩:=h
  subst h0 h1 h2 h3 h4 h5 h6;rfl
def eq7 (a0 a1 a2 a3 a4 a5 a6 b0 b1 b2 b3 b4 b5 b6:Int):Bool:=a0==b0 && (a1==b1 && (a2==b2 && decide ([a3,a4,a5,a6]= [b3,b4,b5,b6])))
theorem eq7_iff {a b:IX}:eq7 a.1 a.2.1 a.2.2.1 a.2.2.2.1 a.2.2.2.2.1 a.2.2.2.2.2.1 a.2.2.2.2.2.2 b.1 b.2.1 b.2.2.1 b.2.2.2.1 b.2.2.2.2.1 b.2.2.2.2.2.1 b.2.2.2.2.2.2=true↔a=b:=by
  obtain ⟨a0,a1,a2,a3,a4,a5,a6⟩:=a
  obtain ⟨b0,b1,b2,b3,b4,b5,b6⟩:=b
  simp [eq7]
def f_eq7:List Value->Value:=fun vs=> .bool (eq7 (ci (cell (varg vs 0) 0)) (ci (cell (varg vs 0) 1)) (ci (cell (varg vs 0) 2)) (ci (cell (varg vs 0) 3)) (ci (cell (varg vs 0) 4)) (ci (cell (varg vs 0) 5)) (ci (cell (varg vs 0) 6)) (ci (cell (varg vs 1) 0)) (ci (cell (varg vs 1) 1)) (ci (cell (varg vs 1) 2)) (ci (cell (varg vs 1) 3)) (ci (cell (varg vs 1) 4)) (ci (cell (varg vs 1) 5)) (ci (cell (varg vs 1) 6)))
def f_ne7:List Value->Value:=fun vs=> .bool (!(eq7 (ci (cell (varg vs 0) 0)) (ci (cell (varg vs 0) 1)) (ci (cell (varg vs 0) 2)) (ci (cell (varg vs 0) 3)) (ci (cell (varg vs 0) 4)) (ci (cell (varg vs 0) 5)) (ci (cell (varg vs 0) 6)) (ci (cell (varg vs 1) 0)) (ci (cell (varg vs 1) 1)) (ci (cell (varg vs 1) 2)) (ci (cell (varg vs 1) 3)) (ci (cell (varg vs 1) 4)) (ci (cell (varg vs 1) 5)) (ci (cell (varg vs 1) 6))))
theorem run_eq7 {P : Program} {t t0 t1 t2 t3 e : TypeId} {n0 n1 n2 n3 : String} (hst : P.underlying t = some (.struct (P.fieldsOf t))) (held : P.stoodInHeld t = false)
    (h : (P.fieldsOf t).toList.map (fun f => (f.name, f.type, f.offset)) = [(n0, t0, 0), (n1, t1, 1), (n2, t2, 2), (n3, t3, 3)]) (hn0 : n0 ≠ "_") (hn1 : n1 ≠ "_") (hn2 : n2 ≠ "_") (hn3 : n3 ≠ "_")
    (u0:P.underlying t0=some (.int .u32)) (u1:P.underlying t1=some (.int .u8)) (u2:P.underlying t2=some (.int .u8)) (u3:P.underlying t3=some (.array 4 e)) (ue:P.underlying e=some (.int .u64))
    (a0: ∀w,(isAgg t0).run P w= .ok false w) (a1: ∀w,(isAgg t1).run P w= .ok false w) (a2: ∀w,(isAgg t2).run P w= .ok false w) (a3: ∀w,(isAgg t3).run P w= .ok true w) (ae: ∀w,(isAgg e).run P w= .ok false w)
    (se: ∀w,(sizeOf e).run P w= .ok 1 w) (s3: ∀w,(sizeOf t3).run P w= .ok 4 w) (x0 x1 x2 x3 x4 x5 x6 y0 y1 y2 y3 y4 y5 y6:Int) (w:World):
    (Op.equalIn 10000 t (.agg #[.int .u32 x0, .int .u8 x1, .int .u8 x2, .int .u64 x3, .int .u64 x4, .int .u64 x5, .int .u64 x6]) (.agg #[.int .u32 y0, .int .u8 y1, .int .u8 y2, .int .u64 y3, .int .u64 y4, .int .u64 y5, .int .u64 y6])).run P w= .ok (eq7 x0 x1 x2 x3 x4 x5 x6 y0 y1 y2 y3 y4 y5 y6) w:=by
  rw [run_equalIn_struct w 9999 t _ _ hst held]
  generalize (P.fieldsOf t).toList=fs at h ⊢
  rcases fs with _ | ⟨f0,_ | ⟨f1,_ | ⟨f2,_ | ⟨f3,_ | ⟨f4,r⟩⟩⟩⟩⟩
  · simp at h
  · simp at h
  · simp at h
  · simp at h
  · simp only [List.map_cons,List.map_nil,List.cons.injEq,Prod.mk.injEq,and_true] at h
    obtain ⟨⟨rfl,rfl,o0⟩,⟨rfl,rfl,o1⟩,⟨rfl,rfl,o2⟩,rfl,rfl,o3⟩:=h
    have p: ∀ (v0 v1 v2 v3 v4 v5 v6:Int) (w:World),(part f0.type #[.int .u32 v0, .int .u8 v1, .int .u8 v2, .int .u64 v3, .int .u64 v4, .int .u64 v5, .int .u64 v6] 0).run P w= .ok (.int .u32 v0) w/\
        (part f1.type #[.int .u32 v0, .int .u8 v1, .int .u8 v2, .int .u64 v3, .int .u64 v4, .int .u64 v5, .int .u64 v6] 1).run P w= .ok (.int .u8 v1) w/\(part f2.type #[.int .u32 v0, .int .u8 v1, .int .u8 v2, .int .u64 v3, .int .u64 v4, .int .u64 v5, .int .u64 v6] 2).run P w= .ok (.int .u8 v2) w/\
        (part f3.type #[.int .u32 v0, .int .u8 v1, .int .u8 v2, .int .u64 v3, .int .u64 v4, .int .u64 v5, .int .u64 v6] 3).run P w= .ok (.agg (arrV .u64 [v3,v4,v5,v6])) w:=fun v0 v1 v2 v3 v4 v5 v6 w=>
      ⟨run_part1 w a0 rfl,run_part1 w a1 rfl,run_part1 w a2 rfl,by simp [part,Sem.run_bind,a3,s3,arrV]⟩
    have q0:=run_equalIn_int (P:=P) w 9998 f0.type .u32 .u32 x0 y0 u0
    have q1:=run_equalIn_int (P:=P) w 9998 f1.type .u8 .u8 x1 y1 u1
    have q2:=run_equalIn_int (P:=P) w 9998 f2.type .u8 .u8 x2 y2 u2
    have q3:=eq_arrn (P:=P) w 9997 u3 ue ae se [x3,x4,x5,x6] [y3,y4,y5,y6] rfl rfl
    unfold eq7
    generalize decide ([x3,x4,x5,x6]= [y3,y4,y5,y6])=D at q3 ⊢
    simp only [Op.eqFields,ne_eq,hn0,hn1,hn2,hn3,not_false_eq_true,if_true,o0,o1,o2,o3,Sem.run_bind,(p x0 x1 x2 x3 x4 x5 x6 w).1,(p y0 y1 y2 y3 y4 y5 y6 w).1,(p x0 x1 x2 x3 x4 x5 x6 w).2.1,(p y0 y1 y2 y3 y4 y5 y6 w).2.1,(p x0 x1 x2 x3 x4 x5 x6 w).2.2.1,(p y0 y1 y2 y3 y4 y5 y6 w).2.2.1,(p x0 x1 x2 x3 x4 x5 x6 w).2.2.2,(p y0 y1 y2 y3 y4 y5 y6 w).2.2.2,Result.andThen_ok,q0,q1,q2,q3]
    cases h0:(x0==y0)<;>cases h1:(x1==y1)<;>cases h2:(x2==y2)<;>cases D<;>simp [p,q1,q2,q3,h1,h2,Sem.run_bind]
  · simp at h
structure IxT (P:Program) (t:TypeId):Prop where
  guard:P.eqGuardType P.depth t=false
  run: ∀ (x0 x1 x2 x3 x4 x5 x6 y0 y1 y2 y3 y4 y5 y6:Int) (w:World),(Op.equalIn 10000 t (.agg #[.int .u32 x0, .int .u8 x1, .int .u8 x2, .int .u64 x3, .int .u64 x4, .int .u64 x5, .int .u64 x6]) (.agg #[.int .u32 y0, .int .u8 y1, .int .u8 y2, .int .u64 y3, .int .u64 y4, .int .u64 y5, .int .u64 y6])).run P w= .ok (eq7 x0 x1 x2 x3 x4 x5 x6 y0 y1 y2 y3 y4 y5 y6) w
theorem xeq7 {P:Program} {t:TypeId} (h:IxT P t) (x0 x1 x2 x3 x4 x5 x6 y0 y1 y2 y3 y4 y5 y6:Int):
    PureRun P (xBin .eql t (.agg #[.int .u32 x0, .int .u8 x1, .int .u8 x2, .int .u64 x3, .int .u64 x4, .int .u64 x5, .int .u64 x6]) (.agg #[.int .u32 y0, .int .u8 y1, .int .u8 y2, .int .u64 y3, .int .u64 y4, .int .u64 y5, .int .u64 y6])) (.bool (eq7 x0 x1 x2 x3 x4 x5 x6 y0 y1 y2 y3 y4 y5 y6)):=by
  intro w
  have g:=run_eqGuard_agg (P:=P) (w:=w) .eql t (.const (.agg #[.int .u32 x0, .int .u8 x1, .int .u8 x2, .int .u64 x3, .int .u64 x4, .int .u64 x5, .int .u64 x6])) (.const (.agg #[.int .u32 y0, .int .u8 y1, .int .u8 y2, .int .u64 y3, .int .u64 y4, .int .u64 y5, .int .u64 y6])) #[.int .u32 x0, .int .u8 x1, .int .u8 x2, .int .u64 x3, .int .u64 x4, .int .u64 x5, .int .u64 x6] #[.int .u32 y0, .int .u8 y1, .int .u8 y2, .int .u64 y3, .int .u64 y4, .int .u64 y5, .int .u64 y6] h.guard
  have q:=run_eql_struct (P:=P) (w:=w) t #[.int .u32 x0, .int .u8 x1, .int .u8 x2, .int .u64 x3, .int .u64 x4, .int .u64 x5, .int .u64 x6] #[.int .u32 y0, .int .u8 y1, .int .u8 y2, .int .u64 y3, .int .u64 y4, .int .u64 y5, .int .u64 y6]
  rw [h.run] at q
  simp only [xBin,Sem.run_bind,g,Result.andThen_ok,q]
  rfl
theorem xne7 {P:Program} {t:TypeId} (h:IxT P t) (x0 x1 x2 x3 x4 x5 x6 y0 y1 y2 y3 y4 y5 y6:Int):
    PureRun P (xBin .neq t (.agg #[.int .u32 x0, .int .u8 x1, .int .u8 x2, .int .u64 x3, .int .u64 x4, .int .u64 x5, .int .u64 x6]) (.agg #[.int .u32 y0, .int .u8 y1, .int .u8 y2, .int .u64 y3, .int .u64 y4, .int .u64 y5, .int .u64 y6])) (.bool (!(eq7 x0 x1 x2 x3 x4 x5 x6 y0 y1 y2 y3 y4 y5 y6))):=by
  intro w
  have g:=run_eqGuard_agg (P:=P) (w:=w) .neq t (.const (.agg #[.int .u32 x0, .int .u8 x1, .int .u8 x2, .int .u64 x3, .int .u64 x4, .int .u64 x5, .int .u64 x6])) (.const (.agg #[.int .u32 y0, .int .u8 y1, .int .u8 y2, .int .u64 y3, .int .u64 y4, .int .u64 y5, .int .u64 y6])) #[.int .u32 x0, .int .u8 x1, .int .u8 x2, .int .u64 x3, .int .u64 x4, .int .u64 x5, .int .u64 x6] #[.int .u32 y0, .int .u8 y1, .int .u8 y2, .int .u64 y3, .int .u64 y4, .int .u64 y5, .int .u64 y6] h.guard
  have q:=run_neq_struct (P:=P) (w:=w) t #[.int .u32 x0, .int .u8 x1, .int .u8 x2, .int .u64 x3, .int .u64 x4, .int .u64 x5, .int .u64 x6] #[.int .u32 y0, .int .u8 y1, .int .u8 y2, .int .u64 y3, .int .u64 y4, .int .u64 y5, .int .u64 y6]
  rw [h.run] at q
  simp only [xBin,Sem.run_bind,g,Result.andThen_ok,q]
  rfl
end Go.Sx
set_option linter.unusedVariables false
set_option linter.unusedSimpArgs false
namespace Go.Sx
open Go.RowKit
structure Doc (K:MK) (ln:List Int) (m:KV):Prop where
  s: ∃c,SpS K ln m c
  r:ln.Pairwise (· < ·)
  w: ∀x∈ln,(Lit.int .u32 x).wf=true
theorem Doc.ok {K:MK} {ln:List Int} {m:KV} (h:Doc K ln m):KOK K m:=h.s.elim fun _ q=>q.ok
theorem Doc.nil {K:MK}:Doc K [] []:=⟨⟨0,SpS.nil⟩,List.Pairwise.nil,fun _ h=>by cases h⟩
theorem Doc.has {K:MK} {ln:List Int} {m:KV} (h:Doc K ln m) (i:Int):hasI m i=decide (i∈ln):=by
  obtain ⟨c,q⟩:=h.s
  rw [Bool.eq_iff_iff,q.has,decide_eq_true_eq]
theorem Doc.len {K:MK} (I:WdK K) {ln:List Int} {m:KV} (h:Doc K ln m):m.length<=ln.length:=h.s.elim fun _ q=>q.len I
theorem Doc.keyb {K:MK} {ln:List Int} {m:KV} (h:Doc K ln m) {l:List Value} (hx:KeysOf .u32 m l): ∀v∈l,0<=ci v/\ci v<=67108863:=h.s.elim fun _ q=>q.keyb h.w hx
theorem SpS.congr {K:MK} {P Q:List Int} {m:KV} {c:Nat} (h:SpS K P m c) (e: ∀x,x∈Q↔x∈P):SpS K Q m c:=
  ⟨h.ok,fun w b hb=>by rw [h.bit w b hb];simp only [e],fun w=>by rw [h.key w];simp only [e],h.cnt⟩
theorem Doc.put {K:MK} (I:WdK K) {ln:List Int} {m:KV} (h:Doc K ln m) {x:Int} (hx:(Lit.int .u32 x).wf=true):Doc K (if x∈ln then ln else pIns ln x) (putO m x):=by
  obtain ⟨c,q⟩:=h.s
  by_cases hi:x∈ln
  · rw [if_pos hi]
    have hh:=(q.has x).2 hi
    unfold putO
    rw [if_pos hh]
    exact h
  · rw [if_neg hi]
    obtain ⟨h1,h2⟩:=pIns_rise h.r hi
    refine ⟨⟨_,(q.put I x).congr fun v=> ?_⟩,h1,fun v hv=> ?_⟩
    · rw [h2,List.mem_append,List.mem_singleton]
    · rcases (h2 v).1 hv with r | r
      · exact h.w v r
      · exact r▸hx
theorem Doc.eqm {K:MK} (I:WdK K) {ln:List Int} {m n:KV} (h:Doc K ln m) (hn:KOK K n) (e:EqM n m):Doc K ln n:=by
  obtain ⟨c,q⟩:=h.s
  have hw: ∀w,wd n w=wd m w:=fun w=>by unfold wd;rw [e]
  refine ⟨⟨totW n,hn,fun w b hb=>by rw [hw];exact q.bit w b hb,fun w=>by rw [e];exact q.key w,rfl⟩,h.r,h.w⟩
theorem pIns_len {ln : List Int} {x : Int} (h : ln.Pairwise (· < ·)) : (if x ∈ ln then ln else pIns ln x).length <= ln.length + 1 := by
  by_cases hi:x∈ln
  · rw [if_pos hi];omega
  · rw [if_neg hi, pIns_eq h hi]
    have hp: ∀l:List Int,x∉l->(l.filter (fun y=>decide (y<x))).length+(l.filter (fun y=>decide (x<y))).length<=l.length:=by
      intro l
      induction l with
      | nil=>simp
      | cons a l ih =>
        intro hn
        have:=ih (fun q=>hn (List.mem_cons_of_mem _ q))
        simp only [List.filter_cons,List.length_cons]
        by_cases h1:a<x
        · have h2: ¬x<a:=by omega
          simp [h1,h2];omega
        · by_cases h2:x<a
          · simp [h1,h2];omega
          · simp [h1,h2];omega
    have:=hp ln hi
    rw [List.length_append,List.length_cons];omega
structure SpD (K:MK) (ent:KV->Value->Ent) (i:Nat) (m:KV) (L:List Ent) (mark:Int) (bm:KV) (vn vk:Value):Prop where
  ex: ∃ (hs:List KV) (ln lk:List Int) (h0:KV),SB K ent hs L m/\(hs++ [m])[mark.toNat]? =some h0/\Doc K ln m/\Doc K lk h0/\InBag bm vn (uvs ln)/\InBag bm vk (uvs lk)/\ln.length<=i/\lk.length<=i
  m0:0<=mark
  m1:mark<=((L.length:Nat):Int)
  l:L.length<=i
theorem SpD.start {K:MK} {ent:KV->Value->Ent}:SpD K ent 0 [] [] 0 [] (sv .nil) (sv .nil):=
  ⟨⟨[],[],[],[],SB.start,rfl,Doc.nil,Doc.nil,InBag.nil (fun _ h=>by cases h),InBag.nil (fun _ h=>by cases h),Nat.le_refl _,Nat.le_refl _⟩,Int.le_refl _,Int.le_refl _,Nat.le_refl _⟩
theorem SpD.doc {K:MK} {ent:KV->Value->Ent} {i:Nat} {m:KV} {L:List Ent} {mark:Int} {bm:KV} {vn vk:Value} (h:SpD K ent i m L mark bm vn vk):Doc K (bl bm vn) m/\InBag bm vn (uvs (bl bm vn))/\(bl bm vn).length<=i:=by
  obtain ⟨hs,ln,lk,h0,h1,h2,h3,h4,h5,h6,h7,h8⟩:=h.ex
  rw [h5.bl]
  exact ⟨h3,h5,h7⟩
theorem SpD.jr {K:MK} {ent:KV->Value->Ent} {i:Nat} {m:KV} {L:List Ent} {mark:Int} {bm:KV} {vn vk:Value} (h:SpD K ent i m L mark bm vn vk): ∃hs,Jr K ent hs L m:=by
  obtain ⟨hs,ln,lk,h0,h1,_⟩:=h.ex
  exact ⟨hs,h1.jr⟩
theorem SpD.mark {K:MK} {ent:KV->Value->Ent} {i:Nat} {m:KV} {L:List Ent} {mark:Int} {bm:KV} {vn vk:Value} (h:SpD K ent i m L mark bm vn vk) {x:Int} (hx:x=((L.length:Nat):Int)):SpD K ent (i+1) m L x bm vn vn:=by
  obtain ⟨hs,ln,lk,h0,h1,h2,h3,h4,h5,h6,h7,h8⟩:=h.ex
  have hl:=h1.jr.1
  have:=h.l
  exact ⟨⟨hs,ln,ln,m,h1,by rw [hx,Int.toNat_natCast,←hl];simp,h3,h3,h5,h5,by omega,by omega⟩,by omega,by omega,by omega⟩
theorem SpD.back {K:MK} (I:WdK K) {ent:KV->Value->Ent} {b:Nat} (E:EntOK b ent) {i:Nat} {m:KV} {L:List Ent} {mark:Int} {bm:KV} {vn vk:Value} (h:SpD K ent i m L mark bm vn vk) {m' :KV} (hu:m' =undoB b (L.drop mark.toNat) m):SpD K ent (i+1) m' (L.take mark.toNat) mark bm vk vk:=by
  obtain ⟨hs,ln,lk,h0,h1,h2,h3,h4,h5,h6,h7,h8⟩:=h.ex
  have hm1:=h.m1
  have hm0:=h.m0
  have hl:=h1.jr.1
  have:=h.l
  obtain ⟨S5,q5⟩:=h1.back E (n:=mark.toNat) (by omega) h2
  rw [←hu] at S5 q5
  have hd:=h4.eqm I S5.ok q5
  have ht:(hs.take mark.toNat).length=mark.toNat:=by rw [List.length_take];omega
  have ht2:(L.take mark.toNat).length=mark.toNat:=by rw [List.length_take];omega
  exact ⟨⟨_,lk,lk,m',S5,by rw [List.getElem?_append_right (by omega),ht];simp,hd,hd,h6,h6,by omega,by omega⟩,hm0,by rw [ht2];omega,by rw [ht2];omega⟩
theorem SpD.put {K:MK} (I:WdK K) {ent:KV->Value->Ent} {i:Nat} {m:KV} {L:List Ent} {mark:Int} {bm:KV} {vn vk:Value} (h:SpD K ent i m L mark bm vn vk) {x:Int} (hx:(Lit.int .u32 x).wf=true) {y:KV×Value×Bool} (pb:PutB bm vn x y) {m' :KV} {L' :List Ent}
    (p:m' =putO m x/\L' =bif hasI m x then L else L++ [ent m (u32v (x/64))]):SpD K ent (i+1) m' L' mark y.1 y.2.1 vk:=by
  obtain ⟨hs,ln,lk,h0,h1,h2,h3,h4,h5,h6,h7,h8⟩:=h.ex
  have hm1:=h.m1
  have hm0:=h.m0
  have hl:=h1.jr.1
  have hL:=h.l
  obtain ⟨p1,p2⟩:=p
  subst p1
  obtain ⟨_,pb2,pb3⟩:=pb
  rw [h5.bl] at pb2
  have hd:=h3.put I hx
  have hn:=pIns_len (x:=x) h3.r
  cases hh:hasI m x with
  | true =>
    rw [hh] at p2
    have p2' :L' =L:=p2
    subst p2'
    have e:putO m x=m:=put_again hh
    rw [e] at hd ⊢
    exact ⟨⟨hs,_,lk,h0,h1,h2,hd,h4,pb2,pb3 _ _ h6,by omega,by omega⟩,hm0,hm1,by omega⟩
  | false =>
    rw [hh] at p2
    have p2' :L' =L++ [ent m (u32v (x/64))]:=p2
    subst p2'
    have e:putO m x=putM m x:=by unfold putO;rw [if_neg (by rw [hh];decide)]
    obtain ⟨j,o⟩:=h1.jr.set h1.ok (I.k (x/64)) (I.v _ (setW_W (wd_W I h1.ok (x/64)) (b:=(x%64).toNat) (by omega)))
    obtain ⟨z,z1,z2⟩:=h1.zero
    have S2:SB K ent (hs++ [m]) (L++ [ent m (u32v (x/64))]) (putO m x):=by
      rw [e]
      exact ⟨j,o,z,by rw [List.getElem?_append_left (by simp)];exact z1,z2⟩
    refine ⟨⟨_,_,lk,h0,S2,by rw [List.getElem?_append_left (by simp;omega)];exact h2,hd,h4,pb2,pb3 _ _ h6,by omega,by omega⟩,hm0,?_,?_⟩
    · rw [List.length_append,List.length_singleton];omega
    · rw [List.length_append,List.length_singleton];omega
end Go.Sx
namespace Go.Sx
open Go.RowKit
noncomputable def kX (x:IX):Value:=hV (idF x.1 x.2.1 x.2.2.1 x.2.2.2.1 x.2.2.2.2.1 x.2.2.2.2.2.1 x.2.2.2.2.2.2)
def badX (x:IX):Bool:=inBad x.2.1 x.2.2.1 x.2.2.2.1 x.2.2.2.2.1 x.2.2.2.2.2.1 x.2.2.2.2.2.2
def fdT (l:List TKt) (x:IX):Int×Int:=match l.find? (fun t=>decide (t.1=x)) with | some t=>t.2 | none=>(x.2.2.1,0)
def putT (l:List TKt) (x:IX) (v:Int×Int):List TKt:=l.filter (fun t=> !decide (t.1=x))++ [(x,v)]
theorem putT_len (l:List TKt) (x:IX) (v:Int×Int):(putT l x v).length<=l.length+1:=by
  unfold putT
  have:=List.length_filter_le (fun t=> !decide (t.1=x)) l
  simp;omega
def NC (all:List IX):Prop:= ∀x∈all,∀y∈all,kX x=kX y->x=y
structure DT (K:MK) (all:List IX) (l:List TKt) (m:KV):Prop where
  kok:KOK K m
  mem: ∀t∈l,t.1∈all
  nd:(l.map (·.1)).Nodup
  sup: ∀e∈m,∃t∈l,e=(kX t.1,tV t.2)
  inc: ∀t∈l,(kX t.1,tV t.2)∈m
theorem DT.nil {K:MK} {all:List IX}:DT K all [] []:=⟨KOK.nil,fun _ h=>(by cases h),List.nodup_nil,fun _ h=>(by cases h),fun _ h=>(by cases h)⟩
section
variable {K:MK} {all:List IX} {l:List TKt} {m:KV}
theorem DT.find (h : DT K all l m) (hc : NC all) {x : IX} (hx : x ∈ all) : fdT l x = tkF m (kX x) x.2.2.1 := by
  unfold fdT tkF
  cases hf:l.find? (fun t=>decide (t.1=x)) with
  | some t =>
    have h1:=List.mem_of_find?_eq_some hf
    have h2:=List.find?_some hf
    have h3:t.1=x:=by simpa using h2
    have h4:=mget_of_mem h.kok.once (h.inc t h1)
    rw [h3] at h4
    have h5:mget m (kX x)=some (tV t.2):=h4
    simp only [h5];rfl
  | none =>
    have hn:mget m (kX x)=none:=by
      cases hg:mget m (kX x) with
      | none=>rfl
      | some v =>
        exfalso
        obtain ⟨t,h1,h2⟩:=h.sup _ (mget_mem hg)
        have h3:kX x=kX t.1:=congrArg Prod.fst h2
        have h4:=hc x hx t.1 (h.mem t h1) h3
        have:=List.find?_eq_none.1 hf t h1
        simp [h4] at this
    simp only [hn]
theorem DT.len (h:DT K all l m) (hc:NC all):m.length=l.length:=by
  have n1:(m.map (·.1)).Nodup:=h.kok.once
  have n2:(l.map (fun t=>kX t.1)).Nodup:=by
    have e:l.map (fun t=>kX t.1)=(l.map (·.1)).map kX:=by rw [List.map_map];rfl
    rw [e]
    unfold List.Nodup
    rw [List.pairwise_map]
    refine List.Pairwise.imp_of_mem ?_ h.nd
    intro a b ha hb hab hk
    obtain ⟨ta,h1,rfl⟩:=List.mem_map.1 ha
    obtain ⟨tb,h2,rfl⟩:=List.mem_map.1 hb
    exact hab (hc _ (h.mem ta h1) _ (h.mem tb h2) hk)
  have hp:(m.map (·.1)).Perm (l.map (fun t=>kX t.1)):=by
    refine (List.perm_ext_iff_of_nodup n1 n2).2 fun k=> ?_
    constructor
    · intro hk
      obtain ⟨e,he,rfl⟩:=List.mem_map.1 hk
      obtain ⟨t,h1,rfl⟩:=h.sup e he
      exact List.mem_map.2 ⟨t,h1,rfl⟩
    · intro hk
      obtain ⟨t,h1,rfl⟩:=List.mem_map.1 hk
      exact List.mem_map.2 ⟨_,h.inc t h1,rfl⟩
  simpa using hp.length_eq
theorem mem_putT {x:IX} {v:Int×Int} {t:TKt}:t∈putT l x v↔(t∈l/\t.1≠x)∨t=(x,v):=by
  unfold putT
  rw [List.mem_append,List.mem_filter,List.mem_singleton]
  simp
theorem putT_all (h: ∀t∈l,t.1∈all) {x:IX} (hx:x∈all) {v:Int×Int}: ∀t∈putT l x v,t.1∈all:=by
  intro t ht
  rcases mem_putT.1 ht with ⟨h1,_⟩ | rfl
  · exact h t h1
  · exact hx
theorem DT.put (h:DT K all l m) (hc:NC all) (ok: ∀f:Nat->Int,K.OkK (hV f)) (ov: ∀x:Int×Int,K.OkV (tV x)) {x:IX} (hx:x∈all) (v:Int×Int):DT K all (putT l x v) (mset m (kX x) (tV v)):=by
  have hk:=h.kok.set (ok (idF x.1 x.2.1 x.2.2.1 x.2.2.2.1 x.2.2.2.2.1 x.2.2.2.2.2.1 x.2.2.2.2.2.2)) (ov v)
  refine ⟨hk,putT_all h.mem hx,?_,?_,?_⟩
  · unfold putT
    rw [List.map_append,List.nodup_append]
    refine ⟨(h.nd.sublist (List.Sublist.map _ List.filter_sublist)),by simp,?_⟩
    intro a ha b hb
    obtain ⟨t,ht,rfl⟩:=List.mem_map.1 ha
    have h1:=(List.mem_filter.1 ht).2
    simp only [List.map_cons,List.map_nil,List.mem_singleton] at hb
    subst hb
    simpa using h1
  · intro e he
    have hg:=mget_of_mem hk.once he
    have hg' :mget (mset m (kX x) (tV v)) e.1=some e.2:=hg
    rw [mget_set] at hg'
    by_cases hq:e.1=kX x
    · rw [if_pos hq] at hg'
      exact ⟨(x,v),mem_putT.2 (.inr rfl),by rw [←hq,Option.some.inj hg']⟩
    · rw [if_neg hq] at hg'
      obtain ⟨t,h1,h2⟩:=h.sup _ (mget_mem hg')
      refine ⟨t,mem_putT.2 (.inl ⟨h1,fun q=>hq ?_⟩),h2⟩
      have h3:e.1=kX t.1:=congrArg Prod.fst h2
      rw [h3,q]
  · intro t ht
    rcases mem_putT.1 ht with ⟨h1,h2⟩ | rfl
    · refine mget_mem ?_
      rw [mget_set,if_neg (fun q=>h2 (hc _ (h.mem t h1) _ hx q))]
      exact mget_of_mem h.kok.once (h.inc t h1)
    · refine mget_mem ?_
      rw [mget_set,if_pos rfl]
theorem DT.eqm (h:DT K all l m) {n:KV} (hn:KOK K n) (e:EqM n m):DT K all l n:=
  ⟨hn,h.mem,h.nd,fun y hy=>h.sup y (mget_mem (by rw [←e y.1];exact mget_of_mem hn.once hy)),fun t ht=>mget_mem (by rw [e];exact mget_of_mem h.kok.once (h.inc t ht))⟩
end
def ifT (c:Int) (l:List TKt) (x:IX) (v:Int×Int):List TKt:=bif c==0 then putT l x v else l
theorem ifT_len {c:Int} {l:List TKt} {x:IX} {v:Int×Int}:(ifT c l x v).length<=l.length+1:=by
  unfold ifT
  cases c==0
  · exact Nat.le_succ _
  · exact putT_len l x v
theorem DT.ifP {K:MK} {all:List IX} {l:List TKt} {m:KV} (h:DT K all l m) (hc:NC all) (ok: ∀f:Nat->Int,K.OkK (hV f)) (ov: ∀x:Int×Int,K.OkV (tV x)) {x:IX} (hx:x∈all) (c:Int) (v:Int×Int):DT K all (ifT c l x v) (setIf c m (kX x) (tV v)):=by
  unfold ifT setIf
  cases c==0
  · exact h
  · exact h.put hc ok ov hx v
end Go.Sx
set_option linter.unusedVariables false
set_option linter.unusedSimpArgs false
namespace Go.Sx
open Go.RowKit
abbrev KBg (k:Nat) (m:KV):= {rs:List (RK k)//bagKV (rs.map (·.1))=m/\MOK m/\ ∀r∈rs,r.1≠ .nil}
def bagK (k:Nat) (e:TypeId) (m:KV):Slot:=bun [] (.kv m) (fun rs:KBg k m=>rs.val.map (fun r=>sk e r.1))
theorem bagK_row {k:Nat} {m:KV} {rs:List (RK k)} (hm:bagKV (rs.map (·.1))=m) {v:Value} {l:List Value} (h:mget m v=some (.agg l.toArray)): ∃p r q,rs=p++r::q/\sv r.1=v/\vals r.1=l:=by
  subst hm
  have hmem:=mget_mem h
  obtain ⟨r0,hr0,he⟩:=List.mem_map.1 hmem
  obtain ⟨r,hr,rfl⟩:=List.mem_map.1 hr0
  obtain ⟨p,q,rfl⟩:=List.append_of_mem hr
  unfold rowE at he
  injection he with h1 h2
  refine ⟨p,r,q,rfl,h1,?_⟩
  have:=congrArg Value.cells h2
  simpa [Value.cells] using congrArg Array.toList this
theorem permK_front {k:Nat} (e:TypeId) (p q:List (RK k)) (r:RK k) (l:List Slot):((p++r::q).map (fun r=>sk e r.1)++l).Perm ((sk e r.1::l)++(p++q).map (fun r=>sk e r.1)):=by
  rw [List.map_append,List.map_cons,List.map_append]
  refine List.Perm.trans (l₂:=sk e r.1::((p.map (fun r=>sk e r.1)++q.map (fun r=>sk e r.1))++l)) ?_ ?_
  · rw [List.append_assoc,List.cons_append,List.append_assoc];exact List.perm_middle
  · exact List.Perm.cons _ List.perm_append_comm
theorem bagK_read {P : Program} {f : FuncId} {args : Array Value} {k : Nat} {e : TypeId} {m : KV} {v : Value} {l : List Value} {Hs : List Slot} {X : Type} {val : X -> Value} {us : X -> List Slot} {Φ : X -> Prop} (en : EnterOK P f) (hr : InBag m v l)
    (h: ∀r:RK k,sv r.1=v->vals r.1=l->CallT P f args (sk e r.1::Hs) X val (fun x=>sk e r.1::us x) Φ):CallT P f args (bagK k e m::Hs) X val (fun x=>bagK k e m::us x) Φ:=by
  rcases hr.at_ with ⟨rfl,rfl⟩ | ⟨hv,q⟩
  · have hc:=(h (RK.nil k) rfl rfl).frame [bagK k e m]
    refine hc.conv ?_ ?_
    · intro R w ho
      have h1:Own (ofList ([.free]++(Hs++ [bagK k e m]))) R w:=by
        refine (Imp.same fun p hp=> ?_) R w (Imp.swap [bagK k e m] Hs R w ho)
        obtain h2:=(sep_free (a:=Hs++ [bagK k e m])).2 hp
        exact sep_perm (List.perm_append_comm) p h2
      exact h1
    · intro x hx R w ho
      have h1:Own (ofList (us x++ [bagK k e m])) R w:=Imp.drop _ [_] R w (Imp.swap [_] _ R w ho)
      exact Imp.swap (us x) [bagK k e m] R w h1
  · refine ⟨en,fun R w ho=> ?_⟩
    · obtain ⟨⟨rs,hm,hM,hn⟩,ho1⟩:=bun_open ho
      obtain ⟨p,r,q',rfl,h1,h2⟩:=bagK_row hm q
      have hc:=(h r h1 h2).frame ((p++q').map (fun r=>sk e r.1))
      refine (hc.calls R w (own_perm (permK_front e p q' r Hs) R w ho1)).mono ?_
      rintro e' w' ⟨x,hx,he,ho3,hext⟩
      refine ⟨x,hx,he,?_,hext⟩
      have ho4:=own_perm (permK_front e p q' r (us x)).symm R w' ho3
      exact bun_shut (F:=fun rs:KBg k m=>rs.val.map (fun r=>sk e r.1)) ⟨_,hm,hM,hn⟩ (us x) R w' ho4
theorem ownK_rows_ne {k:Nat} {e:TypeId} {rs:List (RK k)} {y:Row} {l:List Slot} {R:HP} {w:World} (ho:Own (ofList (rs.map (fun r=>sk e r.1)++sk e y::l)) R w) (hy:y≠ .nil): ∀r∈rs,sv r.1≠sv y:=by
  intro r hr hs
  cases y with
  | nil=>exact hy rfl
  | mk b vs ex =>
    obtain ⟨i,hi,hri⟩:=List.mem_iff_getElem.1 hr
    obtain ⟨r,hag⟩:=r
    cases r with
    | nil=>simp [sv] at hs
    | mk b2 vs2 ex2 =>
      have h1:ofList (rs.map (fun r=>sk e r.1)++sk e (.mk b vs ex)::l) i=sk e (.mk b2 vs2 ex2):=ofList_get (by rw [List.getElem?_append_left (by simpa using hi),List.getElem?_map,List.getElem?_eq_getElem hi,hri];rfl)
      have h2:ofList (rs.map (fun r=>sk e r.1)++sk e (.mk b vs ex)::l) rs.length=sk e (.mk b vs ex):=ofList_get (by rw [List.getElem?_append_right (by simp)];simp)
      refine own_ne2 (s:= []) ho (by omega) h1 h2 ?_
      simp only [sv,Value.slice.injEq,Option.some.injEq,Addr.mk.injEq] at hs
      exact hs.1.1
theorem bagK_shut1 {k:Nat} {e:TypeId} {m:KV} {y:RK k} {l:List Slot} {R:HP} {w:World} (ho:Own (ofList (bagK k e m::sk e y.1::l)) R w): ∃m',Own (ofList (bagK k e m' ::l)) R w/\(∀v q,InBag m v q->InBag m' v q)/\((∀e∈m,e.1≠sv .nil)->InBag m' (sv y.1) (vals y.1)):=by
  by_cases hy:y.1= .nil
  · rw [hy] at ho ⊢
    refine ⟨m,?_,fun _ _ h=>h,fun ok=>InBag.nil ok⟩
    have h1:=Imp.swap [bagK k e m] (sk e .nil::l) R w ho
    have h2:Own (ofList (l++ [bagK k e m])) R w:=Imp.drop _ [_] R w (Imp.swap [sk e .nil] (l++ [bagK k e m]) R w h1)
    exact Imp.swap l [bagK k e m] R w h2
  · obtain ⟨⟨rs,hm,hM,hn⟩,ho1⟩:=bun_open ho
    have hne:=ownK_rows_ne ho1 hy
    have hnone:mget m (sv y.1)=none:=mget_none.2 fun q hq=>by
      rw [←hm] at hq
      obtain ⟨r0,hr0,rfl⟩:=List.mem_map.1 hq
      obtain ⟨r,hr,rfl⟩:=List.mem_map.1 hr0
      exact hne r hr
    refine ⟨m++ [rowE y.1],?_,fun v q h=>h.add hy hnone,fun ok=>InBag.new ok hy hnone⟩
    have hp:(rs.map (fun r=>sk e r.1)++sk e y.1::l).Perm ((rs++ [y]).map (fun r=>sk e r.1)++l):=by simp
    refine bun_shut (F:=fun rs:KBg k (m++ [rowE y.1])=>rs.val.map (fun r=>sk e r.1)) ⟨rs++ [y],?_,?_,?_⟩ l R w (own_perm hp R w ho1)
    · rw [←hm];unfold bagKV;simp
    · have h3:=hM.set (sv y.1) (.agg (vals y.1).toArray)
      unfold mset at h3
      rw [if_neg (by rw [hnone];simp)] at h3
      exact h3
    · intro r hr
      rcases List.mem_append.1 hr with q | q
      · exact hn r q
      · simp at q;subst q;exact hy
abbrev Slc:=Option Addr×Nat×Nat
abbrev slV (x:Slc):Value:= .slice x.1 x.2.1 x.2.2
theorem sv_slc (r:Row): ∃x:Slc,sv r=slV x:=by
  cases r with
  | nil=>exact ⟨(none,0,0),rfl⟩
  | mk b vs ex=>exact ⟨(some ⟨b,0,none⟩,vs.length,vs.length+ex.length),rfl⟩
theorem bagK_new {P:Program} {f:FuncId} {args:Array Value} {k:Nat} {e:TypeId} {m:KV} {v:Value} {l:List Value} {g:Value->Value} {Ψ:List Value->Prop} (en:EnterOK P f) (hr:InBag m v l)
    (h: ∀r:RK k,sv r.1=v->vals r.1=l->CallT P f args [sk e r.1] (RK k) (fun x=>g (sv x.1)) (fun x=> [sk e r.1,sk e x.1]) (fun x=>Ψ (vals x.1))):
    CallT P f args [bagK k e m] (KV×Slc) (fun x=>g (slV x.2)) (fun x=> [bagK k e x.1]) (fun x=> ∃q,Ψ q/\InBag x.1 (slV x.2) q/\ ∀v' k',InBag m v' k' ->InBag x.1 v' k'):=by
  have h1:=bagK_read (us:=fun x:RK k=> [sk e x.1]) en hr h
  refine h1.imp (fun R w ho=>ho) ?_
  intro y R w hx ho
  obtain ⟨m',h3,h4,h5⟩:=bagK_shut1 (l:= []) ho
  obtain ⟨x,e⟩:=sv_slc y.1
  exact ⟨(m',x),⟨vals y.1,hx,e▸h5 hr.ok,h4⟩,by rw [e],h3⟩
theorem bagK_nil {k:Nat} {e:TypeId} {l:List Slot}:Imp l (bagK k e []::l):=fun R w ho=>
  bun_shut (E:=KBg k []) (ns:= []) (d:= .kv []) (F:=fun rs:KBg k []=>rs.val.map (fun r:RK k=>sk e r.1)) (⟨[],rfl,MOK.nil,fun _ h=>by cases h⟩:KBg k []) l R w ho
theorem undo_eqM {a b:KV} (e:Ent) (h:EqM a b) (ha:MOK a) (hb:MOK b):EqM (e.undo a) (e.undo b):=fun k=>by rw [mget_undo ha,mget_undo hb,h k]
theorem undoB_eqM (b:Nat): ∀ (E:List Ent) {x y:KV},EqM x y->MOK x->MOK y->EqM (undoB b E x) (undoB b E y)/\MOK (undoB b E x)/\MOK (undoB b E y)
  | [],x,y,h,hx,hy=>⟨h,hx,hy⟩
  | e :: E, x, y, h, hx, hy => by
    obtain ⟨h1,h2,h3⟩:=undoB_eqM b E h hx hy
    show EqM (if b=e.b then e.undo (undoB b E x) else undoB b E x) (if b=e.b then e.undo (undoB b E y) else undoB b E y)/\MOK (if b=e.b then e.undo (undoB b E x) else undoB b E x)/\MOK (if b=e.b then e.undo (undoB b E y) else undoB b E y)
    by_cases q:b=e.b
    · rw [if_pos q,if_pos q];exact ⟨undo_eqM e h1 h2 h3,undo_mok h2,undo_mok h3⟩
    · rw [if_neg q,if_neg q];exact ⟨h1,h2,h3⟩
theorem undoB_app (b:Nat) (E F:List Ent) (m:KV):undoB b (E++F) m=undoB b E (undoB b F m):=by unfold undoB;rw [List.foldr_append]
structure Hist (b:Nat) (hs:List KV) (L:List Ent) (m:KV):Prop where
  len:hs.length=L.length
  und: ∀n h0,(hs++ [m])[n]? =some h0->Und b h0 m (L.drop n)
  ok:MOK m
theorem Hist.start (b:Nat) {m:KV} (h:MOK m):Hist b [] [] m:=⟨rfl,fun n h0 hn=>by
  cases n with
  | zero=>simp at hn;subst hn;exact Und.nil b _
  | succ n=>simp at hn,h⟩
theorem Hist.push {b:Nat} {hs:List KV} {L:List Ent} {m m' :KV} (h:Hist b hs L m) {e:Ent} (hm:MOK m') (hu: ∀h0 E,Und b h0 m E->Und b h0 m' (E++ [e])):Hist b (hs++ [m]) (L++ [e]) m' :=by
  refine ⟨by simp [h.len],fun n h0 hn=> ?_,hm⟩
  rcases Nat.lt_or_ge n (L.length+1) with q | q
  · rw [List.getElem?_append_left (by simp [h.len];omega)] at hn
    rw [List.drop_append_of_le_length (by omega)]
    exact hu _ _ (h.und n h0 hn)
  · have e1:n=(hs++ [m]).length:=by
      have:=(List.getElem?_eq_some_iff.1 hn).1
      simp [h.len] at this ⊢;omega
    subst e1
    rw [List.getElem?_append_right (Nat.le_refl _)] at hn
    simp at hn;subst hn
    rw [List.drop_eq_nil_of_le (by simp [h.len])]
    exact Und.nil b _
theorem Hist.back {b:Nat} {hs:List KV} {L:List Ent} {m:KV} (h:Hist b hs L m) {n:Nat} {h0:KV} (hn:n<=L.length) (h1:(hs++ [m])[n]? =some h0):Hist b (hs.take n) (L.take n) (undoB b (L.drop n) m)/\EqM (undoB b (L.drop n) m) h0:=by
  obtain ⟨a1,a2⟩:=h.und n h0 h1 m h.ok (EqM.refl m)
  refine ⟨⟨by simp [h.len],fun j hj hjn=> ?_,a1⟩,a2⟩
  have hl:=h.len
  have hjl:j<(hs.take n).length+1:=by
    have:=(List.getElem?_eq_some_iff.1 hjn).1
    simpa using this
  rw [List.length_take] at hjl
  rcases Nat.lt_or_ge j n with q | q
  · rw [List.getElem?_append_left (by rw [List.length_take];omega),List.getElem?_take_of_lt q] at hjn
    have hj0:(hs++ [m])[j]? =some hj:=by rw [List.getElem?_append_left (by omega)];exact hjn
    have u:=h.und j hj hj0
    have e1:L.drop j=(L.take n).drop j++L.drop n:=by
      conv=>lhs;rw [←List.take_append_drop n L]
      rw [List.drop_append_of_le_length (by rw [List.length_take];omega)]
    intro m2 hm2 e2
    obtain ⟨b1,b2⟩:=u m h.ok (EqM.refl m)
    rw [e1,undoB_app] at b1 b2
    obtain ⟨c1,c2,_⟩:=undoB_eqM b ((L.take n).drop j) e2 hm2 a1
    exact ⟨c2,c1.trans b2⟩
  · have ej:j=(hs.take n).length:=by rw [List.length_take];omega
    rw [ej,List.getElem?_append_right (Nat.le_refl _)] at hjn
    simp at hjn;subst hjn
    have e3:(L.take n).drop j= []:=List.drop_eq_nil_of_le (by rw [List.length_take];omega)
    rw [e3]
    exact Und.nil b _
end Go.Sx
set_option linter.unusedVariables false
set_option linter.unusedSimpArgs false
namespace Go.Sx
open Go.RowKit
abbrev PL:=List (Int×Int)
def pvs (l:PL):List Value:=l.map p2V
def setS (k v:Int) (s:PL×Bool) (p:Int×Int):PL×Bool:=
  if s.2=false/\k<=p.1 then (if p.1=k then (s.1++ [(k,v)],true) else (s.1++ [(k,v)]++ [p],true)) else (if p.1=k then s else (s.1++ [p],s.2))
def finS (k v:Int) (s:PL×Bool):PL:=if s.2 then s.1 else s.1++ [(k,v)]
def pSet (l:PL) (k v:Int):PL:=finS k v (l.foldl (setS k v) ([],false))
def setA (k v:Int) (p:PL):PL×Bool:=if p.any (fun x=>decide (k<=x.1)) then (p.filter (fun x=>decide (x.1<k))++(k,v)::p.filter (fun x=>decide (k<x.1)),true) else (p,false)
theorem fold_set {k v : Int} {l : PL} (h : l.Pairwise fun a b => a.1 < b.1) : ∀ n, n <= l.length -> (l.take n).foldl (setS k v) ([], false) = setA k v (l.take n)
  | 0,_=>by simp [setA]
  | n + 1, hn => by
    have hlt:n<l.length:=hn
    have hs:(l.take n++ [l[n]]).Pairwise fun a b=>a.1<b.1:=by
      rw [←List.take_succ_eq_append_getElem hlt];exact h.sublist (List.take_sublist _ _)
    have hm: ∀y∈l.take n,y.1<l[n].1:=fun y hy=>(List.pairwise_append.1 hs).2.2 y hy _ (by simp)
    rw [List.take_succ_eq_append_getElem hlt,List.foldl_append,fold_set h n (by omega)]
    simp only [List.foldl_cons,List.foldl_nil]
    generalize l[n]=x at *
    generalize l.take n=p at *
    unfold setA
    by_cases ha:p.any (fun x=>decide (k<=x.1))=true
    · obtain ⟨y,hy,hy2⟩:=List.any_eq_true.1 ha
      have h0:=of_decide_eq_true hy2
      have h3:=hm y hy
      have h1:k<x.1:=by omega
      rw [if_pos ha,if_pos (by simp only [List.any_append,ha,Bool.true_or])]
      unfold setS
      rw [if_neg (by simp),if_neg (by omega)]
      simp [List.filter_append,h1,show ¬x.1<k by omega]
    · have hall: ∀y∈p,y.1<k:=fun y hy=>by
        have: ¬k<=y.1:=fun q=>ha (List.any_eq_true.2 ⟨y,hy,decide_eq_true q⟩)
        omega
      have f1:p.filter (fun x=>decide (x.1<k))=p:=List.filter_eq_self.2 fun y hy=>decide_eq_true (hall y hy)
      have f2:p.filter (fun x=>decide (k<x.1))= []:=List.filter_eq_nil_iff.2 fun y hy=>by have:=hall y hy;simp;omega
      rw [if_neg ha]
      unfold setS
      by_cases hx:k<=x.1
      · have hany:((p++ [x]).any fun x=>decide (k<=x.1))=true:=by simp [List.any_append,hx]
        rw [if_pos hany,if_pos ⟨rfl,hx⟩]
        by_cases he:x.1=k
        · rw [if_pos he]
          simp [List.filter_append,f1,f2,show ¬x.1<k by omega,show ¬k<x.1 by omega]
        · rw [if_neg he]
          simp [List.filter_append,f1,f2,show ¬x.1<k by omega,show k<x.1 by omega]
      · rw [if_neg (by simp [hx]),if_neg (by omega),if_neg (by simp only [List.any_append,List.any_cons,List.any_nil,Bool.or_false,Bool.or_eq_true,not_or];exact ⟨ha,by simp;omega⟩)]
theorem pSet_eq {k v:Int} {l:PL} (h:l.Pairwise fun a b=>a.1<b.1):pSet l k v=l.filter (fun x=>decide (x.1<k))++(k,v)::l.filter (fun x=>decide (k<x.1)):=by
  have:=fold_set (k:=k) (v:=v) h l.length (Nat.le_refl _)
  rw [List.take_length] at this
  unfold pSet
  rw [this]
  unfold setA
  by_cases ha:l.any (fun x=>decide (k<=x.1))=true
  · rw [if_pos ha];rfl
  · have hall: ∀y∈l,y.1<k:=fun y hy=>by
      have: ¬k<=y.1:=fun q=>ha (List.any_eq_true.2 ⟨y,hy,decide_eq_true q⟩)
      omega
    rw [if_neg ha,List.filter_eq_self.2 fun y hy=>decide_eq_true (hall y hy),List.filter_eq_nil_iff.2 fun y hy=>by have:=hall y hy;simp;omega]
    rfl
def pDrop (l:PL) (k:Int):PL:=l.filter fun p=>decide (p.1≠k)
def pGet (l:PL) (k:Int):Int×Bool:=match l.find? fun p=>decide (p.1=k) with | some p=>(p.2,true) | none=>(0,false)
theorem pGet_none {l:PL} {k:Int} (h: ∀p∈l,p.1≠k):pGet l k=(0,false):=by
  unfold pGet
  rw [List.find?_eq_none.2 fun p hp=>by simp [h p hp]]
structure DocP (K:MK) (l:PL) (m:KV):Prop where
  ok:KOK K m
  r:l.Pairwise fun a b=>a.1<b.1
  at_: ∀k v:Int,(k,v)∈l↔mget m (iv k)=some (iv v)
theorem DocP.nil {K:MK}:DocP K [] []:=⟨KOK.nil,List.Pairwise.nil,fun k v=>by rw [mget_nil];simp⟩
theorem DocP.eqm {K:MK} {l:PL} {m n:KV} (h:DocP K l m) (hn:KOK K n) (e:EqM n m):DocP K l n:=⟨hn,h.r,fun k v=>by rw [h.at_,e]⟩
theorem DocP.set {K : MK} (I : IntK K) {l : PL} {m : KV} (h : DocP K l m) (k v : Int) (hv : (Lit.int .i64 v).wf = true) : DocP K (pSet l k v) (mset m (iv k) (iv v)) := by
  refine ⟨h.ok.set (I.k k) (I.v v hv),?_,fun k' v' => ?_⟩
  · rw [pSet_eq h.r,List.pairwise_append,List.pairwise_cons]
    refine ⟨h.r.filter _,⟨fun b hb=>of_decide_eq_true (List.mem_filter.1 hb).2,h.r.filter _⟩,fun a ha b hb=> ?_⟩
    have h1:=of_decide_eq_true (List.mem_filter.1 ha).2
    rcases List.mem_cons.1 hb with e | hb
    · subst e;exact h1
    · have h2:=of_decide_eq_true (List.mem_filter.1 hb).2;omega
  · rw [pSet_eq h.r, mget_set, List.mem_append, List.mem_cons, List.mem_filter, List.mem_filter]
    simp only [decide_eq_true_eq,Prod.mk.injEq]
    by_cases e:k' =k
    · subst e
      rw [if_pos rfl]
      constructor
      · rintro (q | q | q)
        · omega
        · rw [q.2]
        · omega
      · intro q
        injection q with q
        injection q with _ q
        exact .inr (.inl ⟨rfl,q.symm⟩)
    · rw [if_neg (fun q=>e (by injection q)),←h.at_]
      constructor
      · rintro (q | q | q)
        · exact q.1
        · exact absurd q.1 e
        · exact q.1
      · intro q
        rcases Int.lt_or_gt_of_ne e with r | r
        · exact .inl ⟨q,r⟩
        · exact .inr (.inr ⟨q,r⟩)
theorem DocP.drop {K:MK} {l:PL} {m:KV} (h:DocP K l m) (k:Int):DocP K (pDrop l k) (mdel m (iv k)):=by
  refine ⟨h.ok.del _,h.r.filter _,fun k' v' => ?_⟩
  unfold pDrop
  rw [mget_del h.ok.once,List.mem_filter]
  by_cases e:k' =k
  · subst e;rw [if_pos rfl];simp
  · rw [if_neg (fun q=>e (by injection q)),←h.at_];simp [e]
theorem DocP.some {K:MK} (I:IntK K) {l:PL} {m:KV} (h:DocP K l m) (k:Int):(mget m (iv k)).isSome=true↔ ∃p∈l,p.1=k:=by
  constructor
  · intro q
    obtain ⟨x,hx⟩:=Option.isSome_iff_exists.1 q
    obtain ⟨v,_,rfl⟩:=I.v' x (h.ok.val hx)
    exact ⟨(k,v),(h.at_ k v).2 hx,rfl⟩
  · rintro ⟨p,hp,rfl⟩
    rw [(h.at_ p.1 p.2).1 hp];rfl
theorem DocP.get {K:MK} (I:IntK K) {l:PL} {m:KV} (h:DocP K l m) (k:Int):pGet l k=(ci ((mget m (iv k)).getD (iv 0)),(mget m (iv k)).isSome):=by
  cases hg:mget m (iv k) with
  | none =>
    refine pGet_none fun p hp e=> ?_
    subst e
    rw [(h.at_ p.1 p.2).1 hp] at hg;cases hg
  | some x =>
    obtain ⟨v,_,rfl⟩:=I.v' x (h.ok.val hg)
    have hm:=(h.at_ k v).2 hg
    unfold pGet
    cases hf:l.find? fun p=>decide (p.1=k) with
    | none=>have:=List.find?_eq_none.1 hf _ hm;simp at this
    | some p =>
      have h1:p.1=k:=by have:=List.find?_some hf;simpa using this
      have h2:=(h.at_ p.1 p.2).1 (List.mem_of_find?_eq_some hf)
      rw [h1,hg] at h2
      injection h2 with h2
      injection h2 with _ h2
      rw [h2];rfl
theorem pl_unique : ∀ {l l' : PL}, l.Pairwise (fun a b => a.1 < b.1) -> l'.Pairwise (fun a b => a.1 < b.1) -> (∀ p, p ∈ l ↔ p ∈ l') -> l = l'
  | [],[],_,_,_=>rfl
  | [],b::l',_,_,h=>absurd ((h b).2 (List.mem_cons_self ..)) (by simp)
  | a::l,[],_,_,h=>absurd ((h a).1 (List.mem_cons_self ..)) (by simp)
  | a :: l, b :: l', h1, h2, h => by
    rw [List.pairwise_cons] at h1 h2
    have e:a=b:=by
      rcases List.mem_cons.1 ((h a).1 (List.mem_cons_self ..)) with e | hm
      · exact e
      · rcases List.mem_cons.1 ((h b).2 (List.mem_cons_self ..)) with e | hm'
        · exact e.symm
        · have:=h2.1 _ hm;have:=h1.1 _ hm';omega
    subst e
    rw [pl_unique h1.2 h2.2 fun v=> ?_]
    constructor
    · intro hv
      rcases List.mem_cons.1 ((h v).1 (List.mem_cons_of_mem _ hv)) with e | hm
      · subst e;exact absurd (h1.1 _ hv) (Int.lt_irrefl _)
      · exact hm
    · intro hv
      rcases List.mem_cons.1 ((h v).2 (List.mem_cons_of_mem _ hv)) with e | hm
      · subst e;exact absurd (h2.1 _ hv) (Int.lt_irrefl _)
      · exact hm
theorem DocP.pairs {K : MK} (I : IntK K) {l : PL} {m : KV} (h : DocP K l m) {ks : List Value} (hk : KeysOf .i64 m ks) : pairsOf (iv 0) m ks = pvs l /\ ks = l.map fun p => iv p.1 := by
  have e:(ks.map fun k=>(ci k,ci ((mget m k).getD (iv 0))))=l:=by
    refine pl_unique ?_ h.r fun p=> ?_
    · rw [List.pairwise_map];exact hk.2.1
    · rw [List.mem_map]
      constructor
      · rintro ⟨k,hkk,rfl⟩
        obtain ⟨n,rfl⟩:=hk.2.2 k hkk
        obtain ⟨e,he,h1⟩:=List.mem_map.1 (hk.1.mem_iff.1 hkk)
        have hg:=mget_of_mem h.ok.once he
        rw [h1] at hg
        obtain ⟨v,_,hv⟩:=I.v' _ (h.ok.val hg)
        rw [hg,hv]
        exact (h.at_ n v).2 (by rw [hg,hv])
      · intro hp
        have hg:=(h.at_ p.1 p.2).1 hp
        refine ⟨iv p.1,hk.1.mem_iff.2 (List.mem_map_of_mem (f:=(·.1)) (mget_mem hg)),?_⟩
        rw [hg];rfl
  have hint: ∀k∈ks,(mget m k).getD (iv 0)=iv (ci ((mget m k).getD (iv 0)))/\k=iv (ci k):=by
    intro k hkk
    obtain ⟨n,rfl⟩:=hk.2.2 k hkk
    refine ⟨?_,rfl⟩
    cases hg:mget m (iv n) with
    | none=>rfl
    | some x=>obtain ⟨v,_,rfl⟩:=I.v' x (h.ok.val hg);rfl
  rw [←e]
  unfold pairsOf pvs
  rw [List.map_map,List.map_map]
  refine ⟨List.map_congr_left fun k hkk=> ?_,?_⟩
  · obtain ⟨n,rfl⟩:=hk.2.2 k hkk
    show Value.agg #[iv n,(mget m (iv n)).getD (iv 0)]=Value.agg #[iv n,iv (ci ((mget m (iv n)).getD (iv 0)))]
    rw [←(hint _ hkk).1]
  · conv=>lhs;rw [←List.map_id ks]
    exact List.map_congr_left fun k hkk=>(hint k hkk).2
theorem DocP.len {K:MK} (I:IntK K) {l:PL} {m:KV} (h:DocP K l m):m.length=l.length:=by
  obtain ⟨z,hz⟩:=keysOf_wit (SO1.int I h.ok).1 h.ok.once
  have:=(h.pairs I hz).2
  have h2:=hz.len
  rw [this,List.length_map] at h2
  exact h2.symm
end Go.Sx
set_option linter.unusedVariables false
set_option linter.unusedSimpArgs false
namespace Go.Sx
open Go.RowKit
end Go.Sx
set_option linter.unusedVariables false
namespace Go.Sx
open Go.RowKit
def tvs (l:List TKt):List Value:=l.map tkV
theorem tvs_len (l:List TKt):(tvs l).length=l.length:=by simp [tvs]
def unT9 (v:Value):TKt:=((ci (cell v 0),ci (cell v 1),ci (cell v 2),ci (cell v 3),ci (cell v 4),ci (cell v 5),ci (cell v 6)),ci (cell v 7),ci (cell v 8))
theorem unT9_tkV (t:TKt):unT9 (tkV t)=t:=rfl
theorem tvs_un (l:List TKt):(tvs l).map unT9=l:=by
  unfold tvs;rw [List.map_map];conv=>rhs;rw [←List.map_id l]
  exact List.map_congr_left fun t _=>unT9_tkV t
noncomputable def blt (m:KV) (v:Value):List TKt:=(bget m v).map unT9
theorem InBag.blt {m:KV} {v:Value} {l:List TKt} (h:InBag m v (tvs l)):Sx.blt m v=l:=by unfold Sx.blt;rw [h.get,tvs_un]
theorem tvs_at {l:List TKt} {r:Row} (h:vals r=tvs l) {i:Nat} (hi:i<l.length): ∃x0:TKt,(vals r)[i]? =some (tkV x0):=by
  rw [h];unfold tvs;rw [List.getElem?_map,List.getElem?_eq_getElem hi];exact ⟨_,rfl⟩
theorem tvs_get {l:List TKt} {r:Row} (h:vals r=tvs l) {i:Nat} {x:TKt} (hx:(vals r)[i]? =some (tkV x)):l[i]? =some x:=by
  rw [h] at hx;unfold tvs at hx;rw [List.getElem?_map] at hx
  cases hl:l[i]? with
  | none=>rw [hl] at hx;cases hx
  | some y =>
    rw [hl] at hx
    have:tkV y=tkV x:=by simpa using hx
    rw [tkV_inj this]
theorem not_takeT {l:List TKt} {k:IX} {j:Nat} {x:TKt} (h: ∀p∈l.take j,p.1≠k) (hx:l[j]? =some x) (he:x.1≠k): ∀p∈l.take (j+1),p.1≠k:=by
  intro p hp
  have hlt:=(List.getElem?_eq_some_iff.1 hx).1
  rw [List.take_succ_eq_append_getElem hlt] at hp
  rcases List.mem_append.1 hp with q | q
  · exact h p q
  · rw [List.mem_singleton.1 q]
    rw [List.getElem?_eq_getElem hlt] at hx
    rw [Option.some.inj hx];exact he
theorem fdT_some {l:List TKt} {k:IX} {j:Nat} {x:TKt} (h: ∀p∈l.take j,p.1≠k) (hx:l[j]? =some x) (he:x.1=k):fdT l k=x.2:=by
  have hlt:=(List.getElem?_eq_some_iff.1 hx).1
  rw [List.getElem?_eq_getElem hlt] at hx
  have e:l=l.take j++x::l.drop (j+1):=by
    rw [←Option.some.inj hx,←List.drop_eq_getElem_cons hlt,List.take_append_drop]
  have hf:l.find? (fun t=>decide (t.1=k))=some x:=by
    rw [e,List.find?_append]
    have h1:(l.take j).find? (fun t=>decide (t.1=k))=none:=List.find?_eq_none.2 fun p hp=>by simpa using h p hp
    rw [h1];simp [he]
  unfold fdT;rw [hf]
theorem fdT_none {l:List TKt} {k:IX} (h: ∀p∈l,p.1≠k):fdT l k=(k.2.2.1,0):=by
  have hf:l.find? (fun t=>decide (t.1=k))=none:=List.find?_eq_none.2 fun p hp=>by simpa using h p hp
  unfold fdT;rw [hf]
def filT (l:List TKt) (k:IX):List TKt:=l.filter (fun t=> !decide (t.1=k))
theorem filT_len (l:List TKt) (k:IX):(filT l k).length<=l.length:=List.length_filter_le _ _
theorem filT_ne {l:List TKt} {k:IX} {j:Nat} {x:TKt} (hx:l[j]? =some x) (he:x.1≠k):tvs (filT (l.take (j+1)) k)=tvs (filT (l.take j) k)++ [tkV x]:=by
  have hlt:=(List.getElem?_eq_some_iff.1 hx).1
  rw [List.getElem?_eq_getElem hlt] at hx
  unfold filT tvs
  rw [List.take_succ_eq_append_getElem hlt,List.filter_append,Option.some.inj hx]
  simp [he]
theorem filT_eq {l:List TKt} {k:IX} {j:Nat} {x:TKt} (hx:l[j]? =some x) (he:x.1=k):tvs (filT (l.take (j+1)) k)=tvs (filT (l.take j) k):=by
  have hlt:=(List.getElem?_eq_some_iff.1 hx).1
  rw [List.getElem?_eq_getElem hlt] at hx
  unfold filT tvs
  rw [List.take_succ_eq_append_getElem hlt,List.filter_append,Option.some.inj hx]
  simp [he]
theorem putT_vs (l:List TKt) (k:IX) (v:Int×Int):tvs (putT l k v)=tvs (filT l k)++ [tkV (k,v)]:=by unfold putT filT tvs;simp
def NewT (bm:KV) (l:List TKt) (x:KV×Slc):Prop:=InBag x.1 (slV x.2) (tvs l)/\ ∀v' k',InBag bm v' k' ->InBag x.1 v' k'
theorem newT_of {bm:KV} {l:List TKt} {x:KV×Slc} (h: ∃q,q=tvs l/\InBag x.1 (slV x.2) q/\ ∀v' k',InBag bm v' k' ->InBag x.1 v' k'):NewT bm l x:=by
  obtain ⟨q,rfl,h1,h2⟩:=h;exact ⟨h1,h2⟩
theorem newT_wit {bm:KV} {v:Value} {l k:List TKt} (h:InBag bm v (tvs k)): ∃x,NewT bm l x:=by
  obtain ⟨B,hB⟩:=fresh_blk bm
  have hn:mget bm (sv (.mk B (tvs l) []))=none:=mget_none.2 fun e he q=>by
    have:=hB e he _ _ _ q
    exact absurd this (Nat.lt_irrefl _)
  exact ⟨(bm++ [rowE (.mk B (tvs l) [])],(some ⟨B,0,none⟩,(tvs l).length,(tvs l).length+0)),InBag.new h.ok (by simp) hn,fun v' k' q=>q.add (by simp) hn⟩
theorem newT_old {bm:KV} {v:Value} {l:List TKt} (h:InBag bm v (tvs l)): ∃x:Slc,v=slV x/\NewT bm l (bm,x):=by
  obtain ⟨r,e,_⟩:=h.row
  obtain ⟨x,hx⟩:=sv_slc r
  have e2:v=slV x:=e.trans hx
  exact ⟨x,e2,e2▸h,fun _ _ q=>q⟩
end Go.Sx
namespace Go.Sx
open Go.RowKit
structure TTI (K:MK) (m:KV) (L:List Ent) (ids:Nat->Nat->Int) (i:Nat):Prop where
  kok:KOK K m
  inr: ∀e∈m,∃j,j<i/\ ∃o s:Int,e=(hV (ids j),tV (o,s))/\(0<=o/\o<256)/\0<=s/\s<256
  ml:m.length<=2*i
  ll:L.length<=2*i
theorem TTI.nil {K:MK} {ids:Nat->Nat->Int}:TTI K [] [] ids 0:=⟨KOK.nil,fun e h=>(by cases h),Nat.zero_le _,Nat.zero_le _⟩
theorem tkF_in {m:KV} {ids:Nat->Nat->Int} {i:Nat} (hi: ∀e∈m,∃j,j<i/\ ∃o s:Int,e=(hV (ids j),tV (o,s))/\(0<=o/\o<256)/\0<=s/\s<256) (k:Value) {xo:Int} (ho:0<=xo/\xo<256):
    (0<=(tkF m k xo).1/\(tkF m k xo).1<256)/\0<=(tkF m k xo).2/\(tkF m k xo).2<256:=by
  unfold tkF
  cases hg:mget m k with
  | none=>exact ⟨ho,Int.le_refl _,by show (0:Int)<256;decide⟩
  | some v =>
    obtain ⟨j,_,o,s,e,h1,h2⟩:=hi _ (mget_mem hg)
    have e2:v=tV (o,s):=congrArg Prod.snd e
    rw [e2];exact ⟨h1,h2⟩
theorem setIf_in {K:MK} {m:KV} (hk:KOK K m) {ids:Nat->Nat->Int} {i:Nat} (hi: ∀e∈m,∃j,j<i+1/\ ∃o s:Int,e=(hV (ids j),tV (o,s))/\(0<=o/\o<256)/\0<=s/\s<256) (ok: ∀f:Nat->Int,K.OkK (hV f)) (ov: ∀x:Int×Int,K.OkV (tV x)) (c:Int) {o s:Int} (ho:0<=o/\o<256) (hs:0<=s/\s<256):
    KOK K (setIf c m (hV (ids i)) (tV (o,s)))/\(∀e∈setIf c m (hV (ids i)) (tV (o,s)),∃j,j<i+1/\ ∃o s:Int,e=(hV (ids j),tV (o,s))/\(0<=o/\o<256)/\0<=s/\s<256)/\(setIf c m (hV (ids i)) (tV (o,s))).length<=m.length+1:=by
  unfold setIf
  cases c==0
  · exact ⟨hk,hi,Nat.le_succ _⟩
  · refine ⟨hk.set (ok _) (ov _),fun e he=> ?_,mset_len _ _ _⟩
    rcases mem_set he with rfl | he
    · exact ⟨i,Nat.lt_succ_self _,o,s,rfl,ho,hs⟩
    · exact hi e he
theorem TTI.step {K:MK} {m:KV} {L:List Ent} {ids:Nat->Nat->Int} {i:Nat} (h:TTI K m L ids i) (ok: ∀f:Nat->Int,K.OkK (hV f)) (ov: ∀x:Int×Int,K.OkV (tV x)) {c c2 to how xo:Int} {k:Value} (hk:k=hV (ids i))
    (hto:0<=to/\to<256) (hhow:0<=how/\how<256) (hxo:0<=xo/\xo<256) {m1 m2:KV} {e1 e2:Ent} (h1:m1=setIf c m k (tV (to,(tkF m k xo).2))) (h2:m2=setIf c2 m1 k (tV ((tkF m1 k xo).1,how))):
    TTI K m2 (addIf c2 (addIf c L e1) e2) ids (i+1):=by
  subst hk
  have hin: ∀e∈m,∃j,j<i+1/\ ∃o s:Int,e=(hV (ids j),tV (o,s))/\(0<=o/\o<256)/\0<=s/\s<256:=fun e he=>by
    obtain ⟨j,hj,q⟩:=h.inr e he;exact ⟨j,by omega,q⟩
  obtain ⟨a1,a2,a3⟩:=setIf_in h.kok hin ok ov c (o:=to) (s:=(tkF m (hV (ids i)) xo).2) hto (tkF_in hin _ hxo).2
  rw [←h1] at a1 a2 a3
  obtain ⟨b1,b2,b3⟩:=setIf_in a1 a2 ok ov c2 (o:=(tkF m1 (hV (ids i)) xo).1) (s:=how) (tkF_in a2 _ hxo).1 hhow
  rw [←h2] at b1 b2 b3
  have q1:=addIf_len (c:=c) (L:=L) (e:=e1)
  have q2:=addIf_len (c:=c2) (L:=addIf c L e1) (e:=e2)
  have:=h.ml;have:=h.ll
  exact ⟨b1,b2,by omega,by omega⟩
theorem TTI.keys {K:MK} {m:KV} {L:List Ent} {ids:Nat->Nat->Int} {i:Nat} (h:TTI K m L ids i):KeysH m:=by
  refine ⟨fun v hv=> ?_,h.kok.once⟩
  obtain ⟨e,he,rfl⟩:=List.mem_map.1 hv
  obtain ⟨j,_,o,s,rfl,_⟩:=h.inr e he
  exact ⟨_,rfl⟩
end Go.Sx
set_option linter.unusedVariables false
namespace Go.Sx
open Go.RowKit
theorem xlenVT {P:Program} {t e:TypeId} {k:Nat} {z:Value} (h:SkT P t e k z) (ty:TypeId) {m:KV} {v:Value} {l:List Value} (hb:InBag m v l):PureRun P (do pure (.value (←Builtin.len_ #[t] ty #[v]))) (.int .i64 ((vlen v:Nat):Int)):=by
  obtain ⟨r,rfl,_⟩:=hb.row
  exact xlenK h ty r
def ivs (l:List IX):List Value:=l.map xV
theorem ivs_len (l:List IX):(ivs l).length=l.length:=by simp [ivs]
theorem ivs_at {l:List IX} {r:Row} (h:vals r=ivs l) {i:Nat} (hi:i<l.length): ∃x0:IX,(vals r)[i]? =some (xV x0):=by
  rw [h];unfold ivs;rw [List.getElem?_map,List.getElem?_eq_getElem hi];exact ⟨_,rfl⟩
theorem ivs_get {l:List IX} {r:Row} (h:vals r=ivs l) {i:Nat} {x:IX} (hx:(vals r)[i]? =some (xV x)):l[i]? =some x:=by
  rw [h] at hx;unfold ivs at hx;rw [List.getElem?_map] at hx
  cases hl:l[i]? with
  | none=>rw [hl] at hx;cases hx
  | some y =>
    rw [hl] at hx
    have:xV y=xV x:=by simpa using hx
    rw [xV_inj this]
def okIX (x:IX):Prop:=W x.2.2.2.1/\W x.2.2.2.2.1/\W x.2.2.2.2.2.1/\W x.2.2.2.2.2.2
structure CJ (K:MK) (l:List IX) (j:Nat) (m:KV):Prop where
  le:j<=l.length
  kok:KOK K m
  get: ∀i z,i<j->l[i]? =some z->mget m (kX z)=some (xV z)
theorem CJ.start {K:MK} {l:List IX}:CJ K l 0 []:=⟨Nat.zero_le _,KOK.nil,fun i z h=>absurd h (Nat.not_lt_zero _)⟩
theorem CJ.step {K:MK} {l:List IX} {j:Nat} {m:KV} (h:CJ K l j m) (ok: ∀f:Nat->Int,K.OkK (hV f)) (ov: ∀x:IX,K.OkV (xV x)) {x:IX} (hx:l[j]? =some x) {y:IX} (hy:xV y=(mget m (kX x)).getD (xV (0,0,0,0,0,0,0))) (hs:(mget m (kX x)).isSome=true->y=x) {m' :KV} (hm:m' =mset m (kX x) (xV x)):CJ K l (j+1) m' :=by
  subst hm
  have hlt:=(List.getElem?_eq_some_iff.1 hx).1
  refine ⟨hlt,h.kok.set (ok _) (ov _),fun i z hi hz=> ?_⟩
  rw [mget_set]
  by_cases hk:kX z=kX x
  · rw [if_pos hk]
    rcases Nat.lt_or_ge i j with q | q
    · have h1:=h.get i z q hz
      rw [hk] at h1
      rw [h1] at hy hs
      have h2:=hs rfl
      have h3:xV y=xV z:=hy
      rw [←xV_inj h3,h2]
    · have e:i=j:=by omega
      rw [e,hx] at hz
      rw [Option.some.inj hz]
  · rw [if_neg hk]
    rcases Nat.lt_or_ge i j with q | q
    · exact h.get i z q hz
    · have e:i=j:=by omega
      rw [e,hx] at hz
      exact absurd (by rw [Option.some.inj hz]) hk
theorem CJ.fin {K:MK} {l:List IX} {j:Nat} {m:KV} (h:CJ K l j m) (hj:j=l.length):NC l:=by
  intro x hx y hy hk
  obtain ⟨a,ha,e1⟩:=List.mem_iff_getElem.1 hx
  obtain ⟨b,hb,e2⟩:=List.mem_iff_getElem.1 hy
  have h1:=h.get a x (by omega) (by rw [List.getElem?_eq_getElem ha,e1])
  have h2:=h.get b y (by omega) (by rw [List.getElem?_eq_getElem hb,e2])
  rw [hk,h2] at h1
  exact (xV_inj (Option.some.inj h1)).symm
structure TkD (K:MK) (ent:KV->Value->Ent) (al:List IX) (i:Nat) (m:KV) (L:List Ent) (mark:Int) (bm:KV) (vn vk:Value):Prop where
  ex: ∃ (hs:List KV) (ln lk:List TKt) (h0:KV),SB K ent hs L m/\(hs++ [m])[mark.toNat]? =some h0/\(NC al->DT K al ln m/\DT K al lk h0)/\InBag bm vn (tvs ln)/\InBag bm vk (tvs lk)/\ln.length<=i/\lk.length<=i
  m0:0<=mark
  m1:mark<=((L.length:Nat):Int)
  l:L.length<=i
section
variable {K:MK} {ent:KV->Value->Ent} {al:List IX} {i:Nat} {m:KV} {L:List Ent} {mark:Int} {bm:KV} {vn vk:Value}
theorem TkD.start:TkD K ent al 0 [] [] 0 [] (sv .nil) (sv .nil):=
  ⟨⟨[],[],[],[],SB.start,rfl,fun _=>⟨DT.nil,DT.nil⟩,InBag.nil (fun _ h=>by cases h),InBag.nil (fun _ h=>by cases h),Nat.le_refl _,Nat.le_refl _⟩,Int.le_refl _,Int.le_refl _,Nat.le_refl _⟩
theorem TkD.doc (h:TkD K ent al i m L mark bm vn vk):KOK K m/\InBag bm vn (tvs (blt bm vn))/\(blt bm vn).length<=i:=by
  obtain ⟨hs,ln,lk,h0,h1,h2,h3,h4,h5,h6,h7⟩:=h.ex
  rw [h4.blt]
  exact ⟨h1.ok,h4,h6⟩
theorem TkD.find (h:TkD K ent al i m L mark bm vn vk) (hc:NC al) {x:IX} (hx:x∈al):fdT (blt bm vn) x=tkF m (kX x) x.2.2.1:=by
  obtain ⟨hs,ln,lk,h0,h1,h2,h3,h4,h5,h6,h7⟩:=h.ex
  rw [h4.blt]
  exact (h3 hc).1.find hc hx
theorem TkD.len (h:TkD K ent al i m L mark bm vn vk) (hc:NC al):m.length=vlen vn:=by
  obtain ⟨hs,ln,lk,h0,h1,h2,h3,h4,h5,h6,h7⟩:=h.ex
  rw [h4.vlen,tvs_len]
  exact (h3 hc).1.len hc
theorem TkD.jr (h:TkD K ent al i m L mark bm vn vk): ∃hs,Jr K ent hs L m:=by
  obtain ⟨hs,ln,lk,h0,h1,_⟩:=h.ex
  exact ⟨hs,h1.jr⟩
theorem TkD.mark_ (h:TkD K ent al i m L mark bm vn vk) {x:Int} (hx:x=((L.length:Nat):Int)):TkD K ent al (i+1) m L x bm vn vn:=by
  obtain ⟨hs,ln,lk,h0,h1,h2,h3,h4,h5,h6,h7⟩:=h.ex
  have hl:=h1.jr.1
  have:=h.l
  exact ⟨⟨hs,ln,ln,m,h1,by rw [hx,Int.toNat_natCast,←hl];simp,fun q=>⟨(h3 q).1,(h3 q).1⟩,h4,h4,by omega,by omega⟩,by omega,by omega,by omega⟩
theorem TkD.back {b:Nat} (E:EntOK b ent) (h:TkD K ent al i m L mark bm vn vk) {m' :KV} (hu:m' =undoB b (L.drop mark.toNat) m):TkD K ent al (i+1) m' (L.take mark.toNat) mark bm vk vk:=by
  obtain ⟨hs,ln,lk,h0,h1,h2,h3,h4,h5,h6,h7⟩:=h.ex
  have hm1:=h.m1
  have hm0:=h.m0
  have hl:=h1.jr.1
  have:=h.l
  obtain ⟨S5,q5⟩:=h1.back E (n:=mark.toNat) (by omega) h2
  rw [←hu] at S5 q5
  have ht:(hs.take mark.toNat).length=mark.toNat:=by rw [List.length_take];omega
  have ht2:(L.take mark.toNat).length=mark.toNat:=by rw [List.length_take];omega
  have hd:NC al->DT K al lk m' :=fun q=>(h3 q).2.eqm S5.ok q5
  exact ⟨⟨_,lk,lk,m',S5,by rw [List.getElem?_append_right (by omega),ht];simp,fun q=>⟨hd q,hd q⟩,h5,h5,by omega,by omega⟩,hm0,by rw [ht2];omega,by rw [ht2];omega⟩
theorem TkD.act (h:TkD K ent al i m L mark bm vn vk) (ok: ∀f:Nat->Int,K.OkK (hV f)) (ov: ∀x:Int×Int,K.OkV (tV x)) {x:IX} (hx:x∈al) {c c' :Int} {v v' :Int×Int} (hcc:NC al->c=c' /\v=v') {y:KV×Slc} (hy:NewT bm (ifT c' (blt bm vn) x v') y)
    {m' :KV} (hm:m' =setIf c m (kX x) (tV v)) {L' :List Ent} (hL:L' =addIf c L (ent m (kX x))):TkD K ent al (i+1) m' L' mark y.1 (slV y.2) vk:=by
  obtain ⟨hs,ln,lk,h0,h1,h2,h3,h4,h5,h6,h7⟩:=h.ex
  have hm1:=h.m1
  have hm0:=h.m0
  have hl:=h1.jr.1
  have hLi:=h.l
  rw [h4.blt] at hy
  have hlen:=ifT_len (c:=c') (l:=ln) (x:=x) (v:=v')
  have hd:NC al->DT K al (ifT c' ln x v') m' :=fun q=>by
    obtain ⟨e1,e2⟩:=hcc q
    subst e1 e2
    rw [hm]
    exact (h3 q).1.ifP q ok ov hx _ _
  unfold setIf at hm
  unfold addIf at hL
  cases hq:c==0 with
  | false =>
    rw [hq] at hm hL
    have hm' :m' =m:=hm
    have hL' :L' =L:=hL
    subst hm' hL'
    exact ⟨⟨hs,_,lk,h0,h1,h2,fun q=>⟨hd q,(h3 q).2⟩,hy.1,hy.2 _ _ h5,by omega,by omega⟩,hm0,hm1,by omega⟩
  | true =>
    rw [hq] at hm hL
    have hm' :m' =mset m (kX x) (tV v):=hm
    have hL' :L' =L++ [ent m (kX x)]:=hL
    obtain ⟨j,o⟩:=h1.jr.set h1.ok (ok (idF x.1 x.2.1 x.2.2.1 x.2.2.2.1 x.2.2.2.2.1 x.2.2.2.2.2.1 x.2.2.2.2.2.2)) (ov v)
    obtain ⟨z,z1,z2⟩:=h1.zero
    have S2:SB K ent (hs++ [m]) L' m' :=by
      rw [hm',hL']
      exact ⟨j,o,z,by rw [List.getElem?_append_left (by simp)];exact z1,z2⟩
    refine ⟨⟨_,_,lk,h0,S2,by rw [List.getElem?_append_left (by simp;omega)];exact h2,fun q=>⟨hd q,(h3 q).2⟩,hy.1,hy.2 _ _ h5,by omega,by omega⟩,hm0,?_,?_⟩
    · rw [hL',List.length_append,List.length_singleton];omega
    · rw [hL',List.length_append,List.length_singleton];omega
end
end Go.Sx
namespace Go.Sx
open Go.RowKit
def rkX (b:Nat) (x:IX):RK 7:=⟨.mk b [xV x] [],fun v hv=>by
  have h:v=xV x:=by simpa using hv
  rw [h];exact ⟨_,rfl,rfl⟩⟩
def allX (x:IX) (f:Nat->IX) (i:Nat):List IX:=x::(List.range i).map f
theorem allX_len (x:IX) (f:Nat->IX) (i:Nat):(allX x f i).length=i+1:=by simp [allX]
theorem allX_succ (x:IX) (f:Nat->IX) (i:Nat):ivs (allX x f (i+1))=ivs (allX x f i)++ [xV (f i)]:=by simp [allX,ivs,List.range_succ]
theorem allX_mem {x:IX} {f:Nat->IX} {i j:Nat} (h:j<i):f j∈allX x f i:=List.mem_cons_of_mem _ (List.mem_map.2 ⟨j,List.mem_range.2 h,rfl⟩)
theorem allX_ok {x:IX} {f:Nat->IX} {i:Nat} (hx:okIX x) (hf: ∀j,okIX (f j)): ∀y∈allX x f i,okIX y:=by
  intro y hy
  rcases List.mem_cons.1 hy with rfl | hy
  · exact hx
  · obtain ⟨j,_,rfl⟩:=List.mem_map.1 hy
    exact hf j
theorem either {a b:Bool} {p:Prop} (h1:p->a=true) (h2:b=false->p) (ha:a=false):b=true:=by
  cases b with
  | true=>rfl
  | false=>rw [h1 (h2 rfl)] at ha;cases ha
end Go.Sx
set_option linter.unusedVariables false
namespace Go.Sx
open Go.RowKit
abbrev A22:=Int×IX×Int×Int×Int
structure PSt where
  m:KV
  h:List KV
  ln:List TKt
  lk:List TKt
  mrk:Nat
noncomputable def tkX (m:KV) (x:IX):Int×Int:=tkF m (kX x) x.2.2.1
noncomputable def act22 (s:PSt) (x:IX) (c c' :Int) (v v' :Int×Int):PSt:= { s with m:=setIf c s.m (kX x) (tV v),h:=bif c==0 then s.h++ [s.m] else s.h,ln:=ifT c' s.ln x v' }
noncomputable def cdP (x:IX) (how:Int) (t:Int×Int):Int:=pyC (badX x) (how==1 || how==2) t
noncomputable def cdM (x:IX) (fr to:Int) (t:Int×Int):Int:=mvC (badX x) (decide (fr<16) && decide (to<16)) t fr
noncomputable def st2P (s:PSt) (a:A22):PSt:=act22 s a.2.1 (cdP a.2.1 a.2.2.2.2 (tkX s.m a.2.1)) (cdP a.2.1 a.2.2.2.2 (fdT s.ln a.2.1)) ((tkX s.m a.2.1).1,a.2.2.2.2) ((fdT s.ln a.2.1).1,a.2.2.2.2)
noncomputable def st2M (s:PSt) (a:A22):PSt:=act22 s a.2.1 (cdM a.2.1 a.2.2.1 a.2.2.2.1 (tkX s.m a.2.1)) (cdM a.2.1 a.2.2.1 a.2.2.2.1 (fdT s.ln a.2.1)) (a.2.2.2.1,(tkX s.m a.2.1).2) (a.2.2.2.1,(fdT s.ln a.2.1).2)
def st2K (s:PSt):PSt:= { s with mrk:=s.h.length,lk:=s.ln }
def st2B (s:PSt):PSt:= { s with m:=(s.h++ [s.m]).getD s.mrk [],h:=s.h.take s.mrk,ln:=s.lk }
noncomputable def pstep (s:PSt) (a:A22):PSt:=bif Int.tmod a.1 5==2 then st2P s a else bif Int.tmod a.1 5==3 then st2K s else bif Int.tmod a.1 5==4 then st2B s else st2M s a
noncomputable def pans (s:PSt) (a:A22):Bool:=bif Int.tmod a.1 5==2 then cdP a.2.1 a.2.2.2.2 (tkX s.m a.2.1)==cdP a.2.1 a.2.2.2.2 (fdT s.ln a.2.1) else bif Int.tmod a.1 5==3 then true else bif Int.tmod a.1 5==4 then true else cdM a.2.1 a.2.2.1 a.2.2.2.1 (tkX s.m a.2.1)==cdM a.2.1 a.2.2.1 a.2.2.2.1 (fdT s.ln a.2.1)
noncomputable def pall (al:List IX) (s:PSt):Bool:=al.all fun z=>decide (fdT s.ln z=tkX s.m z)
noncomputable def plV (al:List IX):PSt->List A22->Bool
  | _,[]=>true
  | s,a::r=>pans s a && (decide ((pstep s a).m.length=(pstep s a).ln.length) && pall al (pstep s a)) && plV al (pstep s a) r
theorem EqM_len {m n:KV} (e:EqM m n) (hm:MOK m) (hn:MOK n):m.length=n.length:=by
  have hp:(m.map (·.1)).Perm (n.map (·.1)):=by
    refine (List.perm_ext_iff_of_nodup hm hn).2 fun k=> ?_
    have key: ∀ {a b:KV},EqM a b->MOK a->k∈a.map (·.1)->k∈b.map (·.1):=fun {a b} e ha hk=>by
      obtain ⟨x,hx,rfl⟩:=List.mem_map.1 hk
      have h1:=mget_of_mem ha hx
      rw [e] at h1
      exact List.mem_map.2 ⟨_,mget_mem h1,rfl⟩
    exact ⟨key e hm,key (fun k=>(e k).symm) hn⟩
  simpa using hp.length_eq
theorem tkF_eqm {m n:KV} (e:EqM m n) (k:Value) (o:Int):tkF m k o=tkF n k o:=by unfold tkF;rw [e]
structure PSD (K:MK) (all:List IX) (s:PSt):Prop where
  d:DT K all s.ln s.m
  k:s.mrk<=s.h.length/\DT K all s.lk ((s.h++ [s.m]).getD s.mrk [])
theorem PSD.start {K:MK} {all:List IX}:PSD K all ⟨[],[],[],[],0⟩:=⟨DT.nil,Nat.le_refl _,DT.nil⟩
section
variable {K:MK} {all:List IX} {s:PSt} (ok: ∀f:Nat->Int,K.OkK (hV f)) (ov: ∀x:Int×Int,K.OkV (tV x))
include ok ov
theorem PSD.act (h:PSD K all s) (hc:NC all) {x:IX} (hx:x∈all) (c:Int) (v:Int×Int):PSD K all (act22 s x c c v v):=by
  refine ⟨h.d.ifP hc ok ov hx c v,?_⟩
  obtain ⟨h1,h2⟩:=h.k
  unfold act22
  cases hq:c==0 with
  | false =>
    have e:setIf c s.m (kX x) (tV v)=s.m:=by unfold setIf;rw [hq];rfl
    simp only [cond_false]
    rw [e];exact ⟨h1,h2⟩
  | true =>
    simp only [cond_true]
    refine ⟨by simp;omega,?_⟩
    have e2:(s.h++ [s.m]++ [setIf c s.m (kX x) (tV v)]).getD s.mrk []=(s.h++ [s.m]).getD s.mrk []:=by
      rw [List.getD_eq_getElem?_getD,List.getD_eq_getElem?_getD,List.getElem?_append_left (by simp;omega)]
    rw [e2];exact h2
theorem PSD.step (h : PSD K all s) (hc : NC all) {a : A22} (hx : a.2.1 ∈ all) : PSD K all (pstep s a) /\ pans s a = true := by
  have hf:fdT s.ln a.2.1=tkX s.m a.2.1:=h.d.find hc hx
  unfold pstep pans
  cases h2:(Int.tmod a.1 5==2) with
  | true =>
    simp only [cond_true]
    unfold st2P
    rw [hf]
    exact ⟨h.act ok ov hc hx _ _,beq_self_eq_true _⟩
  | false =>
    simp only [cond_false]
    cases h3:(Int.tmod a.1 5==3) with
    | true =>
      simp only [cond_true,and_true]
      refine ⟨h.d,Nat.le_refl _,?_⟩
      have e:(s.h++ [s.m]).getD s.h.length []=s.m:=by rw [List.getD_eq_getElem?_getD,List.getElem?_append_right (Nat.le_refl _)];simp
      show DT K all s.ln ((s.h++ [s.m]).getD s.h.length [])
      rw [e];exact h.d
    | false =>
      simp only [cond_false]
      cases h4:(Int.tmod a.1 5==4) with
      | true =>
        simp only [cond_true,and_true]
        obtain ⟨h1,h2⟩:=h.k
        refine ⟨h2,?_,?_⟩
        · show s.mrk<=(s.h.take s.mrk).length;rw [List.length_take];omega
        · show DT K all s.lk ((s.h.take s.mrk++ [(s.h++ [s.m]).getD s.mrk []]).getD s.mrk [])
          have e:(s.h.take s.mrk++ [(s.h++ [s.m]).getD s.mrk []]).getD s.mrk []=(s.h++ [s.m]).getD s.mrk []:=by
            rw [List.getD_eq_getElem?_getD,List.getElem?_append_right (by rw [List.length_take];omega)]
            have:s.mrk - (s.h.take s.mrk).length=0:=by rw [List.length_take];omega
            rw [this];rfl
          rw [e];exact h2
      | false =>
        simp only [cond_false]
        unfold st2M
        rw [hf]
        exact ⟨h.act ok ov hc hx _ _,beq_self_eq_true _⟩
theorem plV_true (hc:NC all): ∀ (r:List A22) (s:PSt),PSD K all s->(∀a∈r,a.2.1∈all)->plV all s r=true
  | [],s,_,_=>rfl
  | a :: r, s, h, hx => by
    obtain ⟨h1,h2⟩:=h.step ok ov hc (hx a List.mem_cons_self)
    unfold plV
    have e1:decide ((pstep s a).m.length=(pstep s a).ln.length)=true:=decide_eq_true (h1.d.len hc)
    have e2:pall all (pstep s a)=true:=by
      unfold pall
      rw [List.all_eq_true]
      intro z hz
      exact decide_eq_true (h1.d.find hc hz)
    rw [h2,e1,e2,plV_true hc r _ h1 fun b hb=>hx b (List.mem_cons_of_mem _ hb)];rfl
end
end Go.Sx
set_option linter.unusedVariables false
namespace Go.Sx
open Go.RowKit
structure TkE (K:MK) (ent:KV->Value->Ent) (i:Nat) (s:PSt) (m:KV) (L:List Ent) (mark:Int) (bm:KV) (vn vk:Value):Prop where
  ex: ∃hs:List KV,SB K ent hs L m/\hs.length=s.h.length/\(∀ (j:Nat) (a b:KV),(hs++ [m])[j]? =some a->(s.h++ [s.m])[j]? =some b->EqM a b)/\(∀b∈s.h,MOK b)/\MOK s.m
  mq:mark.toNat=s.mrk
  bn:InBag bm vn (tvs s.ln)
  bk:InBag bm vk (tvs s.lk)
  ln:s.ln.length<=i
  lk:s.lk.length<=i
  m0:0<=mark
  m1:mark<=((L.length:Nat):Int)
  l:L.length<=i
def ps0:PSt:=⟨[],[],[],[],0⟩
section
variable {K:MK} {ent:KV->Value->Ent} {i:Nat} {s:PSt} {m:KV} {L:List Ent} {mark:Int} {bm:KV} {vn vk:Value}
theorem TkE.start:TkE K ent 0 ps0 [] [] 0 [] (sv .nil) (sv .nil):=
  ⟨⟨[], SB.start, rfl, fun j a b h1 h2 => by
      have h1' :([[]]:List KV)[j]? =some a:=h1
      have h2' :([[]]:List KV)[j]? =some b:=h2
      rw [h1'] at h2'
      rw [Option.some.inj h2'];exact EqM.refl _,fun _ h=>(by cases h),MOK.nil⟩,rfl,InBag.nil (fun _ h=>by cases h),InBag.nil (fun _ h=>by cases h),Nat.le_refl _,Nat.le_refl _,Int.le_refl _,Int.le_refl _,Nat.le_refl _⟩
theorem TkE.eqm (h:TkE K ent i s m L mark bm vn vk):EqM m s.m:=by
  obtain ⟨hs,h1,h2,h3,h4,h5⟩:=h.ex
  refine h3 hs.length m s.m ?_ ?_
  · rw [List.getElem?_append_right (Nat.le_refl _)];simp
  · rw [h2,List.getElem?_append_right (Nat.le_refl _)];simp
theorem TkE.blt (h:TkE K ent i s m L mark bm vn vk):Sx.blt bm vn=s.ln:=h.bn.blt
theorem TkE.doc (h:TkE K ent i s m L mark bm vn vk):KOK K m/\InBag bm vn (tvs (Sx.blt bm vn))/\(Sx.blt bm vn).length<=i:=by
  obtain ⟨hs,h1,_⟩:=h.ex
  rw [h.blt]
  exact ⟨h1.ok,h.bn,h.ln⟩
theorem TkE.tk (h:TkE K ent i s m L mark bm vn vk) (x:IX):tkF m (kX x) x.2.2.1=tkX s.m x:=tkF_eqm h.eqm _ _
theorem TkE.fd (h:TkE K ent i s m L mark bm vn vk) (x:IX):fdT (Sx.blt bm vn) x=fdT s.ln x:=by rw [h.blt]
theorem TkE.len (h:TkE K ent i s m L mark bm vn vk):m.length=s.m.length:=by
  obtain ⟨hs,h1,h2,h3,h4,h5⟩:=h.ex
  exact EqM_len h.eqm h1.ok.once h5
theorem TkE.vlen (h:TkE K ent i s m L mark bm vn vk):Sx.vlen vn=s.ln.length:=by rw [h.bn.vlen,tvs_len]
theorem TkE.jr (h:TkE K ent i s m L mark bm vn vk): ∃hs,Jr K ent hs L m:=by
  obtain ⟨hs,h1,_⟩:=h.ex
  exact ⟨hs,h1.jr⟩
theorem TkE.mark_ (h:TkE K ent i s m L mark bm vn vk) {x:Int} (hx:x=((L.length:Nat):Int)):TkE K ent (i+1) (st2K s) m L x bm vn vn:=by
  obtain ⟨hs,h1,h2,h3,h4,h5⟩:=h.ex
  have hl:=h1.jr.1
  have:=h.l;have:=h.ln
  exact ⟨⟨hs,h1,h2,h3,h4,h5⟩,by rw [hx,Int.toNat_natCast,←hl];exact h2,h.bn,h.bn,by show s.ln.length<=_;omega,by show s.ln.length<=_;omega,by omega,by omega,by omega⟩
theorem TkE.back {b : Nat} (E : EntOK b ent) (h : TkE K ent i s m L mark bm vn vk) {m' : KV} (hu : m' = undoB b (L.drop mark.toNat) m) : TkE K ent (i + 1) (st2B s) m' (L.take mark.toNat) mark bm vk vk := by
  obtain ⟨hs,h1,h2,h3,h4,h5⟩:=h.ex
  have hm1:=h.m1
  have hm0:=h.m0
  have hl:=h1.jr.1
  have hL:=h.l;have hlk:=h.lk
  have hmk:=h.mq
  have hn:mark.toNat<=hs.length:=by omega
  obtain ⟨h0,e0⟩: ∃h0,(hs++ [m])[mark.toNat]? =some h0:=⟨_,List.getElem?_eq_getElem (by simp;omega)⟩
  obtain ⟨p0,e1⟩: ∃p0,(s.h++ [s.m])[mark.toNat]? =some p0:=⟨_,List.getElem?_eq_getElem (by simp;omega)⟩
  have eg:(s.h++ [s.m]).getD s.mrk []=p0:=by rw [←hmk,List.getD_eq_getElem?_getD,e1];rfl
  obtain ⟨S5,q5⟩:=h1.back E (n:=mark.toNat) (by omega) e0
  rw [←hu] at S5 q5
  have hq:EqM m' p0:=q5.trans (h3 _ _ _ e0 e1)
  have ht:(hs.take mark.toNat).length=mark.toNat:=by rw [List.length_take];omega
  have ht2:(L.take mark.toNat).length=mark.toNat:=by rw [List.length_take];omega
  have ht3:(s.h.take mark.toNat).length=mark.toNat:=by rw [List.length_take];omega
  have hp:MOK p0:=by
    have hmem:=List.mem_of_getElem? e1
    rcases List.mem_append.1 hmem with q | q
    · exact h4 _ q
    · rw [List.mem_singleton.1 q];exact h5
  refine ⟨⟨hs.take mark.toNat,S5,?_,?_,?_,?_⟩,hmk,h.bk,h.bk,by show s.lk.length<=_;omega,by show s.lk.length<=_;omega,hm0,by rw [ht2];omega,by rw [ht2];omega⟩
  · show _=(s.h.take s.mrk).length;rw [←hmk,ht,ht3]
  · intro j a c ha hc
    have hc' :(s.h.take mark.toNat++ [p0])[j]? =some c:=by
      have:(s.h.take s.mrk++ [(s.h++ [s.m]).getD s.mrk []])[j]? =some c:=hc
      rw [eg,←hmk] at this;exact this
    rcases Nat.lt_or_ge j mark.toNat with q | q
    · rw [List.getElem?_append_left (by omega),List.getElem?_take_of_lt q] at ha hc'
      exact h3 j a c (by rw [List.getElem?_append_left (by omega)];exact ha) (by rw [List.getElem?_append_left (by omega)];exact hc')
    · rw [List.getElem?_append_right (by omega)] at ha hc'
      rw [ht] at ha;rw [ht3] at hc'
      cases hj:j - mark.toNat with
      | zero =>
        rw [hj] at ha hc'
        have e2:m' =a:=by simpa using ha
        have e3:p0=c:=by simpa using hc'
        rw [←e2,←e3];exact hq
      | succ n=>rw [hj] at ha;simp at ha
  · intro b' hb'
    exact h4 b' (List.mem_of_mem_take hb')
  · show MOK ((s.h++ [s.m]).getD s.mrk [])
    rw [eg];exact hp
theorem eqm_set {a b:KV} (h:EqM a b) (k v:Value):EqM (mset a k v) (mset b k v):=fun q=>by rw [mget_set,mget_set,h q]
theorem TkE.act (h : TkE K ent i s m L mark bm vn vk) (ok : ∀ f : Nat -> Int, K.OkK (hV f)) (ov : ∀ x : Int × Int, K.OkV (tV x)) {x : IX} {c0 c1 C C' : Int} {v0 v1 V V' : Int × Int} (e1 : C = c0) (e2 : V = v0) (e3 : C' = c1) (e4 : V' = v1) {y : KV × Slc} (hy : NewT bm (ifT C' (Sx.blt bm vn) x V') y)
    {m' :KV} (hm:m' =setIf C m (kX x) (tV V)) {L' :List Ent} (hL:L' =addIf C L (ent m (kX x))):TkE K ent (i+1) (act22 s x c0 c1 v0 v1) m' L' mark y.1 (slV y.2) vk:=by
  subst e1 e2 e3 e4
  obtain ⟨hs,h1,h2,h3,h4,h5⟩:=h.ex
  have hm1:=h.m1
  have hm0:=h.m0
  have hl:=h1.jr.1
  have hLi:=h.l;have hlk:=h.lk;have hln:=h.ln
  have hE:=h.eqm
  rw [h.blt] at hy
  have hlen:=ifT_len (c:=C') (l:=s.ln) (x:=x) (v:=V')
  unfold act22
  cases hq:C==0 with
  | false =>
    have em:setIf C s.m (kX x) (tV V)=s.m:=by unfold setIf;rw [hq];rfl
    have em' :m' =m:=by rw [hm];unfold setIf;rw [hq];rfl
    have eL:L' =L:=by rw [hL];unfold addIf;rw [hq];rfl
    subst em' eL
    exact ⟨⟨hs,h1,h2,by simp only [cond_false];rw [em];exact h3,by simp only [cond_false];exact h4,by show MOK (setIf C s.m (kX x) (tV V));rw [em];exact h5⟩,h.mq,hy.1,hy.2 _ _ h.bk,by show (ifT C' s.ln x V').length<=_;omega,by show s.lk.length<=_;omega,hm0,hm1,by omega⟩
  | true =>
    have em:setIf C s.m (kX x) (tV V)=mset s.m (kX x) (tV V):=by unfold setIf;rw [hq];rfl
    have em' :m' =mset m (kX x) (tV V):=by rw [hm];unfold setIf;rw [hq];rfl
    have eL:L' =L++ [ent m (kX x)]:=by rw [hL];unfold addIf;rw [hq];rfl
    obtain ⟨j,o⟩:=h1.jr.set h1.ok (ok (idF x.1 x.2.1 x.2.2.1 x.2.2.2.1 x.2.2.2.2.1 x.2.2.2.2.2.1 x.2.2.2.2.2.2)) (ov V)
    obtain ⟨z,z1,z2⟩:=h1.zero
    have S2:SB K ent (hs++ [m]) L' m' :=by
      rw [em',eL]
      exact ⟨j,o,z,by rw [List.getElem?_append_left (by simp)];exact z1,z2⟩
    refine ⟨⟨hs++ [m],S2,by simp [h2],?_,?_,?_⟩,h.mq,hy.1,hy.2 _ _ h.bk,by show (ifT C' s.ln x V').length<=_;omega,by show s.lk.length<=_;omega,hm0,by rw [eL,List.length_append,List.length_singleton];omega,by rw [eL,List.length_append,List.length_singleton];omega⟩
    · simp only [cond_true]
      rw [em,em']
      intro n a b ha hb
      rcases Nat.lt_or_ge n (hs++ [m]).length with q | q
      · rw [List.getElem?_append_left q] at ha
        rw [List.getElem?_append_left (by simp at q ⊢;omega)] at hb
        exact h3 n a b ha hb
      · have q2:(s.h++ [s.m]).length<=n:=by simp at q ⊢;omega
        rw [List.getElem?_append_right q] at ha
        rw [List.getElem?_append_right q2] at hb
        have e5:n - (s.h++ [s.m]).length=n - (hs++ [m]).length:=by simp [h2]
        rw [e5] at hb
        cases hj:n - (hs++ [m]).length with
        | zero =>
          rw [hj] at ha hb
          have e2:mset m (kX x) (tV V)=a:=by simpa using ha
          have e3:mset s.m (kX x) (tV V)=b:=by simpa using hb
          rw [←e2,←e3];exact eqm_set hE _ _
        | succ n=>rw [hj] at ha;simp at ha
    · simp only [cond_true]
      intro b hb
      rcases List.mem_append.1 hb with q | q
      · exact h4 b q
      · rw [List.mem_singleton.1 q];exact h5
    · show MOK (setIf C s.m (kX x) (tV V))
      rw [em];exact h5.set _ _
end
section
variable {al:List IX} {s:PSt} {a:A22} {r:List A22}
theorem plV_next (h1:pans s a=true) (h2:(pstep s a).m.length=(pstep s a).ln.length) (h3: ∀z∈al,fdT (pstep s a).ln z=tkX (pstep s a).m z):plV al s (a::r)=plV al (pstep s a) r:=by
  have e:pall al (pstep s a)=true:=by
    unfold pall;rw [List.all_eq_true];exact fun z hz=>decide_eq_true (h3 z hz)
  show (pans s a && (decide ((pstep s a).m.length=(pstep s a).ln.length) && pall al (pstep s a)) && plV al (pstep s a) r)=_
  rw [h1,decide_eq_true h2,e];rfl
theorem plV_f1 (h1:pans s a=false):plV al s (a::r)=false:=by
  show (pans s a && (decide ((pstep s a).m.length=(pstep s a).ln.length) && pall al (pstep s a)) && plV al (pstep s a) r)=_
  rw [h1];rfl
theorem plV_f2 (h2:(pstep s a).m.length≠(pstep s a).ln.length):plV al s (a::r)=false:=by
  show (pans s a && (decide ((pstep s a).m.length=(pstep s a).ln.length) && pall al (pstep s a)) && plV al (pstep s a) r)=_
  rw [decide_eq_false h2];simp
theorem plV_f3 {z:IX} (hz:z∈al) (h3:fdT (pstep s a).ln z≠tkX (pstep s a).m z):plV al s (a::r)=false:=by
  have e:pall al (pstep s a)=false:=by
    cases h:pall al (pstep s a) with
    | false=>rfl
    | true =>
      unfold pall at h;rw [List.all_eq_true] at h
      exact absurd (of_decide_eq_true (h z hz)) h3
  show (pans s a && (decide ((pstep s a).m.length=(pstep s a).ln.length) && pall al (pstep s a)) && plV al (pstep s a) r)=_
  rw [e];simp
end
theorem not_takeA {al:List IX} {p:IX->Prop} {j:Nat} {x:IX} (h: ∀z∈al.take j,p z) (hx:al[j]? =some x) (he:p x): ∀z∈al.take (j+1),p z:=by
  intro z hz
  have hlt:=(List.getElem?_eq_some_iff.1 hx).1
  rw [List.take_succ_eq_append_getElem hlt] at hz
  rcases List.mem_append.1 hz with q | q
  · exact h z q
  · rw [List.mem_singleton.1 q]
    rw [List.getElem?_eq_getElem hlt] at hx
    rw [Option.some.inj hx];exact he
theorem acts_drop {X:Type} [Inhabited X] {ls:List X} {f:X->A22} {i:Nat} (h:i<ls.length):(ls.map f).drop i=f (gx ls i)::(ls.map f).drop (i+1):=by
  have hl:i<(ls.map f).length:=by simpa using h
  rw [List.drop_eq_getElem_cons hl,List.getElem_map]
  have e:=gx_some (xs:=ls) h
  rw [List.getElem?_eq_getElem h] at e
  rw [Option.some.inj e]
end Go.Sx
namespace Go.Sx
section
variable {s:PSt} {a:A22}
theorem pstep_P (h:(Int.tmod a.1 5==2)=true):pstep s a=st2P s a:=by unfold pstep;rw [h];rfl
theorem pstep_K (h2:(Int.tmod a.1 5==2)=false) (h3:(Int.tmod a.1 5==3)=true):pstep s a=st2K s:=by unfold pstep;rw [h2,h3];rfl
theorem pstep_B (h2:(Int.tmod a.1 5==2)=false) (h3:(Int.tmod a.1 5==3)=false) (h4:(Int.tmod a.1 5==4)=true):pstep s a=st2B s:=by unfold pstep;rw [h2,h3,h4];rfl
theorem pstep_M (h2:(Int.tmod a.1 5==2)=false) (h3:(Int.tmod a.1 5==3)=false) (h4:(Int.tmod a.1 5==4)=false):pstep s a=st2M s a:=by unfold pstep;rw [h2,h3,h4];rfl
theorem pans_P (h:(Int.tmod a.1 5==2)=true):pans s a=(cdP a.2.1 a.2.2.2.2 (tkX s.m a.2.1)==cdP a.2.1 a.2.2.2.2 (fdT s.ln a.2.1)):=by unfold pans;rw [h];rfl
theorem pans_K (h2:(Int.tmod a.1 5==2)=false) (h3:(Int.tmod a.1 5==3)=true):pans s a=true:=by unfold pans;rw [h2,h3];rfl
theorem pans_B (h2:(Int.tmod a.1 5==2)=false) (h3:(Int.tmod a.1 5==3)=false) (h4:(Int.tmod a.1 5==4)=true):pans s a=true:=by unfold pans;rw [h2,h3,h4];rfl
theorem pans_M (h2:(Int.tmod a.1 5==2)=false) (h3:(Int.tmod a.1 5==3)=false) (h4:(Int.tmod a.1 5==4)=false):pans s a=(cdM a.2.1 a.2.2.1 a.2.2.2.1 (tkX s.m a.2.1)==cdM a.2.1 a.2.2.1 a.2.2.2.1 (fdT s.ln a.2.1)):=by unfold pans;rw [h2,h3,h4];rfl
end
end Go.Sx
namespace Go.Sx
open Go
theorem trod_field {H:Type} {enc:TypeId×Value->H} {P:Program} {w:World} {base:Nat} {sp:Nat->Bool} {held:Bool} {fs:Array Field} {cs:List Value} {xs:List (DataW H×List MemPlace)} {n:Nat} (hlen:xs.length=fs.size)
    (hf: ∀ (i:Nat) (f:Field),fs[i]? =some f->DataW.trod enc P w base sp held n f.type ((cs.drop f.offset).take (P.cellsOf f.type))=xs[i]?) (i:Nat) {f:Field} (h:fs[i]? =some f) {t off k:Nat} (ht:f.type=t) (ho:f.offset=off) (hk:P.cellsOf t=k):
    ∃y,DataW.trod enc P w base sp held n t ((cs.drop off).take k)=some y:=by
  have hi:i<fs.size:=by
    rcases Nat.lt_or_ge i fs.size with q | q
    · exact q
    · rw [Array.getElem?_eq_none q] at h;cases h
  have g:=hf i f h
  rw [ht,ho,hk,List.getElem?_eq_getElem (by omega)] at g
  exact ⟨_,g⟩
end Go.Sx
