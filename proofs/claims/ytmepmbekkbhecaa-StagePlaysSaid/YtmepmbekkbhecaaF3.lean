/- A part of the prover's own frame for walking code (see the claim's other texts). -/
import Derived.Test.YtmepmbekkbhecaaF1
import Derived.Test.YtmepmbekkbhecaaF2
set_option linter.unusedVariables false
set_option linter.unusedSimpArgs false
set_option linter.unusedVariables false
set_option linter.unusedSimpArgs false
namespace Go.Sx
open Go.RowKit
abbrev PL:=List (Int×Int)
def pvs (l:PL):List Value:=l.map p2V
theorem pvs_len (l:PL):(pvs l).length=l.length:=by simp [pvs]
def unp (v:Value):Int×Int:=(ci (cell v 0),ci (cell v 1))
noncomputable def blp (m:KV) (v:Value):PL:=(bget m v).map unp
theorem pvs_un (l:PL):(pvs l).map unp=l:=by
  unfold pvs;rw [List.map_map];conv=>rhs;rw [←List.map_id l]
  exact List.map_congr_left fun x _=>rfl
theorem InBag.blp {m:KV} {v:Value} {l:PL} (h:InBag m v (pvs l)):Sx.blp m v=l:=by unfold Sx.blp;rw [h.get,pvs_un]
theorem pvs_at {l:PL} {r:Row} (h:vals r=pvs l) {i:Nat} (hi:i<l.length): ∃x0:Int×Int,(vals r)[i]? =some (p2V x0):=by
  rw [h];unfold pvs;rw [List.getElem?_map,List.getElem?_eq_getElem hi];exact ⟨_,rfl⟩
theorem pvs_get {l:PL} {r:Row} (h:vals r=pvs l) {i:Nat} {x:Int×Int} (hx:(vals r)[i]? =some (p2V x)):l[i]? =some x:=by
  rw [h] at hx;unfold pvs at hx;rw [List.getElem?_map] at hx
  cases hl:l[i]? with
  | none=>rw [hl] at hx;cases hx
  | some y=>rw [hl] at hx;simp only [Option.map_some,Option.some.injEq] at hx;rw [p2V_inj hx]
def setS (k v:Int) (s:PL×Bool) (p:Int×Int):PL×Bool:=
  if s.2=false/\k<=p.1 then (if p.1=k then (s.1++ [(k,v)],true) else (s.1++ [(k,v)]++ [p],true)) else (if p.1=k then s else (s.1++ [p],s.2))
def finS (k v:Int) (s:PL×Bool):PL:=if s.2 then s.1 else s.1++ [(k,v)]
def pSet (l:PL) (k v:Int):PL:=finS k v (l.foldl (setS k v) ([],false))
def setA (k v:Int) (p:PL):PL×Bool:=if p.any (fun x=>decide (k<=x.1)) then (p.filter (fun x=>decide (x.1<k))++(k,v)::p.filter (fun x=>decide (k<x.1)),true) else (p,false)
theorem fold_set {k v : Int} {l : PL} (h : l.Pairwise fun a b => a.1 < b.1) : ∀ n, n <= l.length -> (l.take n).foldl (setS k v) ([], false) = setA k v (l.take n)
  | 0,_=>by simp [setA]
  | n + 1, hn => by
    have hlt:n<l.length:=hn
    have hs:(l.take n++ [l[n]]).Pairwise fun a b=>a.1<b.1:=by
      rw [←List.take_succ_eq_append_getElem hlt];exact h.sublist (List.take_sublist _ _)
    have hm: ∀y∈l.take n,y.1<l[n].1:=fun y hy=>(List.pairwise_append.1 hs).2.2 y hy _ (by simp)
    rw [List.take_succ_eq_append_getElem hlt,List.foldl_append,fold_set h n (by omega)]
    simp only [List.foldl_cons,List.foldl_nil]
    generalize l[n]=x at *
    generalize l.take n=p at *
    unfold setA
    by_cases ha:p.any (fun x=>decide (k<=x.1))=true
    · obtain ⟨y,hy,hy2⟩:=List.any_eq_true.1 ha
      have h0:=of_decide_eq_true hy2
      have h3:=hm y hy
      have h1:k<x.1:=by omega
      rw [if_pos ha,if_pos (by simp only [List.any_append,ha,Bool.true_or])]
      unfold setS
      rw [if_neg (by simp),if_neg (by omega)]
      simp [List.filter_append,h1,show ¬x.1<k by omega]
    · have hall: ∀y∈p,y.1<k:=fun y hy=>by
        have: ¬k<=y.1:=fun q=>ha (List.any_eq_true.2 ⟨y,hy,decide_eq_true q⟩)
        omega
      have f1:p.filter (fun x=>decide (x.1<k))=p:=List.filter_eq_self.2 fun y hy=>decide_eq_true (hall y hy)
      have f2:p.filter (fun x=>decide (k<x.1))= []:=List.filter_eq_nil_iff.2 fun y hy=>by have:=hall y hy;simp;omega
      rw [if_neg ha]
      unfold setS
      by_cases hx:k<=x.1
      · have hany:((p++ [x]).any fun x=>decide (k<=x.1))=true:=by simp [List.any_append,hx]
        rw [if_pos hany,if_pos ⟨rfl,hx⟩]
        by_cases he:x.1=k
        · rw [if_pos he]
          simp [List.filter_append,f1,f2,show ¬x.1<k by omega,show ¬k<x.1 by omega]
        · rw [if_neg he]
          simp [List.filter_append,f1,f2,show ¬x.1<k by omega,show k<x.1 by omega]
      · rw [if_neg (by simp [hx]),if_neg (by omega),if_neg (by simp only [List.any_append,List.any_cons,List.any_nil,Bool.or_false,Bool.or_eq_true,not_or];exact ⟨ha,by simp;omega⟩)]
theorem pSet_eq {k v:Int} {l:PL} (h:l.Pairwise fun a b=>a.1<b.1):pSet l k v=l.filter (fun x=>decide (x.1<k))++(k,v)::l.filter (fun x=>decide (k<x.1)):=by
  have:=fold_set (k:=k) (v:=v) h l.length (Nat.le_refl _)
  rw [List.take_length] at this
  unfold pSet
  rw [this]
  unfold setA
  by_cases ha:l.any (fun x=>decide (k<=x.1))=true
  · rw [if_pos ha];rfl
  · have hall: ∀y∈l,y.1<k:=fun y hy=>by
      have: ¬k<=y.1:=fun q=>ha (List.any_eq_true.2 ⟨y,hy,decide_eq_true q⟩)
      omega
    rw [if_neg ha,List.filter_eq_self.2 fun y hy=>decide_eq_true (hall y hy),List.filter_eq_nil_iff.2 fun y hy=>by have:=hall y hy;simp;omega]
    rfl
theorem set_take {k v:Int} {l:PL} {j:Nat} {x:Int×Int} (h:l[j]? =some x):(l.take (j+1)).foldl (setS k v) ([],false)=setS k v ((l.take j).foldl (setS k v) ([],false)) x:=by
  rw [List.take_add_one,h,List.foldl_append];rfl
theorem set_len {k v:Int}: ∀ (l:PL) (s:PL×Bool),(l.foldl (setS k v) s).1.length<=s.1.length+2*l.length
  | [],s=>Nat.le_refl _
  | x :: l, s => by
    have h1:=set_len (k:=k) (v:=v) l (setS k v s x)
    have h2:(setS k v s x).1.length<=s.1.length+2:=by unfold setS;split<;>split<;>simp
    simp only [List.foldl_cons,List.length_cons];omega
def pDrop (l:PL) (k:Int):PL:=l.filter fun p=>decide (p.1≠k)
theorem drop_take {k:Int} {l:PL} {j:Nat} {x:Int×Int} (h:l[j]? =some x):pDrop (l.take (j+1)) k=pDrop (l.take j) k++(if x.1=k then [] else [x]):=by
  unfold pDrop
  rw [List.take_add_one,h,List.filter_append]
  by_cases e:x.1=k
  · simp [e]
  · simp [e]
def pGet (l:PL) (k:Int):Int×Bool:=match l.find? fun p=>decide (p.1=k) with | some p=>(p.2,true) | none=>(0,false)
theorem pGet_none {l:PL} {k:Int} (h: ∀p∈l,p.1≠k):pGet l k=(0,false):=by
  unfold pGet
  rw [List.find?_eq_none.2 fun p hp=>by simp [h p hp]]
theorem pGet_some {l:PL} {k:Int} {j:Nat} {x:Int×Int} (h: ∀p∈l.take j,p.1≠k) (hx:l[j]? =some x) (he:x.1=k):pGet l k=(x.2,true):=by
  have hlt:=(List.getElem?_eq_some_iff.1 hx).1
  have e:l=l.take j++(x::l.drop (j+1)):=by
    rw [List.getElem?_eq_getElem hlt] at hx
    injection hx with hx
    rw [←hx,←List.drop_eq_getElem_cons hlt,List.take_append_drop]
  unfold pGet
  rw [e,List.find?_append,List.find?_eq_none.2 fun p hp=>by simp [h p hp]]
  simp [he]
theorem not_takeP {l:PL} {k:Int} {j:Nat} {x:Int×Int} (h: ∀p∈l.take j,p.1≠k) (hx:l[j]? =some x) (he:x.1≠k): ∀p∈l.take (j+1),p.1≠k:=by
  rw [List.take_add_one,hx]
  intro p hp
  rcases List.mem_append.1 hp with q | q
  · exact h p q
  · simp at q;subst q;exact he
structure DocP (K:MK) (l:PL) (m:KV):Prop where
  ok:KOK K m
  r:l.Pairwise fun a b=>a.1<b.1
  at_: ∀k v:Int,(k,v)∈l↔mget m (iv k)=some (iv v)
theorem DocP.nil {K:MK}:DocP K [] []:=⟨KOK.nil,List.Pairwise.nil,fun k v=>by rw [mget_nil];simp⟩
theorem DocP.eqm {K:MK} {l:PL} {m n:KV} (h:DocP K l m) (hn:KOK K n) (e:EqM n m):DocP K l n:=⟨hn,h.r,fun k v=>by rw [h.at_,e]⟩
theorem DocP.set {K : MK} (I : IntK K) {l : PL} {m : KV} (h : DocP K l m) (k v : Int) (hv : (Lit.int .i64 v).wf = true) : DocP K (pSet l k v) (mset m (iv k) (iv v)) := by
  refine ⟨h.ok.set (I.k k) (I.v v hv),?_,fun k' v' => ?_⟩
  · rw [pSet_eq h.r,List.pairwise_append,List.pairwise_cons]
    refine ⟨h.r.filter _,⟨fun b hb=>of_decide_eq_true (List.mem_filter.1 hb).2,h.r.filter _⟩,fun a ha b hb=> ?_⟩
    have h1:=of_decide_eq_true (List.mem_filter.1 ha).2
    rcases List.mem_cons.1 hb with e | hb
    · subst e;exact h1
    · have h2:=of_decide_eq_true (List.mem_filter.1 hb).2;omega
  · rw [pSet_eq h.r, mget_set, List.mem_append, List.mem_cons, List.mem_filter, List.mem_filter]
    simp only [decide_eq_true_eq,Prod.mk.injEq]
    by_cases e:k' =k
    · subst e
      rw [if_pos rfl]
      constructor
      · rintro (q | q | q)
        · omega
        · rw [q.2]
        · omega
      · intro q
        injection q with q
        injection q with _ q
        exact .inr (.inl ⟨rfl,q.symm⟩)
    · rw [if_neg (fun q=>e (by injection q)),←h.at_]
      constructor
      · rintro (q | q | q)
        · exact q.1
        · exact absurd q.1 e
        · exact q.1
      · intro q
        rcases Int.lt_or_gt_of_ne e with r | r
        · exact .inl ⟨q,r⟩
        · exact .inr (.inr ⟨q,r⟩)
theorem DocP.drop {K:MK} {l:PL} {m:KV} (h:DocP K l m) (k:Int):DocP K (pDrop l k) (mdel m (iv k)):=by
  refine ⟨h.ok.del _,h.r.filter _,fun k' v' => ?_⟩
  unfold pDrop
  rw [mget_del h.ok.once,List.mem_filter]
  by_cases e:k' =k
  · subst e;rw [if_pos rfl];simp
  · rw [if_neg (fun q=>e (by injection q)),←h.at_];simp [e]
theorem DocP.some {K:MK} (I:IntK K) {l:PL} {m:KV} (h:DocP K l m) (k:Int):(mget m (iv k)).isSome=true↔ ∃p∈l,p.1=k:=by
  constructor
  · intro q
    obtain ⟨x,hx⟩:=Option.isSome_iff_exists.1 q
    obtain ⟨v,_,rfl⟩:=I.v' x (h.ok.val hx)
    exact ⟨(k,v),(h.at_ k v).2 hx,rfl⟩
  · rintro ⟨p,hp,rfl⟩
    rw [(h.at_ p.1 p.2).1 hp];rfl
theorem DocP.gone {K:MK} (I:IntK K) {l:PL} {m:KV} (h:DocP K l m) (k:Int):decide ((((pDrop l k).length:Nat):Int)<((l.length:Nat):Int))=(mget m (iv k)).isSome:=by
  rw [Bool.eq_iff_iff,h.some I,decide_eq_true_eq]
  unfold pDrop
  constructor
  · intro q
    by_cases hh: ∃p∈l,p.1=k
    · exact hh
    · have:l.filter (fun p=>decide (p.1≠k))=l:=List.filter_eq_self.2 fun p hp=>decide_eq_true fun e=>hh ⟨p,hp,e⟩
      rw [this] at q;omega
  · rintro ⟨p,hp,e⟩
    have h1:(l.filter fun p=>decide (p.1≠k)).length<l.length:=by
      rw [List.length_filter_lt_length_iff_exists]
      exact ⟨p,hp,by simp [e]⟩
    omega
theorem DocP.get {K:MK} (I:IntK K) {l:PL} {m:KV} (h:DocP K l m) (k:Int):pGet l k=(ci ((mget m (iv k)).getD (iv 0)),(mget m (iv k)).isSome):=by
  cases hg:mget m (iv k) with
  | none =>
    refine pGet_none fun p hp e=> ?_
    subst e
    rw [(h.at_ p.1 p.2).1 hp] at hg;cases hg
  | some x =>
    obtain ⟨v,_,rfl⟩:=I.v' x (h.ok.val hg)
    have hm:=(h.at_ k v).2 hg
    unfold pGet
    cases hf:l.find? fun p=>decide (p.1=k) with
    | none=>have:=List.find?_eq_none.1 hf _ hm;simp at this
    | some p =>
      have h1:p.1=k:=by have:=List.find?_some hf;simpa using this
      have h2:=(h.at_ p.1 p.2).1 (List.mem_of_find?_eq_some hf)
      rw [h1,hg] at h2
      injection h2 with h2
      injection h2 with _ h2
      rw [h2];rfl
theorem pl_unique : ∀ {l l' : PL}, l.Pairwise (fun a b => a.1 < b.1) -> l'.Pairwise (fun a b => a.1 < b.1) -> (∀ p, p ∈ l ↔ p ∈ l') -> l = l'
  | [],[],_,_,_=>rfl
  | [],b::l',_,_,h=>absurd ((h b).2 (List.mem_cons_self ..)) (by simp)
  | a::l,[],_,_,h=>absurd ((h a).1 (List.mem_cons_self ..)) (by simp)
  | a :: l, b :: l', h1, h2, h => by
    rw [List.pairwise_cons] at h1 h2
    have e:a=b:=by
      rcases List.mem_cons.1 ((h a).1 (List.mem_cons_self ..)) with e | hm
      · exact e
      · rcases List.mem_cons.1 ((h b).2 (List.mem_cons_self ..)) with e | hm'
        · exact e.symm
        · have:=h2.1 _ hm;have:=h1.1 _ hm';omega
    subst e
    rw [pl_unique h1.2 h2.2 fun v=> ?_]
    constructor
    · intro hv
      rcases List.mem_cons.1 ((h v).1 (List.mem_cons_of_mem _ hv)) with e | hm
      · subst e;exact absurd (h1.1 _ hv) (Int.lt_irrefl _)
      · exact hm
    · intro hv
      rcases List.mem_cons.1 ((h v).2 (List.mem_cons_of_mem _ hv)) with e | hm
      · subst e;exact absurd (h2.1 _ hv) (Int.lt_irrefl _)
      · exact hm
theorem DocP.pairs {K : MK} (I : IntK K) {l : PL} {m : KV} (h : DocP K l m) {ks : List Value} (hk : KeysOf .i64 m ks) : pairsOf (iv 0) m ks = pvs l /\ ks = l.map fun p => iv p.1 := by
  have e:(ks.map fun k=>(ci k,ci ((mget m k).getD (iv 0))))=l:=by
    refine pl_unique ?_ h.r fun p=> ?_
    · rw [List.pairwise_map];exact hk.2.1
    · rw [List.mem_map]
      constructor
      · rintro ⟨k,hkk,rfl⟩
        obtain ⟨n,rfl⟩:=hk.2.2 k hkk
        obtain ⟨e,he,h1⟩:=List.mem_map.1 (hk.1.mem_iff.1 hkk)
        have hg:=mget_of_mem h.ok.once he
        rw [h1] at hg
        obtain ⟨v,_,hv⟩:=I.v' _ (h.ok.val hg)
        rw [hg,hv]
        exact (h.at_ n v).2 (by rw [hg,hv])
      · intro hp
        have hg:=(h.at_ p.1 p.2).1 hp
        refine ⟨iv p.1,hk.1.mem_iff.2 (List.mem_map_of_mem (f:=(·.1)) (mget_mem hg)),?_⟩
        rw [hg];rfl
  have hint: ∀k∈ks,(mget m k).getD (iv 0)=iv (ci ((mget m k).getD (iv 0)))/\k=iv (ci k):=by
    intro k hkk
    obtain ⟨n,rfl⟩:=hk.2.2 k hkk
    refine ⟨?_,rfl⟩
    cases hg:mget m (iv n) with
    | none=>rfl
    | some x=>obtain ⟨v,_,rfl⟩:=I.v' x (h.ok.val hg);rfl
  rw [←e]
  unfold pairsOf pvs
  rw [List.map_map,List.map_map]
  refine ⟨List.map_congr_left fun k hkk=> ?_,?_⟩
  · obtain ⟨n,rfl⟩:=hk.2.2 k hkk
    show Value.agg #[iv n,(mget m (iv n)).getD (iv 0)]=Value.agg #[iv n,iv (ci ((mget m (iv n)).getD (iv 0)))]
    rw [←(hint _ hkk).1]
  · conv=>lhs;rw [←List.map_id ks]
    exact List.map_congr_left fun k hkk=>(hint k hkk).2
theorem DocP.len {K:MK} (I:IntK K) {l:PL} {m:KV} (h:DocP K l m):m.length=l.length:=by
  obtain ⟨z,hz⟩:=keysOf_wit (SO1.int I h.ok).1 h.ok.once
  have:=(h.pairs I hz).2
  have h2:=hz.len
  rw [this,List.length_map] at h2
  exact h2.symm
end Go.Sx
set_option linter.unusedVariables false
set_option linter.unusedSimpArgs false
namespace Go.Sx
open Go.RowKit
structure Doc (K:MK) (ln:List Int) (m:KV):Prop where
  s: ∃c,SpS K ln m c
  r:ln.Pairwise (· < ·)
  w: ∀x∈ln,(Lit.int .u32 x).wf=true
theorem Doc.ok {K:MK} {ln:List Int} {m:KV} (h:Doc K ln m):KOK K m:=h.s.elim fun _ q=>q.ok
theorem Doc.nil {K:MK}:Doc K [] []:=⟨⟨0,SpS.nil⟩,List.Pairwise.nil,fun _ h=>by cases h⟩
theorem Doc.has {K:MK} {ln:List Int} {m:KV} (h:Doc K ln m) (i:Int):hasI m i=decide (i∈ln):=by
  obtain ⟨c,q⟩:=h.s
  rw [Bool.eq_iff_iff,q.has,decide_eq_true_eq]
theorem Doc.len {K:MK} (I:WdK K) {ln:List Int} {m:KV} (h:Doc K ln m):m.length<=ln.length:=h.s.elim fun _ q=>q.len I
theorem Doc.keyb {K:MK} {ln:List Int} {m:KV} (h:Doc K ln m) {l:List Value} (hx:KeysOf .u32 m l): ∀v∈l,0<=ci v/\ci v<=67108863:=h.s.elim fun _ q=>q.keyb h.w hx
theorem SpS.congr {K:MK} {P Q:List Int} {m:KV} {c:Nat} (h:SpS K P m c) (e: ∀x,x∈Q↔x∈P):SpS K Q m c:=
  ⟨h.ok,fun w b hb=>by rw [h.bit w b hb];simp only [e],fun w=>by rw [h.key w];simp only [e],h.cnt⟩
theorem Doc.put {K:MK} (I:WdK K) {ln:List Int} {m:KV} (h:Doc K ln m) {x:Int} (hx:(Lit.int .u32 x).wf=true):Doc K (if x∈ln then ln else pIns ln x) (putO m x):=by
  obtain ⟨c,q⟩:=h.s
  by_cases hi:x∈ln
  · rw [if_pos hi]
    have hh:=(q.has x).2 hi
    unfold putO
    rw [if_pos hh]
    exact h
  · rw [if_neg hi]
    obtain ⟨h1,h2⟩:=pIns_rise h.r hi
    refine ⟨⟨_,(q.put I x).congr fun v=> ?_⟩,h1,fun v hv=> ?_⟩
    · rw [h2,List.mem_append,List.mem_singleton]
    · rcases (h2 v).1 hv with r | r
      · exact h.w v r
      · exact r▸hx
theorem Doc.eqm {K:MK} (I:WdK K) {ln:List Int} {m n:KV} (h:Doc K ln m) (hn:KOK K n) (e:EqM n m):Doc K ln n:=by
  obtain ⟨c,q⟩:=h.s
  have hw: ∀w,wd n w=wd m w:=fun w=>by unfold wd;rw [e]
  refine ⟨⟨totW n,hn,fun w b hb=>by rw [hw];exact q.bit w b hb,fun w=>by rw [e];exact q.key w,rfl⟩,h.r,h.w⟩
theorem pIns_len {ln : List Int} {x : Int} (h : ln.Pairwise (· < ·)) : (if x ∈ ln then ln else pIns ln x).length <= ln.length + 1 := by
  by_cases hi:x∈ln
  · rw [if_pos hi];omega
  · rw [if_neg hi, pIns_eq h hi]
    have hp: ∀l:List Int,x∉l->(l.filter (fun y=>decide (y<x))).length+(l.filter (fun y=>decide (x<y))).length<=l.length:=by
      intro l
      induction l with
      | nil=>simp
      | cons a l ih =>
        intro hn
        have:=ih (fun q=>hn (List.mem_cons_of_mem _ q))
        simp only [List.filter_cons,List.length_cons]
        by_cases h1:a<x
        · have h2: ¬x<a:=by omega
          simp [h1,h2];omega
        · by_cases h2:x<a
          · simp [h1,h2];omega
          · simp [h1,h2];omega
    have:=hp ln hi
    rw [List.length_append,List.length_cons];omega
structure SpD (K:MK) (ent:KV->Value->Ent) (i:Nat) (m:KV) (L:List Ent) (mark:Int) (bm:KV) (vn vk:Value):Prop where
  ex: ∃ (hs:List KV) (ln lk:List Int) (h0:KV),SB K ent hs L m/\(hs++ [m])[mark.toNat]? =some h0/\Doc K ln m/\Doc K lk h0/\InBag bm vn (uvs ln)/\InBag bm vk (uvs lk)/\ln.length<=i/\lk.length<=i
  m0:0<=mark
  m1:mark<=((L.length:Nat):Int)
  l:L.length<=i
theorem SpD.start {K:MK} {ent:KV->Value->Ent}:SpD K ent 0 [] [] 0 [] (sv .nil) (sv .nil):=
  ⟨⟨[],[],[],[],SB.start,rfl,Doc.nil,Doc.nil,InBag.nil (fun _ h=>by cases h),InBag.nil (fun _ h=>by cases h),Nat.le_refl _,Nat.le_refl _⟩,Int.le_refl _,Int.le_refl _,Nat.le_refl _⟩
theorem SpD.doc {K:MK} {ent:KV->Value->Ent} {i:Nat} {m:KV} {L:List Ent} {mark:Int} {bm:KV} {vn vk:Value} (h:SpD K ent i m L mark bm vn vk):Doc K (bl bm vn) m/\InBag bm vn (uvs (bl bm vn))/\(bl bm vn).length<=i:=by
  obtain ⟨hs,ln,lk,h0,h1,h2,h3,h4,h5,h6,h7,h8⟩:=h.ex
  rw [h5.bl]
  exact ⟨h3,h5,h7⟩
theorem SpD.jr {K:MK} {ent:KV->Value->Ent} {i:Nat} {m:KV} {L:List Ent} {mark:Int} {bm:KV} {vn vk:Value} (h:SpD K ent i m L mark bm vn vk): ∃hs,Jr K ent hs L m:=by
  obtain ⟨hs,ln,lk,h0,h1,_⟩:=h.ex
  exact ⟨hs,h1.jr⟩
theorem SpD.mark {K:MK} {ent:KV->Value->Ent} {i:Nat} {m:KV} {L:List Ent} {mark:Int} {bm:KV} {vn vk:Value} (h:SpD K ent i m L mark bm vn vk) {x:Int} (hx:x=((L.length:Nat):Int)):SpD K ent (i+1) m L x bm vn vn:=by
  obtain ⟨hs,ln,lk,h0,h1,h2,h3,h4,h5,h6,h7,h8⟩:=h.ex
  have hl:=h1.jr.1
  have:=h.l
  exact ⟨⟨hs,ln,ln,m,h1,by rw [hx,Int.toNat_natCast,←hl];simp,h3,h3,h5,h5,by omega,by omega⟩,by omega,by omega,by omega⟩
theorem SpD.back {K:MK} (I:WdK K) {ent:KV->Value->Ent} {b:Nat} (E:EntOK b ent) {i:Nat} {m:KV} {L:List Ent} {mark:Int} {bm:KV} {vn vk:Value} (h:SpD K ent i m L mark bm vn vk) {m' :KV} (hu:m' =undoB b (L.drop mark.toNat) m):SpD K ent (i+1) m' (L.take mark.toNat) mark bm vk vk:=by
  obtain ⟨hs,ln,lk,h0,h1,h2,h3,h4,h5,h6,h7,h8⟩:=h.ex
  have hm1:=h.m1
  have hm0:=h.m0
  have hl:=h1.jr.1
  have:=h.l
  obtain ⟨S5,q5⟩:=h1.back E (n:=mark.toNat) (by omega) h2
  rw [←hu] at S5 q5
  have hd:=h4.eqm I S5.ok q5
  have ht:(hs.take mark.toNat).length=mark.toNat:=by rw [List.length_take];omega
  have ht2:(L.take mark.toNat).length=mark.toNat:=by rw [List.length_take];omega
  exact ⟨⟨_,lk,lk,m',S5,by rw [List.getElem?_append_right (by omega),ht];simp,hd,hd,h6,h6,by omega,by omega⟩,hm0,by rw [ht2];omega,by rw [ht2];omega⟩
theorem SpD.put {K:MK} (I:WdK K) {ent:KV->Value->Ent} {i:Nat} {m:KV} {L:List Ent} {mark:Int} {bm:KV} {vn vk:Value} (h:SpD K ent i m L mark bm vn vk) {x:Int} (hx:(Lit.int .u32 x).wf=true) {y:KV×Value×Bool} (pb:PutB bm vn x y) {m' :KV} {L' :List Ent}
    (p:m' =putO m x/\L' =bif hasI m x then L else L++ [ent m (u32v (x/64))]):SpD K ent (i+1) m' L' mark y.1 y.2.1 vk:=by
  obtain ⟨hs,ln,lk,h0,h1,h2,h3,h4,h5,h6,h7,h8⟩:=h.ex
  have hm1:=h.m1
  have hm0:=h.m0
  have hl:=h1.jr.1
  have hL:=h.l
  obtain ⟨p1,p2⟩:=p
  subst p1
  obtain ⟨_,pb2,pb3⟩:=pb
  rw [h5.bl] at pb2
  have hd:=h3.put I hx
  have hn:=pIns_len (x:=x) h3.r
  cases hh:hasI m x with
  | true =>
    rw [hh] at p2
    have p2' :L' =L:=p2
    subst p2'
    have e:putO m x=m:=put_again hh
    rw [e] at hd ⊢
    exact ⟨⟨hs,_,lk,h0,h1,h2,hd,h4,pb2,pb3 _ _ h6,by omega,by omega⟩,hm0,hm1,by omega⟩
  | false =>
    rw [hh] at p2
    have p2' :L' =L++ [ent m (u32v (x/64))]:=p2
    subst p2'
    have e:putO m x=putM m x:=by unfold putO;rw [if_neg (by rw [hh];decide)]
    obtain ⟨j,o⟩:=h1.jr.set h1.ok (I.k (x/64)) (I.v _ (setW_W (wd_W I h1.ok (x/64)) (b:=(x%64).toNat) (by omega)))
    obtain ⟨z,z1,z2⟩:=h1.zero
    have S2:SB K ent (hs++ [m]) (L++ [ent m (u32v (x/64))]) (putO m x):=by
      rw [e]
      exact ⟨j,o,z,by rw [List.getElem?_append_left (by simp)];exact z1,z2⟩
    refine ⟨⟨_,_,lk,h0,S2,by rw [List.getElem?_append_left (by simp;omega)];exact h2,hd,h4,pb2,pb3 _ _ h6,by omega,by omega⟩,hm0,?_,?_⟩
    · rw [List.length_append,List.length_singleton];omega
    · rw [List.length_append,List.length_singleton];omega
theorem cut_len {most:Int} {n:Nat}:Int.toNat (if (if ((n:Nat):Int)<most then ((n:Nat):Int) else most)>0 then (if ((n:Nat):Int)<most then ((n:Nat):Int) else most) else 0)=min (Int.toNat most) n:=by
  split<;>split<;>omega
end Go.Sx
set_option linter.unusedVariables false
set_option linter.unusedSimpArgs false
namespace Go.Sx
open Go.RowKit
theorem tk_end {l:List Value} {n:Nat} {most:Int} {y:Bool×RK 2} (hn:l.length=n) (h:(y.1=true/\vals y.2.1=l.take n/\((n:Nat):Int)<most)∨(y.1=false/\vals y.2.1=l.take (Int.toNat most))):vals y.2.1=l.take (Int.toNat most):=by
  rcases h with h | h
  · rw [h.2.1,List.take_of_length_le (by omega),List.take_of_length_le (by omega)]
  · exact h.2
theorem tk_round {l:List Value} {i:Nat} (hi:i<l.length) {most:Int} {y z:Bool×RK 2} (h:y.1=true/\vals y.2.1=l.take i/\((i:Nat):Int)<most)
    (hz:vals z.2.1=vals y.2.1++ [l.getD i undef]/\(z.1=true->(((vals y.2.1).length:Nat):Int)+1<most)/\(z.1=false->most<=(((vals y.2.1).length:Nat):Int)+1)):
    (z.1=true->(z.1=true/\vals z.2.1=l.take (i+1)/\((i+1:Nat):Int)<most))/\(z.1=false->(z.1=false/\vals z.2.1=l.take (Int.toNat most))):=by
  have hl:(vals y.2.1).length=i:=by rw [h.2.1,List.length_take];omega
  rw [hl] at hz
  have ht:l.take (i+1)=l.take i++ [l.getD i undef]:=by rw [List.take_succ_eq_append_getElem hi,List.getD_eq_getElem?_getD,List.getElem?_eq_getElem hi];rfl
  refine ⟨fun q=>⟨q,by rw [hz.1,h.2.1,ht],by have:=hz.2.1 q;omega⟩,fun q=>⟨q,?_⟩⟩
  have:=hz.2.2 q
  have e:Int.toNat most=i+1:=by omega
  rw [e,hz.1,h.2.1,ht]
theorem pairsOf_getD {z:Value} {m:KV} {l:List Value} {i:Nat} (h:i<l.length):(pairsOf z m l).getD i undef= .agg #[l.getD i undef,(mget m (l.getD i undef)).getD z]:=by
  unfold pairsOf
  rw [List.getD_eq_getElem?_getD,List.getElem?_map,List.getElem?_eq_getElem h,List.getD_eq_getElem?_getD,List.getElem?_eq_getElem h];rfl
theorem tk_wit (z:Value) (m:KV) (l:List Value) (most:Int): ∃y:RK 2,(fun y:RK 2=>vals y.1=List.take (Int.toNat most) (pairsOf z m l)) y:=by
  have hA: ∀v∈List.take (Int.toNat most) (pairsOf z m l),Ag 2 v:=fun v hv=>by
    have:=List.mem_of_mem_take hv
    unfold pairsOf at this
    obtain ⟨k,_,rfl⟩:=List.mem_map.1 this
    exact ⟨_,rfl,rfl⟩
  exact ⟨⟨.mk 0 (List.take (Int.toNat most) (pairsOf z m l)) [],fun v hv=>hA v (by simpa using hv)⟩,rfl⟩
theorem tk_wit2 (z:Value) (m:KV) (l:List Value) (most:Int): ∃y:Bool×RK 2,(fun y:Bool×RK 2=>(y.1=true/\vals y.2.1=List.take l.length (pairsOf z m l)/\((l.length:Nat):Int)<most)∨(y.1=false/\vals y.2.1=List.take (Int.toNat most) (pairsOf z m l))) y:=by
  obtain ⟨y,hy⟩:=tk_wit z m l most
  exact ⟨(false,y), .inr ⟨rfl,hy⟩⟩
theorem xtakeKr {P:Program} {t e:TypeId} {k:Nat} {z:Value} (h:SkT P t e k z) (he:P.elem t=e) (r:RK k) (ki:IntKind) (n:Int) (h0:0<=n) (h1:n<=((vals r.1).length:Nat)):
    PureRun P (do pure (.value (←Instr.sliceAt t (sv r.1) none (some (.int ki n)) none))) (vtake (sv r.1) (Int.toNat n)):=by
  by_cases hr:r.1= .nil
  · have hb:InBag [] (sv r.1) (vals r.1):=⟨.inl ⟨by rw [hr],by rw [hr];rfl⟩,fun _ q=>(by cases q),r.1,rfl,rfl⟩
    exact xtakeK h he ki n hb h0 h1
  · have hb:InBag [rowE r.1] (sv r.1) (vals r.1):=InBag.new (m:= []) (fun _ q=>(by cases q)) hr rfl
    exact xtakeK h he ki n hb h0 h1
def NewB (bm:KV) (l:PL) (x:KV×Slc):Prop:=InBag x.1 (slV x.2) (pvs l)/\ ∀v' k',InBag bm v' k' ->InBag x.1 v' k'
theorem newB_of {bm:KV} {l:PL} {x:KV×Slc} (h: ∃q,q=pvs l/\InBag x.1 (slV x.2) q/\ ∀v' k',InBag bm v' k' ->InBag x.1 v' k'):NewB bm l x:=by
  obtain ⟨q,rfl,h1,h2⟩:=h
  exact ⟨h1,h2⟩
theorem newB_wit {bm:KV} {v:Value} {l k:PL} (h:InBag bm v (pvs k)): ∃x,NewB bm l x:=by
  obtain ⟨B,hB⟩:=fresh_blk bm
  have hn:mget bm (sv (.mk B (pvs l) []))=none:=mget_none.2 fun e he q=>by
    have:=hB e he _ _ _ q
    exact absurd this (Nat.lt_irrefl _)
  exact ⟨(bm++ [rowE (.mk B (pvs l) [])],(some ⟨B,0,none⟩,(pvs l).length,(pvs l).length+0)),InBag.new h.ok (by simp) hn,fun v' k' q=>q.add (by simp) hn⟩
theorem setS_in {k v:Int} {s:PL×Bool} {p:Int×Int} (h:s.2=false/\k<=p.1) (he:p.1≠k):setS k v s p=(s.1++ [(k,v)]++ [p],true):=by unfold setS;rw [if_pos h,if_neg he]
theorem setS_ie {k v:Int} {s:PL×Bool} {p:Int×Int} (h:s.2=false/\k<=p.1) (he:p.1=k):setS k v s p=(s.1++ [(k,v)],true):=by unfold setS;rw [if_pos h,if_pos he]
theorem setS_kn {k v:Int} {s:PL×Bool} {p:Int×Int} (h: ¬ (s.2=false/\k<=p.1)) (he:p.1≠k):setS k v s p=(s.1++ [p],s.2):=by unfold setS;rw [if_neg h,if_neg he]
theorem setS_ke {k v:Int} {s:PL×Bool} {p:Int×Int} (h: ¬ (s.2=false/\k<=p.1)) (he:p.1=k):setS k v s p=s:=by unfold setS;rw [if_neg h,if_pos he]
end Go.Sx
set_option linter.unusedVariables false
set_option linter.unusedSimpArgs false
namespace Go.Sx
open Go.RowKit
def RK.take {k : Nat} (r : RK k) (n : Nat) : RK k := ⟨r.1.take n, by
  obtain ⟨r,h⟩:=r
  cases r with
  | nil=>exact trivial
  | mk b vs ex =>
    intro v hv
    refine h v ?_
    simp only [List.mem_append] at hv ⊢
    rcases hv with q | q | q
    · exact .inl (List.mem_of_mem_take q)
    · exact .inl (List.mem_of_mem_drop q)
    · exact .inr q⟩
theorem sk_take {k:Nat} (r:RK k) (e:TypeId) (n:Nat):sk e (r.take n).1=sk e r.1:=by
  obtain ⟨r,h⟩:=r
  cases r with
  | nil=>rfl
  | mk b vs ex =>
    show Slot.blk b (.cells (fl (vs.take n++(vs.drop n++ex))).toArray e (0,0))= .blk b (.cells (fl (vs++ex)).toArray e (0,0))
    rw [←List.append_assoc,List.take_append_drop]
theorem same_ha {l:PL} {r:Row} (h:vals r=pvs l): ∀i,i<(vals r).length-> ∃x0,(vals r)[i]? =some (p2V x0):=fun i hi=>pvs_at h (by rw [h,pvs_len] at hi;exact hi)
theorem pvs_take (l:PL) (n:Nat):List.take n (pvs l)=pvs (l.take n):=by unfold pvs;rw [List.map_take]
theorem kf_at {l:PL} {y:Row} (h:vals y=l.map fun p=>iv p.1) {i:Nat} (hi:i<l.length): ∃x0:Int,(vals y)[i]? =some (.int .i64 x0):=by
  rw [h,List.getElem?_map,List.getElem?_eq_getElem hi];exact ⟨_,rfl⟩
theorem keyf {l:PL} {y:Row} (h:vals y=l.map fun p=>iv p.1) {i:Nat} {p:Int×Int} {z:Int} (hp:l[i]? =some p) (hz:(vals y)[i]? =some (.int .i64 z)):z=p.1:=by
  rw [h,List.getElem?_map,hp] at hz
  simp only [Option.map_some,Option.some.injEq,Value.int.injEq,true_and] at hz
  exact hz.symm
def wV (x:Slc×Slc):Value:= .agg #[slV x.1,slV x.2]
structure SPl (K:MK) (E:Nat->KV->Value->Ent) (b0 b1:Nat) (i:Nat) (m0 m1:KV) (L:List Ent) (bm:KV) (v0 v1:Slc) (ws:List (Slc×Slc)):Prop where
  ne:b0≠b1
  ex: ∃ (h0 h1:List KV) (l0 l1:PL),Hist b0 h0 L m0/\Hist b1 h1 L m1/\DocP K l0 m0/\DocP K l1 m1/\InBag bm (slV v0) (pvs l0)/\InBag bm (slV v1) (pvs l1)/\l0.length<=i/\l1.length<=i/\
    ∀ (n:Nat) (w:Slc×Slc),ws[n]? =some w-> ∃ (a0 a1:KV) (d0 d1:PL),h0[n]? =some a0/\h1[n]? =some a1/\DocP K d0 a0/\DocP K d1 a1/\InBag bm (slV w.1) (pvs d0)/\InBag bm (slV w.2) (pvs d1)/\d0.length<=i/\d1.length<=i
  wl:ws.length=L.length
  l:L.length<=i
  jl: ∀e∈L,∃b m' key,(b=b0∨b=b1)/\e=E b m' key/\K.OkK key/\KOK K m'
theorem SPl.start {K:MK} {E:Nat->KV->Value->Ent} {b0 b1:Nat} (h:b0≠b1):SPl K E b0 b1 0 [] [] [] [] (none,0,0) (none,0,0) []:=
  ⟨h,⟨[],[],[],[],Hist.start _ MOK.nil,Hist.start _ MOK.nil,DocP.nil,DocP.nil,InBag.nil (fun _ q=>by cases q),InBag.nil (fun _ q=>by cases q),Nat.le_refl _,Nat.le_refl _,fun n w q=>by simp at q⟩,rfl,Nat.le_refl _,fun e q=>by cases q⟩
theorem SPl.swap {K:MK} {E:Nat->KV->Value->Ent} {b0 b1 i:Nat} {m0 m1:KV} {L:List Ent} {bm:KV} {v0 v1:Slc} {ws:List (Slc×Slc)} (h:SPl K E b0 b1 i m0 m1 L bm v0 v1 ws):SPl K E b1 b0 i m1 m0 L bm v1 v0 (ws.map Prod.swap):=by
  obtain ⟨h0,h1,l0,l1,a,b,c,d,e,f,g,j,k⟩:=h.ex
  refine ⟨fun q=>h.ne q.symm,⟨h1,h0,l1,l0,b,a,d,c,f,e,j,g,fun n w q=> ?_⟩,by rw [List.length_map];exact h.wl,h.l,fun e q=> ?_⟩
  · rw [List.getElem?_map] at q
    cases hw:ws[n]? with
    | none=>rw [hw] at q;cases q
    | some w' =>
      rw [hw] at q
      simp only [Option.map_some,Option.some.injEq] at q
      subst q
      obtain ⟨a0,a1,d0,d1,p1,p2,p3,p4,p5,p6,p7,p8⟩:=k n w' hw
      exact ⟨a1,a0,d1,d0,p2,p1,p4,p3,p6,p5,p8,p7⟩
  · obtain ⟨b,m',key,p1,p2⟩:=h.jl e q
    exact ⟨b,m',key,p1.elim .inr .inl,p2⟩
theorem SPl.deed {K : MK} {E : Nat -> KV -> Value -> Ent} (hE : ∀ b, EntOK b (E b)) {b0 b1 i : Nat} {m0 m1 : KV} {L : List Ent} {bm : KV} {v0 v1 : Slc} {ws : List (Slc × Slc)} (h : SPl K E b0 b1 i m0 m1 L bm v0 v1 ws) {key : Value} (ok : K.OkK key) {m0' : KV} (hm : MOK m0') (ho : ∀ k, k ≠ key -> mget m0' k = mget m0 k)
    {bm' :KV} {v0' :Slc} {l' :PL} (hd:DocP K l' m0') (hl:l'.length<=i+1) (hb:InBag bm' (slV v0') (pvs l')) (hmono: ∀v k,InBag bm v k->InBag bm' v k):SPl K E b0 b1 (i+1) m0' m1 (L++ [E b0 m0 key]) bm' v0' v1 (ws++ [(v0,v1)]):=by
  obtain ⟨h0,h1,l0,l1,a,b,c,d,e,f,g,j,k⟩:=h.ex
  have h2:=h.wl
  have h3:=h.l
  refine ⟨h.ne,⟨h0++ [m0],h1++ [m1],l',l1,a.mine hm ((hE b0).b _ _) (by rw [(hE b0).was,(hE b0).key]) (fun k hk=>by rw [(hE b0).key] at hk;exact ho k hk),b.other (by rw [(hE b0).b];exact h.ne),hd,d,hb,hmono _ _ f,hl,by omega,fun n w q=> ?_⟩,by simp [h2],by simp;omega,fun e q=> ?_⟩
  · rcases Nat.lt_or_ge n ws.length with q1 | q1
    · rw [List.getElem?_append_left q1] at q
      obtain ⟨a0,a1,d0,d1,p1,p2,p3,p4,p5,p6,p7,p8⟩:=k n w q
      exact ⟨a0,a1,d0,d1,by rw [List.getElem?_append_left (List.getElem?_eq_some_iff.1 p1).1];exact p1,by rw [List.getElem?_append_left (List.getElem?_eq_some_iff.1 p2).1];exact p2,p3,p4,hmono _ _ p5,hmono _ _ p6,by omega,by omega⟩
    · have hn:n=ws.length:=by
        have:=(List.getElem?_eq_some_iff.1 q).1
        simp at this;omega
      subst hn
      rw [List.getElem?_append_right (Nat.le_refl _)] at q
      simp at q;subst q
      exact ⟨m0,m1,l0,l1,by rw [h2,←a.len];simp,by rw [h2,←b.len];simp,c,d,hmono _ _ e,hmono _ _ f,by omega,by omega⟩
  · rcases List.mem_append.1 q with q | q
    · exact h.jl e q
    · simp at q;subst q;exact ⟨b0,m0,key, .inl rfl,rfl,ok,c.ok⟩
theorem SPl.mono {K:MK} {E:Nat->KV->Value->Ent} {b0 b1 i:Nat} {m0 m1:KV} {L:List Ent} {bm:KV} {v0 v1:Slc} {ws:List (Slc×Slc)} (h:SPl K E b0 b1 i m0 m1 L bm v0 v1 ws) {bm' :KV} (hmono: ∀v k,InBag bm v k->InBag bm' v k):SPl K E b0 b1 (i+1) m0 m1 L bm' v0 v1 ws:=by
  obtain ⟨h0,h1,l0,l1,a,b,c,d,e,f,g,j,k⟩:=h.ex
  have h3:=h.l
  refine ⟨h.ne,⟨h0,h1,l0,l1,a,b,c,d,hmono _ _ e,hmono _ _ f,by omega,by omega,fun n w q=> ?_⟩,h.wl,by omega,h.jl⟩
  obtain ⟨a0,a1,d0,d1,p1,p2,p3,p4,p5,p6,p7,p8⟩:=k n w q
  exact ⟨a0,a1,d0,d1,p1,p2,p3,p4,hmono _ _ p5,hmono _ _ p6,by omega,by omega⟩
theorem SPl.doc {K:MK} {E:Nat->KV->Value->Ent} {b0 b1 i:Nat} {m0 m1:KV} {L:List Ent} {bm:KV} {v0 v1:Slc} {ws:List (Slc×Slc)} (h:SPl K E b0 b1 i m0 m1 L bm v0 v1 ws):DocP K (blp bm (slV v0)) m0/\InBag bm (slV v0) (pvs (blp bm (slV v0)))/\(blp bm (slV v0)).length<=i:=by
  obtain ⟨h0,h1,l0,l1,a,b,c,d,e,f,g,j,k⟩:=h.ex
  rw [e.blp];exact ⟨c,e,g⟩
theorem pSet_len {l : PL} {k v : Int} (h : l.Pairwise fun a b => a.1 < b.1) : (pSet l k v).length <= l.length + 1 := by
  rw [pSet_eq h,List.length_append,List.length_cons]
  have hp: ∀l:PL,(l.filter (fun x=>decide (x.1<k))).length+(l.filter (fun x=>decide (k<x.1))).length<=l.length:=by
    intro l
    induction l with
    | nil=>simp
    | cons a l ih =>
      simp only [List.filter_cons,List.length_cons]
      by_cases h1:a.1<k
      · have h2: ¬k<a.1:=by omega
        simp [h1,h2];omega
      · by_cases h2:k<a.1
        · simp [h1,h2];omega
        · simp [h1,h2];omega
  have:=hp l
  omega
theorem SPl.set {K:MK} (I:IntK K) {E:Nat->KV->Value->Ent} (hE: ∀b,EntOK b (E b)) {b0 b1 i:Nat} {m0 m1:KV} {L:List Ent} {bm:KV} {v0 v1:Slc} {ws:List (Slc×Slc)} (h:SPl K E b0 b1 i m0 m1 L bm v0 v1 ws) {k x:Int} (hx:(Lit.int .i64 x).wf=true) {y:KV×Slc} (nb:NewB bm (pSet (blp bm (slV v0)) k x) y)
    {m0' :KV} {L' :List Ent} (p:m0' =mset m0 (iv k) (iv x)/\L' =L++ [E b0 m0 (iv k)]):SPl K E b0 b1 (i+1) m0' m1 L' y.1 y.2 v1 (ws++ [(v0,v1)]):=by
  obtain ⟨d1,d2,d3⟩:=h.doc
  have:=pSet_len (k:=k) (v:=x) d1.r
  rw [p.1,p.2]
  exact h.deed hE (I.k k) (d1.ok.once.set _ _) (fun q hq=>by rw [mget_set,if_neg hq]) (d1.set I k x hx) (by omega) nb.1 nb.2
theorem SPl.drop {K:MK} (I:IntK K) {E:Nat->KV->Value->Ent} (hE: ∀b,EntOK b (E b)) {b0 b1 i:Nat} {m0 m1:KV} {L:List Ent} {bm:KV} {v0 v1:Slc} {ws:List (Slc×Slc)} (h:SPl K E b0 b1 i m0 m1 L bm v0 v1 ws) {k:Int} {y:KV×Slc} (nb:NewB bm (pDrop (blp bm (slV v0)) k) y)
    {m0' :KV} {L' :List Ent} {b:Bool} (p:b=(mget m0 (iv k)).isSome/\m0' =mdel m0 (iv k)/\L' =if (mget m0 (iv k)).isSome then L++ [E b0 m0 (iv k)] else L):
    b=decide ((((pDrop (blp bm (slV v0)) k).length:Nat):Int)<(((blp bm (slV v0)).length:Nat):Int))/\(b=true->SPl K E b0 b1 (i+1) m0' m1 L' y.1 y.2 v1 (ws++ [(v0,v1)]))/\(b=false->SPl K E b0 b1 (i+1) m0' m1 L' y.1 v0 v1 ws):=by
  obtain ⟨d1,d2,d3⟩:=h.doc
  have hg:=d1.gone I k
  obtain ⟨p1,p2,p3⟩:=p
  refine ⟨by rw [p1,hg],fun hb=> ?_,fun hb=> ?_⟩
  · have hs:(mget m0 (iv k)).isSome=true:=by rw [←p1,hb]
    rw [if_pos hs] at p3
    rw [p2,p3]
    have hl:(pDrop (blp bm (slV v0)) k).length<=(blp bm (slV v0)).length:=List.length_filter_le _ _
    exact h.deed hE (I.k k) (d1.ok.once.del _) (fun q hq=>by rw [mget_del d1.ok.once,if_neg hq]) (d1.drop k) (by omega) nb.1 nb.2
  · have hs:(mget m0 (iv k)).isSome=false:=by rw [←p1,hb]
    rw [if_neg (by rw [hs];decide)] at p3
    rw [p2,p3,mdel_none (by simpa using hs)]
    exact h.mono nb.2
theorem SPl.back {K:MK} {E:Nat->KV->Value->Ent} {b0 b1 i:Nat} {m0 m1:KV} {L:List Ent} {bm:KV} {v0 v1:Slc} {ws:List (Slc×Slc)} (h:SPl K E b0 b1 i m0 m1 L bm v0 v1 ws) {n:Nat} (hn:n<=L.length) {m0' m1' :KV} (u0:m0' =undoB b0 (L.drop n) m0) (u1:m1' =undoB b1 (L.drop n) m1):
    (∀w:Slc×Slc,ws[n]? =some w->SPl K E b0 b1 (i+1) m0' m1' (L.take n) bm w.1 w.2 (ws.take n))/\(n=L.length->SPl K E b0 b1 (i+1) m0' m1' (L.take n) bm v0 v1 ws):=by
  obtain ⟨h0,h1,l0,l1,a,b,c,d,e,f,g,j,k⟩:=h.ex
  have h2:=h.wl
  have h3:=h.l
  have jl: ∀e∈L.take n,∃b m' key,(b=b0∨b=b1)/\e=E b m' key/\K.OkK key/\KOK K m' :=fun e q=>h.jl e (List.mem_of_mem_take q)
  refine ⟨fun w hw=> ?_,fun hn' => ?_⟩
  · obtain ⟨a0,a1,d0,d1,p1,p2,p3,p4,p5,p6,p7,p8⟩:=k n w hw
    obtain ⟨q1,q2⟩:=a.back hn (h0:=a0) (by rw [List.getElem?_append_left (List.getElem?_eq_some_iff.1 p1).1];exact p1)
    obtain ⟨q3,q4⟩:=b.back hn (h0:=a1) (by rw [List.getElem?_append_left (List.getElem?_eq_some_iff.1 p2).1];exact p2)
    rw [←u0] at q1 q2
    rw [←u1] at q3 q4
    refine ⟨h.ne,⟨_,_,d0,d1,q1,q3,p3.eqm (p3.ok.of_eq q1.ok q2) q2,p4.eqm (p4.ok.of_eq q3.ok q4) q4,p5,p6,by omega,by omega,fun n' w' hw' => ?_⟩,by rw [List.length_take,List.length_take];omega,by rw [List.length_take];omega,jl⟩
    have hlt:n' <n:=by have:=(List.getElem?_eq_some_iff.1 hw').1;rw [List.length_take] at this;omega
    rw [List.getElem?_take_of_lt hlt] at hw'
    obtain ⟨a0,a1,d0,d1,p1,p2,p3,p4,p5,p6,p7,p8⟩:=k n' w' hw'
    exact ⟨a0,a1,d0,d1,by rw [List.getElem?_take_of_lt hlt];exact p1,by rw [List.getElem?_take_of_lt hlt];exact p2,p3,p4,p5,p6,by omega,by omega⟩
  · subst hn'
    rw [List.drop_length] at u0 u1
    have e0:m0' =m0:=u0
    have e1:m1' =m1:=u1
    subst e0 e1
    rw [List.take_length]
    exact h.mono fun _ _ q=>q
theorem SPl.keep {K:MK} {E:Nat->KV->Value->Ent} {b0 b1 i:Nat} {m0 m1:KV} {L:List Ent} {bm:KV} {v0 v1:Slc} {ws:List (Slc×Slc)} (h:SPl K E b0 b1 i m0 m1 L bm v0 v1 ws):SPl K E b0 b1 (i+1) m0 m1 [] bm v0 v1 []:=by
  obtain ⟨h0,h1,l0,l1,a,b,c,d,e,f,g,j,k⟩:=h.ex
  exact ⟨h.ne,⟨[],[],l0,l1,Hist.start _ a.ok,Hist.start _ b.ok,c,d,e,f,by omega,by omega,fun n w q=>by simp at q⟩,rfl,Nat.zero_le _,fun e q=>by cases q⟩
theorem SPl.same {K:MK} {E:Nat->KV->Value->Ent} {b0 b1 i:Nat} {m0 m1:KV} {L:List Ent} {bm:KV} {v0 v1:Slc} {ws:List (Slc×Slc)} (h:SPl K E b0 b1 i m0 m1 L bm v0 v1 ws):SPl K E b0 b1 (i+1) m0 m1 L bm v0 v1 ws:=h.mono fun _ _ q=>q
def SPh (K:MK) (E:Nat->KV->Value->Ent) (b0 b1 i:Nat) (m0 m1:KV) (L:List Ent) (bm:KV) (v0 v1:Slc) (wr:RK 2):Prop:= ∃ws,vals wr.1=ws.map wV/\SPl K E b0 b1 i m0 m1 L bm v0 v1 ws
theorem wV_inj {x y:Slc×Slc} (h:wV x=wV y):x=y:=by
  obtain ⟨⟨a,b,c⟩,d,e,f⟩:=x
  obtain ⟨⟨a',b',c'⟩,d',e',f'⟩:=y
  simp [wV,slV] at h
  obtain ⟨⟨rfl,rfl,rfl⟩,rfl,rfl,rfl⟩:=h
  rfl
theorem SPh.at_ {K:MK} {E:Nat->KV->Value->Ent} {b0 b1 i:Nat} {m0 m1:KV} {L:List Ent} {bm:KV} {v0 v1:Slc} {wr:RK 2} (h:SPh K E b0 b1 i m0 m1 L bm v0 v1 wr):(vals wr.1).length=L.length/\ ∀n,n<L.length-> ∃x0:Slc×Slc,(vals wr.1)[n]? =some (wV x0):=by
  obtain ⟨ws,h1,h2⟩:=h
  have hl:(vals wr.1).length=L.length:=by rw [h1,List.length_map,h2.wl]
  refine ⟨hl,fun n hn=> ?_⟩
  rw [h1,List.getElem?_map,List.getElem?_eq_getElem (by rw [h2.wl];exact hn)]
  exact ⟨_,rfl⟩
theorem vals_takeK {k:Nat} (r:RK k) (n:Nat):vals (r.take n).1=(vals r.1).take n:=vals_take r.1 n
theorem SPl.cast {K:MK} {E:Nat->KV->Value->Ent} {b0 b1 i:Nat} {m0 m1:KV} {L:List Ent} {bm:KV} {v0 v1:Slc} {ws ws' :List (Slc×Slc)} (h:SPl K E b0 b1 i m0 m1 L bm v0 v1 ws) (e:ws=ws'):SPl K E b0 b1 i m0 m1 L bm v0 v1 ws' :=e▸h
theorem swap_snoc (ws:List (Slc×Slc)) (v0 v1:Slc):List.map Prod.swap (List.map Prod.swap ws++ [(v1,v0)])=ws++ [(v0,v1)]:=by
  simp [List.map_append,Function.comp_def]
theorem swap_id (ws:List (Slc×Slc)):List.map Prod.swap (List.map Prod.swap ws)=ws:=by simp [Function.comp_def]
theorem undoAll_two {K:MK} {b0 b1:Nat} {m0 m1 m0' m1' :KV} {E:List Ent} (h:undoAll E [(K,b0,m0),(K,b1,m1)]= [(K,b0,m0'),(K,b1,m1')]):m0' =undoB b0 E m0/\m1' =undoB b1 E m1:=by
  rw [undoAll_map] at h
  simp only [List.map_cons,List.map_nil,List.cons.injEq,Prod.mk.injEq,true_and,and_true] at h
  exact ⟨h.1.symm,h.2.symm⟩
theorem keep_drop {P:Program} {f:FuncId} {a:Array Value} {A:Slot} {X:Type} {v:X->Value} {us:X->List Slot} {Φ:X->Prop} (h:CallT P f a [A] X v us Φ) (B:Slot):CallT P f a [A,B] X v us Φ:=
  (h.frame [B]).conv (fun _ _ q=>q) fun _ _=>Imp.drop _ [B]
theorem mod2_0 {a:Int} (h:(Int.tmod a 2==(0:Int))=true):IntKind.i64.wrap (Int.tmod a 2)=0:=by rw [beq_iff_eq.1 h];rfl
theorem mod2_1 {a:Int} (ha:0<=a) (h:(Int.tmod a 2==(0:Int))=false):IntKind.i64.wrap (Int.tmod a 2)=1:=by
  have h1:Int.tmod a 2=a%2:=Int.tmod_eq_emod_of_nonneg ha
  have h2:=beq_eq_false_iff_ne.1 h
  rw [h1] at h2 ⊢
  rw [show a%2=1 by omega];rfl
theorem ws_get {ws:List (Slc×Slc)} {r:Row} (h:vals r=ws.map wV) {n:Nat} {x:Slc×Slc} (hx:(vals r)[n]? =some (wV x)):ws[n]? =some x:=by
  rw [h,List.getElem?_map] at hx
  cases hl:ws[n]? with
  | none=>rw [hl] at hx;cases hx
  | some y=>rw [hl] at hx;simp only [Option.map_some,Option.some.injEq] at hx;rw [wV_inj hx]
theorem ws_app {ws:List (Slc×Slc)} {r y:Row} {x:Slc×Slc} (h:vals r=ws.map wV) (ha:vals y=vals r++ [wV x]):vals y=(ws++ [x]).map wV:=by rw [ha,h];simp
theorem ws_cut {ws:List (Slc×Slc)} {r:RK 2} (h:vals r.1=ws.map wV) (n:Nat):vals (r.take n).1=(ws.take n).map wV:=by rw [vals_takeK,h,List.map_take]
theorem cut_min {most:Int} {l:PL} {r:Row} (h:vals r=pvs l):Int.toNat (if (if ((vlen (sv r):Nat):Int)<most then ((vlen (sv r):Nat):Int) else most)>0 then (if ((vlen (sv r):Nat):Int)<most then ((vlen (sv r):Nat):Int) else most) else 0)=min (Int.toNat most) l.length:=by
  rw [vlen_sv,h,pvs_len,cut_len]
theorem pvs_min {l:PL} {most:Int}:List.take (Int.toNat most) (pvs l)=pvs (l.take (min (Int.toNat most) l.length)):=by
  rw [pvs_take]
  congr 1
  rcases Nat.le_total (Int.toNat most) l.length with h | h
  · rw [Nat.min_eq_left h]
  · rw [Nat.min_eq_right h,List.take_length,List.take_of_length_le h]
theorem wf_i64b {n:Int} (h:(Lit.int .i64 n).wf=true): -9223372036854775808<=n/\n<=9223372036854775807:=by
  simp only [Lit.wf,Bool.and_eq_true,decide_eq_true_eq] at h
  exact h
theorem nodup2 {a b:Nat} (h: [a,b].Nodup): ¬ (a=b):=by
  intro e
  subst e
  simp at h
end Go.Sx
namespace Go.Sx
open Go
theorem trod_field {H:Type} {enc:TypeId×Value->H} {P:Program} {w:World} {base:Nat} {sp:Nat->Bool} {held:Bool} {fs:Array Field} {cs:List Value} {xs:List (DataW H×List MemPlace)} {n:Nat} (hlen:xs.length=fs.size)
    (hf: ∀ (i:Nat) (f:Field),fs[i]? =some f->DataW.trod enc P w base sp held n f.type ((cs.drop f.offset).take (P.cellsOf f.type))=xs[i]?) (i:Nat) {f:Field} (h:fs[i]? =some f) {t off k:Nat} (ht:f.type=t) (ho:f.offset=off) (hk:P.cellsOf t=k):
    ∃y,DataW.trod enc P w base sp held n t ((cs.drop off).take k)=some y:=by
  have hi:i<fs.size:=by
    rcases Nat.lt_or_ge i fs.size with q | q
    · exact q
    · rw [Array.getElem?_eq_none q] at h;cases h
  have g:=hf i f h
  rw [ht,ho,hk,List.getElem?_eq_getElem (by omega)] at g
  exact ⟨_,g⟩
end Go.Sx
