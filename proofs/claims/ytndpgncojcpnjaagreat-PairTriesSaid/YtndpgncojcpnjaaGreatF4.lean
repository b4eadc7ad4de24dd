/- A part of the prover's own frame for walking code (see the claim's other texts). -/
import Derived.Test.YtndpgncojcpnjaaGreatF2
import Derived.Test.YtndpgncojcpnjaaGreatF3
import Derived.Carry
set_option linter.unusedVariables false
set_option linter.unusedSimpArgs false
namespace Go.Sx
open Go.RowKit
structure BkL where
  i:Nat
  s:BS
  xs:List Int
  xk:List Int
  mark:Int
  b:Nat
  bm:Nat
  bs:Nat
  bj:Nat
  c9:Nat
  c10:Nat
theorem gt_load {xs:List Int} {t p:Nat} {z:Int} (h:z=xs.getD (0+t*18+p*1) 0):z=gt xs (t:Int) (p:Int):=by
  rw [h];unfold gt;rw [Int.toNat_natCast,Int.toNat_natCast]
end Go.Sx
namespace Go.Sx
theorem tks_len (xs:List Int): ∀n,(tks xs n).length<=n
  | 0=>Nat.le_refl _
  | n + 1 => by
    rw [tks,List.length_append]
    have:=tks_len xs n
    split<;>simp<;>omega
theorem DRT.len72 {Kb Ks:MK} {mb ms:KV} {xs:List Int} (h:DRT Kb Ks mb ms xs):mb.length<=150:=by
  have hi:Pairs2 (mb.map (·.1)):=fun v hv=>by
    obtain ⟨t,p,e,_⟩:=key_in h.inr hv
    exact ⟨t,p,e⟩
  obtain ⟨z,hz⟩:=keysOf2_wit hi h.kb.once
  have hz' :KeysOf2 mb (vals z.1):=hz
  have h1:=hz'.len
  rw [h.keys hz'] at h1
  have:=tks_len xs 72
  omega
end Go.Sx
namespace Go.Sx
open Go.RowKit Go.ChangeShapes Go.WideShapes
section
variable {H:Type} {enc:TypeId×Value->H} {P:Program}
theorem slice_cells {t e:TypeId} {W:World} {r:Reach} {b0:Nat} {v:Value} (hu:P.underlying t=some (.slice e)) (hval:Value.okWide P W r b0 t v):v.cells= #[v]:=by
  cases v<;>simp [Value.okWide,hu] at hval<;>first | rfl | simp [Cell.okWide,Cell.ok,hu] at hval
theorem below_trodAll {W W' :World} (hl:laidOutB P=true): ∀ {ts:List TypeId} {vs:List Value} {ds:List (DataW H)} {ps:List MemPlace},(∀t∈ts,P.readableRec t=true/\t<P.types.size)->
    DataW.TrodAll enc P W 0 (fun _=>true) true ts vs ds ps->Below W.heap.size W W' ->(∀x∈ps,x.block<W.heap.size)->DataW.TrodAll enc P W' 0 (fun b=>decide (b<W.heap.size)) true ts vs ds ps
  | [], vs, ds, ps, _, h, _, _ => by
    obtain ⟨rfl,rfl,rfl⟩:=trodAll_nil h
    exact rfl
  | t :: ts, vs, ds, ps, ht, h, hb, hlt => by
    obtain ⟨v,vs',d,ds',p,q,rfl,rfl,rfl,hd,hr⟩:=trodAll_cons h
    obtain ⟨h1,h2⟩:=ht t (List.mem_cons_self ..)
    exact ⟨p,q,Below.trod hl h1 h2 hd hb (fun x hx=>hlt x (List.mem_append_left _ hx)),below_trodAll hl (fun t' h' =>ht t' (List.mem_cons_of_mem _ h')) hr hb (fun x hx=>hlt x (List.mem_append_right _ hx)),rfl⟩
theorem post_of_below2 {f:Func} {s:ChangeSpec} {apart fresh handsOn:Bool} {W W' :World} {args:Array Value} {v:Value} {ds gs:List (DataW H)} {before:List MemPlace} (hl:laidOutB P=true) (ht: ∀t∈f.params.toList,P.readableRec t=true/\t<P.types.size)
    (hW:DataW.Whole enc P f.params.toList s.vars apart W args.toList ds gs before)
    (hres: ∀ (b:Nat) (sp:Nat->Bool) (hd:Bool),DataW.TrodAll enc P W' b sp hd f.resultTypes.toList (v.resultList f.resultTypes.size) (s.fn H (ds++gs)).results [])
    (hvars:s.vars= []) (hargs:(s.fn H (ds++gs)).args=ds) (hvs:(s.fn H (ds++gs)).vars= []) (hb:Below W.heap.size W W'):
    s.post enc P f apart fresh handsOn false W args v W' :=by
  have hlt:=hW.lt
  have hW0:=hW
  obtain ⟨p,q,hA,hV,rfl,hz,hn⟩:=hW0
  rw [hvars] at hV
  obtain ⟨rfl,rfl⟩:=trodVars_none hV
  refine ⟨ds,[],_,[],p,[],hW,hres _ _ _,?_,?_,World.keptBut_mono (fun x hx=>⟨hx,?_⟩) (hb.frame (· ∈p++ [])),fun h=>by cases h⟩
  · rw [hargs]
    exact below_trodAll hl ht hA hb (fun x hx=>hlt x (List.mem_append_left _ hx))
  · rw [hvars,hvs];exact rfl
  · simp at hx;exact Or.inr (Or.inl hx)
end
end Go.Sx
namespace Go.Sx
open Go
theorem trod_field {H:Type} {enc:TypeId×Value->H} {P:Program} {w:World} {base:Nat} {sp:Nat->Bool} {held:Bool} {fs:Array Field} {cs:List Value} {xs:List (DataW H×List MemPlace)} {n:Nat} (hlen:xs.length=fs.size)
    (hf: ∀ (i:Nat) (f:Field),fs[i]? =some f->DataW.trod enc P w base sp held n f.type ((cs.drop f.offset).take (P.cellsOf f.type))=xs[i]?) (i:Nat) {f:Field} (h:fs[i]? =some f) {t off k:Nat} (ht:f.type=t) (ho:f.offset=off) (hk:P.cellsOf t=k):
    ∃y,DataW.trod enc P w base sp held n t ((cs.drop off).take k)=some y:=by
  have hi:i<fs.size:=by
    rcases Nat.lt_or_ge i fs.size with q | q
    · exact q
    · rw [Array.getElem?_eq_none q] at h;cases h
  have g:=hf i f h
  rw [ht,ho,hk,List.getElem?_eq_getElem (by omega)] at g
  exact ⟨_,g⟩
end Go.Sx
namespace Go.Sx
open Go.RowKit Go.ChangeShapes Go.WideShapes
section
variable {H:Type} {enc:TypeId×Value->H} {P:Program}
def OpensW (P : Program) (t : TypeId) (n : Nat) {X : Type} (val : X -> Value) (Ok : World -> X -> Prop) : Prop :=
  ∀ (H : Type) (enc : TypeId × Value -> H) (W : World) (base : Nat) (sp : Nat -> Bool) (held : Bool) (fuel : Nat) (cs : List Value) (y : DataW H × List MemPlace),
    cs.length=n->DataW.trod enc P W base sp held fuel t cs=some y-> ∃x,cs=(val x).cells.toList/\Ok W x
theorem Opens.w {t:TypeId} {n:Nat} {X:Type} {val:X->Value} {Ok:X->Prop} (h:Opens P t n val Ok):OpensW P t n val (fun _=>Ok):=h
theorem open_sliceW {X : Type} {val : X -> Value} {Ok : World -> X -> Prop} {t e : TypeId} {n : Nat} (hu : P.underlying t = some (.slice e)) (hc : P.cellsOf e = n) (hn : 0 < n) (O : OpensW P e n val Ok) {W : World} {sp : Nat -> Bool} {held : Bool} {base : Nat} {v : Value} {d : DataW H} {ps : List MemPlace}
    (hd:DataW.Trod enc P W base sp held t v d ps) (h1:v.cells= #[v]): ∃xs:List X,SlX W n val (Ok W) v xs/\xs.length<=maxLen:=by
  obtain ⟨fuel,hf⟩:=hd
  rw [h1] at hf
  rcases DataW.trod_slice hu hf with ⟨hv,_⟩ | ⟨a,len,cap,elems,rest,m,hm,hv,hx,hb,hlc,hcm,hel,hget,_⟩
  · refine ⟨[],⟨⟨?_,?_,fun i e h=>by simp at h⟩,fun x h=>by cases h⟩,by simp⟩
    · simp at hv;subst hv;rfl
    · simp at hv;exact .inl hv
  · simp at hv; subst hv
    rw [hc] at hget
    have key: ∀i,i<len-> ∃x:X,Ok W x/\ ∀j c,(val x).cells.toList[j]? =some c->W.cell? ((a.add (i*n)).add j)=some c:=by
      intro i hi
      have h:=hget i hi
      obtain ⟨y,hy⟩: ∃y,elems[i]? =some y:=⟨_,List.getElem?_eq_getElem (by omega)⟩
      rw [hy,Option.bind_eq_some_iff] at h
      obtain ⟨cs,h2,h3⟩:=h
      obtain ⟨hl,hcell⟩:=cells_get h2
      obtain ⟨x,hx,hok⟩:=O _ _ _ _ _ _ _ _ _ hl h3
      exact ⟨x,hok,fun j c hj=>hcell j c (by rw [hx];exact hj)⟩
    have len0: ∀i,i<len-> ∃x:X,Ok W x/\(val x).cells.toList.length=n/\ ∀j c,(val x).cells.toList[j]? =some c->W.cell? ((a.add (i*n)).add j)=some c:=by
      intro i hi
      have h:=hget i hi
      obtain ⟨y,hy⟩: ∃y,elems[i]? =some y:=⟨_,List.getElem?_eq_getElem (by omega)⟩
      rw [hy,Option.bind_eq_some_iff] at h
      obtain ⟨cs,h2,h3⟩:=h
      obtain ⟨hl,hcell⟩:=cells_get h2
      obtain ⟨x,hx,hok⟩:=O _ _ _ _ _ _ _ _ _ hl h3
      exact ⟨x,hok,by rw [←hx];exact hl,fun j c hj=>hcell j c (by rw [hx];exact hj)⟩
    have spot:0<len->a.spot=none:=by
      intro h0
      obtain ⟨x,_,hl,hcell⟩:=len0 0 h0
      have:=hcell 0 _ (List.getElem?_eq_getElem (by omega))
      unfold World.cell? at this
      split at this
      · rename_i cs _ _ _
        cases hs:a.spot with
        | none=>rfl
        | some s=>simp [Addr.add,hs] at this
      · cases this
    have build: ∀m,m<=len-> ∃xs:List X,xs.length=m/\(∀x∈xs,Ok W x)/\ ∀i x,xs[i]? =some x->(val x).cells.toList.length=n/\ ∀j c,(val x).cells.toList[j]? =some c->W.cell? ((a.add (i*n)).add j)=some c:=by
      intro m
      induction m with
      | zero=>exact fun _=>⟨([]:List X),rfl,⟨fun x h=>absurd h (by simp),fun i x h=>by simp at h⟩⟩
      | succ m ih =>
        intro hm
        obtain ⟨xs,hl,hok,hg⟩:=ih (by omega)
        obtain ⟨x,hx1,hx2,hx3⟩:=len0 m (by omega)
        refine ⟨xs++ [x],by simp [hl],fun y hy=> ?_,fun i y hy=> ?_⟩
        · rcases List.mem_append.1 hy with h | h
          · exact hok y h
          · simp at h;subst h;exact hx1
        · rcases Nat.lt_or_ge i m with hi | hi
          · rw [List.getElem?_append_left (by omega)] at hy;exact hg i y hy
          · rw [List.getElem?_append_right (by omega)] at hy
            have hi' :i=m:=by
              have:=(List.getElem?_eq_some_iff.1 hy).1
              simp at this;omega
            subst hi'
            rw [hl,Nat.sub_self] at hy
            simp at hy;subst hy
            exact ⟨hx2,hx3⟩
    obtain ⟨xs,hl,hok,hg⟩:=build len (Nat.le_refl _)
    refine ⟨xs,⟨⟨by simp [vlen,hl], .inr ⟨a,len,cap,rfl⟩,fun i e he=> ?_⟩,hok⟩,by omega⟩
    rw [List.getElem?_map] at he
    cases hxi:xs[i]? with
    | none=>rw [hxi] at he;cases he
    | some x =>
      rw [hxi] at he
      simp at he;subst he
      obtain ⟨g1,g2⟩:=hg i x hxi
      have hs:=spot (by have:=(List.getElem?_eq_some_iff.1 hxi).1;omega)
      refine ⟨a,len,cap,rfl,hs,g1,fun j c hj=> ?_⟩
      have:=g2 j c hj
      rw [add_add_spot hs] at this
      exact this
theorem opens_slice {X:Type} {val:X->Value} {Ok:World->X->Prop} {t e:TypeId} {n:Nat} (hu:P.underlying t=some (.slice e)) (hc:P.cellsOf e=n) (hn:0<n) (O:OpensW P e n val Ok):
    OpensW P t 1 (X:=Value×List X) (fun x=>x.1) (fun W x=>x.1.cells= #[x.1]/\SlX W n val (Ok W) x.1 x.2/\x.2.length<=maxLen):=by
  intro H enc W base sp held fuel cs y hl h
  obtain ⟨c,rfl⟩: ∃c,cs= [c]:=by
    match cs,hl with
    | [c],_=>exact ⟨c,rfl⟩
  have hcell:c.cells= #[c]:=by
    rcases DataW.trod_slice hu h with ⟨hv,_⟩ | ⟨a,len,cap,elems,rest,m,hm,hv,_⟩
    · have e1:c= .slice none 0 0:=by simpa using hv
      rw [e1];rfl
    · have e1:c= .slice (some a) len cap:=by simpa using hv
      rw [e1];rfl
  have hd:DataW.Trod enc P W base sp held t c y.1 y.2:=⟨fuel,by rw [hcell];exact h⟩
  obtain ⟨xs,h1,h2⟩:=open_sliceW hu hc hn O hd hcell
  exact ⟨(c,xs),by rw [hcell],hcell,h1,h2⟩
end
theorem SlX.inj {P:Program} {t:TypeId} {X:Type} {val:X->Value} {Ok:X->Prop} {n:Nat} (K:ElK P t n val Ok) {w:World} {v:Value} {xs ys:List X} (h:SlX w n val Ok v xs) (g:SlX w n val Ok v ys):xs=ys:=by
  have hl:xs.length=ys.length:=by rw [←h.vlen,←g.vlen]
  apply List.ext_getElem hl
  intro i h1 h2
  obtain ⟨o1,a,len,cap,e1,s1,c1⟩:=h.at (List.getElem?_eq_getElem h1)
  obtain ⟨o2,a',len',cap',e2,s2,c2⟩:=g.at (List.getElem?_eq_getElem h2)
  rw [e1] at e2
  injection e2 with e3 e4 e5
  injection e3 with e3
  subst e3
  refine K.inj _ _ o1 o2 ?_
  have k1:=K.len xs[i]
  have k2:=K.len ys[i]
  apply List.ext_getElem (by rw [k1,k2])
  intro j j1 j2
  have q1:=c1 j _ (List.getElem?_eq_getElem j1)
  have q2:=c2 j _ (List.getElem?_eq_getElem j2)
  rw [q1] at q2
  exact Option.some.inj q2
end Go.Sx
namespace Go.Sx
open Go.RowKit
abbrev TT:=List Int×List Int
abbrev DT:=Int×Int×Int×Int×Int×Int
def actA (xs:List Int) (k t p q n:Int):List Int×Int:=if k%3=0 then rMint xs t p n else if k%3=1 then rBurn xs t p n else rMove xs t p q n
def oneA (x:TT) (d:DT):TT×Int:=
  if d.1%2=0 then (((actA x.1 d.2.1 d.2.2.1 d.2.2.2.1 d.2.2.2.2.1 d.2.2.2.2.2).1,x.2),(actA x.1 d.2.1 d.2.2.1 d.2.2.2.1 d.2.2.2.2.1 d.2.2.2.2.2).2)
  else ((x.1,(actA x.2 d.2.1 d.2.2.1 d.2.2.2.1 d.2.2.2.2.1 d.2.2.2.2.2).1),(actA x.2 d.2.1 d.2.2.1 d.2.2.2.1 d.2.2.2.2.1 d.2.2.2.2.2).2)
def runA (x:TT):List DT->Int->TT×Int
  | [],f=>(x,f)
  | d::ds,f=>if (oneA x d).2≠0 then oneA x d else runA (oneA x d).1 ds f
structure PS where
  m0:KV
  s0:KV
  m1:KV
  s1:KV
  L:List Ent
structure PRT (Kb Ks:MK) (s:PS) (x:TT):Prop where
  a:DRT Kb Ks s.m0 s.s0 x.1
  b:DRT Kb Ks s.m1 s.s1 x.2
theorem PRT.start {Kb Ks:MK} {L:List Ent}:PRT Kb Ks ⟨[],[],[],[],L⟩ (List.replicate 72 0,List.replicate 72 0):=⟨DRT.start,DRT.start⟩
def EntQ (Kb Ks:MK) (E E' :Nat->KV->Value->Ent) (b0 c0 b1 c1:Nat) (e:Ent):Prop:=
  ((∃a key,e=E b0 a key/\Kb.OkK key/\KOK Kb a)∨(∃a key,e=E' c0 a key/\Ks.OkK key/\KOK Ks a))∨((∃a key,e=E b1 a key/\Kb.OkK key/\KOK Kb a)∨(∃a key,e=E' c1 a key/\Ks.OkK key/\KOK Ks a))
def DQ (Kb Ks:MK) (E E' :Nat->KV->Value->Ent) (b0 c0 b1 c1:Nat) (s s' :PS) (k:Nat):Prop:=
  ∃Es:List Ent,s'.L=s.L++Es/\Es.length<=k/\Und b0 s.m0 s'.m0 Es/\Und c0 s.s0 s'.s0 Es/\Und b1 s.m1 s'.m1 Es/\Und c1 s.s1 s'.s1 Es/\ ∀e∈Es,EntQ Kb Ks E E' b0 c0 b1 c1 e
section
variable {Kb Ks:MK} {E E' :Nat->KV->Value->Ent} {b0 c0 b1 c1:Nat}
theorem DQ.refl {s:PS} {k:Nat}:DQ Kb Ks E E' b0 c0 b1 c1 s s k:=⟨[],(List.append_nil _).symm,Nat.zero_le _,Und.nil _ _,Und.nil _ _,Und.nil _ _,Und.nil _ _,fun e h=>by cases h⟩
theorem DQ.trans {s s' s'' :PS} {j k:Nat} (h:DQ Kb Ks E E' b0 c0 b1 c1 s s' j) (g:DQ Kb Ks E E' b0 c0 b1 c1 s' s'' k):DQ Kb Ks E E' b0 c0 b1 c1 s s'' (j+k):=by
  obtain ⟨E1,e1,l1,u1,u2,u3,u4,a1⟩:=h
  obtain ⟨E2,e2,l2,v1,v2,v3,v4,a2⟩:=g
  refine ⟨E1++E2,by rw [e2,e1,List.append_assoc],by rw [List.length_append];omega,u1.trans v1,u2.trans v2,u3.trans v3,u4.trans v4,fun e he=> ?_⟩
  rcases List.mem_append.1 he with q | q
  · exact a1 e q
  · exact a2 e q
theorem DQ.up {s s' :PS} {j k:Nat} (h:DQ Kb Ks E E' b0 c0 b1 c1 s s' j) (hk:j<=k):DQ Kb Ks E E' b0 c0 b1 c1 s s' k:=by
  obtain ⟨Es,e,l,r⟩:=h;exact ⟨Es,e,by omega,r⟩
theorem DQ.len {s s' :PS} {k:Nat} (h:DQ Kb Ks E E' b0 c0 b1 c1 s s' k):s'.L.length<=s.L.length+k:=by
  obtain ⟨Es,e,l,_⟩:=h;rw [e,List.length_append];omega
theorem nodup4 (hn: [b0,c0,b1,c1].Nodup):b0≠c0/\b0≠b1/\b0≠c1/\c0≠b1/\c0≠c1/\b1≠c1:=by
  simp only [List.nodup_cons,List.mem_cons,List.not_mem_nil,or_false,not_or] at hn
  obtain ⟨⟨h1,h2,h3⟩,⟨h4,h5⟩,h6,_⟩:=hn
  exact ⟨h1,h2,h3,h4,h5,h6⟩
theorem DQ.of0 (hE: ∀b,EntOK b (E b)) (hE' : ∀b,EntOK b (E' b)) (hn: [b0,c0,b1,c1].Nodup) {m s m' s' m1 s1:KV} {L L' :List Ent} {k:Nat} (h:Dp Kb Ks E E' b0 c0 m s m' s' L L' k):DQ Kb Ks E E' b0 c0 b1 c1 ⟨m,s,m1,s1,L⟩ ⟨m',s',m1,s1,L'⟩ k:=by
  obtain ⟨Es,e,l,u,v,a⟩:=h
  obtain ⟨n1,n2,n3,n4,n5,n6⟩:=nodup4 hn
  have hb: ∀x∈Es,x.b=b0∨x.b=c0:=fun x hx=>by
    rcases a x hx with ⟨a0,k0,rfl,_⟩ | ⟨a0,k0,rfl,_⟩
    · exact .inl ((hE b0).b _ _)
    · exact .inr ((hE' c0).b _ _)
  refine ⟨Es,e,l,u,v,Und.others _ fun x hx=> ?_,Und.others _ fun x hx=> ?_,fun x hx=> .inl (a x hx)⟩
  · rcases hb x hx with q | q
    · rw [q];exact n2
    · rw [q];exact n4
  · rcases hb x hx with q | q
    · rw [q];exact n3
    · rw [q];exact n5
theorem DQ.of1 (hE: ∀b,EntOK b (E b)) (hE' : ∀b,EntOK b (E' b)) (hn: [b0,c0,b1,c1].Nodup) {m s m' s' m0 s0:KV} {L L' :List Ent} {k:Nat} (h:Dp Kb Ks E E' b1 c1 m s m' s' L L' k):DQ Kb Ks E E' b0 c0 b1 c1 ⟨m0,s0,m,s,L⟩ ⟨m0,s0,m',s',L'⟩ k:=by
  obtain ⟨Es,e,l,u,v,a⟩:=h
  obtain ⟨n1,n2,n3,n4,n5,n6⟩:=nodup4 hn
  have hb: ∀x∈Es,x.b=b1∨x.b=c1:=fun x hx=>by
    rcases a x hx with ⟨a0,k0,rfl,_⟩ | ⟨a0,k0,rfl,_⟩
    · exact .inl ((hE b1).b _ _)
    · exact .inr ((hE' c1).b _ _)
  refine ⟨Es,e,l,Und.others _ fun x hx=> ?_,Und.others _ fun x hx=> ?_,u,v,fun x hx=> .inr (a x hx)⟩
  · rcases hb x hx with q | q
    · rw [q];exact n2.symm
    · rw [q];exact n3.symm
  · rcases hb x hx with q | q
    · rw [q];exact n4.symm
    · rw [q];exact n5.symm
theorem undo4 {K1 K2 K3 K4:MK} {L:List Ent} {b0 c0 b1 c1:Nat} {x y z t x' y' z' t' :KV} (h:undoAll L [(K1,b0,x),(K2,c0,y),(K3,b1,z),(K4,c1,t)]= [(K1,b0,x'),(K2,c0,y'),(K3,b1,z'),(K4,c1,t')]):x' =undoB b0 L x/\y' =undoB c0 L y/\z' =undoB b1 L z/\t' =undoB c1 L t:=by
  rw [undoAll_map] at h
  simp only [List.map_cons,List.map_nil,List.cons.injEq,Prod.mk.injEq,true_and,and_true] at h
  exact ⟨h.1.symm,h.2.1.symm,h.2.2.1.symm,h.2.2.2.symm⟩
theorem DQ.back {m0 s0 m1 s1:KV} {s' :PS} {k:Nat} (h:DQ Kb Ks E E' b0 c0 b1 c1 ⟨m0,s0,m1,s1,[]⟩ s' k) {x x' :TT} (p:PRT Kb Ks ⟨m0,s0,m1,s1,[]⟩ x) (p' :PRT Kb Ks s' x') {n0 n1 n2 n3:KV} {L2:List Ent}
    (hu:undoAll s'.L [(Kb,b0,s'.m0),(Ks,c0,s'.s0),(Kb,b1,s'.m1),(Ks,c1,s'.s1)]= [(Kb,b0,n0),(Ks,c0,n1),(Kb,b1,n2),(Ks,c1,n3)]):PRT Kb Ks ⟨n0,n1,n2,n3,L2⟩ x:=by
  obtain ⟨Es,e,l,u1,u2,u3,u4,a⟩:=h
  obtain ⟨rfl,rfl,rfl,rfl⟩:=undo4 hu
  have e' :s'.L=Es:=e
  rw [e']
  obtain ⟨q1,q2⟩:=u1 _ p'.a.kb.once (EqM.refl _)
  obtain ⟨q3,q4⟩:=u2 _ p'.a.ks.once (EqM.refl _)
  obtain ⟨q5,q6⟩:=u3 _ p'.b.kb.once (EqM.refl _)
  obtain ⟨q7,q8⟩:=u4 _ p'.b.ks.once (EqM.refl _)
  exact ⟨p.a.eqm q1 q2 q3 q4,p.b.eqm q5 q6 q7 q8⟩
theorem DQ.eoks {P:Program} {bj:Nat} (hE: ∀ {b:Nat} {a:KV} {key:Value},Kb.OkK key->KOK Kb a->(E b a key).b=b/\EOK P bj Kb (E b a key)) (hE' : ∀ {b:Nat} {a:KV} {key:Value},Ks.OkK key->KOK Ks a->(E' b a key).b=b/\EOK P bj Ks (E' b a key)) {m0 s0 m1 s1:KV} {s' :PS} {k:Nat} (h:DQ Kb Ks E E' b0 c0 b1 c1 ⟨m0,s0,m1,s1,[]⟩ s' k):
    ∀e∈s'.L,∃y∈([(Kb,b0,s'.m0),(Ks,c0,s'.s0),(Kb,b1,s'.m1),(Ks,c1,s'.s1)]:List MS3),y.2.1=e.b/\EOK P bj y.1 e:=by
  obtain ⟨Es,e,_,_,_,_,_,a⟩:=h
  have e' :s'.L=Es:=e
  rw [e']
  intro x hx
  rcases a x hx with (⟨m,key,rfl,h1,h2⟩ | ⟨m,key,rfl,h1,h2⟩) | (⟨m,key,rfl,h1,h2⟩ | ⟨m,key,rfl,h1,h2⟩)
  · exact ⟨_,List.mem_cons_self ..,(hE h1 h2).1.symm,(hE h1 h2).2⟩
  · exact ⟨_,List.mem_cons_of_mem _ (List.mem_cons_self ..),(hE' h1 h2).1.symm,(hE' h1 h2).2⟩
  · exact ⟨_,List.mem_cons_of_mem _ (List.mem_cons_of_mem _ (List.mem_cons_self ..)),(hE h1 h2).1.symm,(hE h1 h2).2⟩
  · exact ⟨_,List.mem_cons_of_mem _ (List.mem_cons_of_mem _ (List.mem_cons_of_mem _ (List.mem_cons_self ..))),(hE' h1 h2).1.symm,(hE' h1 h2).2⟩
end
structure NZ (m:KV) (ns:List Int):Prop where
  len:ns.length=16
  eq: ∀k:Nat,k<16->nz m k=ns.getD k 0
  w: ∀k:Nat,W (ns.getD k 0)
  out: ∀k:Int,16<=k->nz m k=0
theorem NZ.start:NZ [] (List.replicate 16 0):=⟨rfl,fun k hk=>by rw [nz_nil,List.getD_eq_getElem?_getD,List.getElem?_replicate];simp [hk],fun k=>by rw [List.getD_eq_getElem?_getD,List.getElem?_replicate];split<;>(unfold W;decide),fun k _=>nz_nil k⟩
theorem NZ.at {m:KV} {ns:List Int} (h:NZ m ns) {k:Int} (h0:0<=k) (h1:k<16):nz m k=ns.getD k.toNat 0:=by
  have:=h.eq k.toNat (by omega)
  rwa [show ((k.toNat:Nat):Int)=k by omega] at this
theorem NZ.set {m:KV} {ns:List Int} (h:NZ m ns) {k v:Int} (h0:0<=k) (h1:k<16) (hv:W v):NZ (mset m (.int .u8 k) (.int .u64 v)) (ns.set k.toNat v):=by
  have hl:k.toNat<ns.length:=by rw [h.len];omega
  refine ⟨by simp [h.len],fun j hj=> ?_,fun j=> ?_,fun j hj=>by rw [nz_set,if_neg (by omega)];exact h.out j hj⟩
  · rw [nz_set,getD_set _ _ _ _ hl]
    by_cases e:j=k.toNat
    · rw [if_pos (by omega),if_pos e]
    · rw [if_neg (by omega),if_neg e,h.eq j hj]
  · rw [getD_set _ _ _ _ hl];split
    · exact hv
    · exact h.w j
def tryA (x : TT) (ns : List Int) (k nn : Int) (ds : List DT) (f : Int) : (TT × List Int) × Int :=
  if 16<=k then ((x,ns),1) else if nn≠ns.getD k.toNat 0 then ((x,ns),9) else
    if (runA x ds f).2≠0 then ((x,ns),(runA x ds f).2) else (((runA x ds f).1,ns.set k.toNat (IntKind.u64.wrap (nn+1))),0)
structure TryR (Kb Ks:MK) (y:(TT×List Int)×Int) (z:Int×KV×PS):Prop where
  e:z.1=y.2
  n:NZ z.2.1 y.1.2
  p:PRT Kb Ks z.2.2 y.1.1
section
variable {Kb Ks:MK} {x:TT} {ns:List Int} {k nn f:Int} {ds:List DT} {mn:KV} {s:PS}
theorem TryR.arg (h:16<=k) (hn:NZ mn ns) (hp:PRT Kb Ks s x):TryR Kb Ks (tryA x ns k nn ds f) (1,mn,s):=by
  have e:tryA x ns k nn ds f=((x,ns),1):=if_pos h
  rw [e];exact ⟨rfl,hn,hp⟩
theorem TryR.nonce (k0:0<=k) (h: ¬16<=k) (h2:nn≠nz mn k) (hn:NZ mn ns) (hp:PRT Kb Ks s x):TryR Kb Ks (tryA x ns k nn ds f) (9,mn,s):=by
  have e:tryA x ns k nn ds f=((x,ns),9):=by unfold tryA;rw [if_neg h,if_pos (by rw [←hn.at k0 (by omega)];exact h2)]
  rw [e];exact ⟨rfl,hn,hp⟩
theorem TryR.no {e:Int} (k0:0<=k) (h: ¬16<=k) (h2:nn=nz mn k) (he:e=(runA x ds f).2) (h3:e≠0) (hn:NZ mn ns) (hp:PRT Kb Ks s x):TryR Kb Ks (tryA x ns k nn ds f) (e,mn,s):=by
  have q:tryA x ns k nn ds f=((x,ns),(runA x ds f).2):=by unfold tryA;rw [if_neg h,if_neg (by rw [←hn.at k0 (by omega)];simp [h2]),if_pos (by rw [←he];exact h3)]
  rw [q];exact ⟨he,hn,hp⟩
theorem TryR.yes {e:Int} (k0:0<=k) (h: ¬16<=k) (h2:nn=nz mn k) (he:e=(runA x ds f).2) (h3:e=0) (hn:NZ mn ns) (hp:PRT Kb Ks s (runA x ds f).1):TryR Kb Ks (tryA x ns k nn ds f) (e,mset mn (.int .u8 k) (.int .u64 (IntKind.u64.wrap (nn+1))),s):=by
  have q:tryA x ns k nn ds f=(((runA x ds f).1,ns.set k.toNat (IntKind.u64.wrap (nn+1))),0):=by unfold tryA;rw [if_neg h,if_neg (by rw [←hn.at k0 (by omega)];simp [h2]),if_neg (by rw [←he];simp [h3])]
  rw [q];exact ⟨h3,hn.set k0 (by omega) (W_wrap _),hp⟩
end
theorem runA_go {x:TT} {d:DT} {ds:List DT} {f:Int} (h:(oneA x d).2=0):runA x (d::ds) f=runA (oneA x d).1 ds f:=if_neg (by simp [h])
theorem runA_stop {x:TT} {d:DT} {ds:List DT} {f:Int} (h:(oneA x d).2≠0):runA x (d::ds) f=oneA x d:=if_pos h
theorem runA_bad {f:Int} (hf:f≠0): ∀ (ds:List DT) (x:TT),(runA x ds f).2≠0
  | [],_=>hf
  | d :: ds, x => by
    by_cases h:(oneA x d).2=0
    · rw [runA_go h];exact runA_bad hf ds _
    · rw [runA_stop h];exact h
theorem tryA_bad {f:Int} (hf:f≠0) (x:TT) (ns:List Int) (k nn:Int) (ds:List DT):(tryA x ns k nn ds f).1=(x,ns)/\(tryA x ns k nn ds f).2≠0:=by
  unfold tryA
  split
  · exact ⟨rfl,fun e=>absurd (show (1:Int)=0 from e) (by decide)⟩
  · split
    · exact ⟨rfl,fun e=>absurd (show (9:Int)=0 from e) (by decide)⟩
    · rw [if_pos (runA_bad hf ds x)];exact ⟨rfl,runA_bad hf ds x⟩
section
variable {Kb Ks:MK} {E E' :Nat->KV->Value->Ent} {b0 c0 b1 c1:Nat}
def dOK (d:DT):Prop:=0<=d.2.2.1/\0<=d.2.2.2.1/\0<=d.2.2.2.2.1/\R4 d.2.2.2.2.2
theorem one0 (hE: ∀b,EntOK b (E b)) (hE' : ∀b,EntOK b (E' b)) (hn: [b0,c0,b1,c1].Nodup) {m s m1 s1:KV} {L:List Ent} {x:TT} (h:PRT Kb Ks ⟨m,s,m1,s1,L⟩ x) {d:DT} (h0:d.1%2=0) {y:Int×BS}
    (hy:y.1=(actA x.1 d.2.1 d.2.2.1 d.2.2.2.1 d.2.2.2.2.1 d.2.2.2.2.2).2/\DRT Kb Ks y.2.1 y.2.2.1 (actA x.1 d.2.1 d.2.2.1 d.2.2.2.1 d.2.2.2.2.1 d.2.2.2.2.2).1/\DA Kb Ks E E' b0 c0 (m,s,L) y.2):
    y.1=(oneA x d).2/\PRT Kb Ks ⟨y.2.1,y.2.2.1,m1,s1,y.2.2.2⟩ (oneA x d).1/\DQ Kb Ks E E' b0 c0 b1 c1 ⟨m,s,m1,s1,L⟩ ⟨y.2.1,y.2.2.1,m1,s1,y.2.2.2⟩ 2:=by
  unfold oneA
  rw [if_pos h0]
  exact ⟨hy.1,⟨hy.2.1,h.b⟩,DQ.of0 hE hE' hn hy.2.2⟩
theorem one1 (hE: ∀b,EntOK b (E b)) (hE' : ∀b,EntOK b (E' b)) (hn: [b0,c0,b1,c1].Nodup) {m s m0 s0:KV} {L:List Ent} {x:TT} (h:PRT Kb Ks ⟨m0,s0,m,s,L⟩ x) {d:DT} (h0: ¬d.1%2=0) {y:Int×BS}
    (hy:y.1=(actA x.2 d.2.1 d.2.2.1 d.2.2.2.1 d.2.2.2.2.1 d.2.2.2.2.2).2/\DRT Kb Ks y.2.1 y.2.2.1 (actA x.2 d.2.1 d.2.2.1 d.2.2.2.1 d.2.2.2.2.1 d.2.2.2.2.2).1/\DA Kb Ks E E' b1 c1 (m,s,L) y.2):
    y.1=(oneA x d).2/\PRT Kb Ks ⟨m0,s0,y.2.1,y.2.2.1,y.2.2.2⟩ (oneA x d).1/\DQ Kb Ks E E' b0 c0 b1 c1 ⟨m0,s0,m,s,L⟩ ⟨m0,s0,y.2.1,y.2.2.1,y.2.2.2⟩ 2:=by
  unfold oneA
  rw [if_neg h0]
  exact ⟨hy.1,⟨h.a,hy.2.1⟩,DQ.of1 hE hE' hn hy.2.2⟩
theorem act_mint (nb:NumK Kb) (ns:NumK Ks) (ob: ∀t p,Kb.OkK (kk t p)) (os: ∀t:Int,Ks.OkK (.int .u8 t)) (hE: ∀b,EntOK b (E b)) (hE' : ∀b,EntOK b (E' b)) (hn:b0≠c0) {m s:KV} {L:List Ent} {xs:List Int} (h:DRT Kb Ks m s xs) {k t p q n:Int} (r:R4 n) (t0:0<=t) (p0:0<=p) (hk:k%3=0) {y:Int×BS} (hy:y=bMint (E b0) (E' c0) (m,s,L) t p n):
    y.1=(actA xs k t p q n).2/\DRT Kb Ks y.2.1 y.2.2.1 (actA xs k t p q n).1/\DA Kb Ks E E' b0 c0 (m,s,L) y.2:=by
  have e:actA xs k t p q n=rMint xs t p n:=if_pos hk
  rw [e]
  obtain ⟨a1,a2⟩:=h.mint nb ns ob os r t0 p0 hy
  exact ⟨a1,a2,mint_da (hE _) (hE' _) hn ob os h.kb h.ks hy⟩
theorem act_burn (nb:NumK Kb) (ns:NumK Ks) (ob: ∀t p,Kb.OkK (kk t p)) (os: ∀t:Int,Ks.OkK (.int .u8 t)) (hE: ∀b,EntOK b (E b)) (hE' : ∀b,EntOK b (E' b)) (hn:b0≠c0) {m s:KV} {L:List Ent} {xs:List Int} (h:DRT Kb Ks m s xs) {k t p q n:Int} (r:R4 n) (t0:0<=t) (p0:0<=p) (hk: ¬k%3=0) (hk1:k%3=1) {y:Int×BS} (hy:y=bBurn (E b0) (E' c0) (m,s,L) t p n):
    y.1=(actA xs k t p q n).2/\DRT Kb Ks y.2.1 y.2.2.1 (actA xs k t p q n).1/\DA Kb Ks E E' b0 c0 (m,s,L) y.2:=by
  have e:actA xs k t p q n=rBurn xs t p n:=by unfold actA;rw [if_neg hk,if_pos hk1]
  rw [e]
  obtain ⟨a1,a2⟩:=h.burn nb ns ob os r t0 p0 hy
  exact ⟨a1,a2,burn_da (hE _) (hE' _) hn ob os h.kb h.ks hy⟩
theorem act_move (nb:NumK Kb) (ns:NumK Ks) (ob: ∀t p,Kb.OkK (kk t p)) (hE: ∀b,EntOK b (E b)) (hE' : ∀b,EntOK b (E' b)) (hn:b0≠c0) {m s:KV} {L:List Ent} {xs:List Int} (h:DRT Kb Ks m s xs) {k t p q n:Int} (r:R4 n) (t0:0<=t) (p0:0<=p) (q0:0<=q) (hk: ¬k%3=0) (hk1: ¬k%3=1) {y:Int×BS} (hy:y=bMove (E b0) (m,s,L) t p q n):
    y.1=(actA xs k t p q n).2/\DRT Kb Ks y.2.1 y.2.2.1 (actA xs k t p q n).1/\DA Kb Ks E E' b0 c0 (m,s,L) y.2:=by
  have e:actA xs k t p q n=rMove xs t p q n:=by unfold actA;rw [if_neg hk,if_neg hk1]
  rw [e]
  obtain ⟨a1,a2⟩:=h.move nb ns ob r t0 p0 q0 hy
  exact ⟨a1,a2,move_da (hE _) (hE' _) hn nb ob h.kb r hy⟩
theorem act_all (nb:NumK Kb) (ns:NumK Ks) (ob: ∀t p,Kb.OkK (kk t p)) (os: ∀t:Int,Ks.OkK (.int .u8 t)) (hE: ∀b,EntOK b (E b)) (hE' : ∀b,EntOK b (E' b)) (hn:b0≠c0) {m s:KV} {L:List Ent} {xs:List Int} (h:DRT Kb Ks m s xs) {k t p q n:Int} (r:R4 n) (t0:0<=t) (p0:0<=p) (q0:0<=q):
    ∃y:Int×BS,y.1=(actA xs k t p q n).2/\DRT Kb Ks y.2.1 y.2.2.1 (actA xs k t p q n).1/\DA Kb Ks E E' b0 c0 (m,s,L) y.2:=by
  by_cases h0:k%3=0
  · exact ⟨_,act_mint nb ns ob os hE hE' hn h r t0 p0 h0 rfl⟩
  · by_cases h1:k%3=1
    · exact ⟨_,act_burn nb ns ob os hE hE' hn h r t0 p0 h0 h1 rfl⟩
    · exact ⟨_,act_move nb ns ob hE hE' hn h r t0 p0 q0 h0 h1 rfl⟩
theorem one_all (nb:NumK Kb) (ns:NumK Ks) (ob: ∀t p,Kb.OkK (kk t p)) (os: ∀t:Int,Ks.OkK (.int .u8 t)) (hE: ∀b,EntOK b (E b)) (hE' : ∀b,EntOK b (E' b)) (hn: [b0,c0,b1,c1].Nodup) {s:PS} {x:TT} (h:PRT Kb Ks s x) {d:DT} (hd:dOK d):
    ∃z:Int×PS,z.1=(oneA x d).2/\PRT Kb Ks z.2 (oneA x d).1/\DQ Kb Ks E E' b0 c0 b1 c1 s z.2 2:=by
  obtain ⟨t0,p0,q0,r⟩:=hd
  obtain ⟨n1,_,_,_,_,n6⟩:=nodup4 hn
  by_cases h0:d.1%2=0
  · obtain ⟨y,hy⟩:=act_all nb ns ob os hE hE' n1 (L:=s.L) h.a (k:=d.2.1) r t0 p0 q0
    exact ⟨(y.1,⟨y.2.1,y.2.2.1,s.m1,s.s1,y.2.2.2⟩),one0 hE hE' hn h h0 hy⟩
  · obtain ⟨y,hy⟩:=act_all nb ns ob os hE hE' n6 (L:=s.L) h.b (k:=d.2.1) r t0 p0 q0
    exact ⟨(y.1,⟨s.m0,s.s0,y.2.1,y.2.2.1,y.2.2.2⟩),one1 hE hE' hn h h0 hy⟩
theorem run_all (nb:NumK Kb) (ns:NumK Ks) (ob: ∀t p,Kb.OkK (kk t p)) (os: ∀t:Int,Ks.OkK (.int .u8 t)) (hE: ∀b,EntOK b (E b)) (hE' : ∀b,EntOK b (E' b)) (hn: [b0,c0,b1,c1].Nodup): ∀ {ds:List DT} {s:PS} {x:TT} {f:Int},PRT Kb Ks s x->(∀d∈ds,dOK d)->
    ∃z:Int×PS,z.1=(runA x ds f).2/\PRT Kb Ks z.2 (runA x ds f).1/\DQ Kb Ks E E' b0 c0 b1 c1 s z.2 (2*ds.length)
  | [],s,x,f,h,_=>⟨(f,s),rfl,h,DQ.refl⟩
  | d :: ds, s, x, f, h, hd => by
    obtain ⟨z,z1,z2,z3⟩:=one_all nb ns ob os hE hE' hn h (hd d (List.mem_cons_self ..))
    by_cases e:(oneA x d).2=0
    · rw [runA_go e]
      obtain ⟨v,v1,v2,v3⟩:=run_all nb ns ob os hE hE' hn (f:=f) z2 fun y hy=>hd y (List.mem_cons_of_mem _ hy)
      exact ⟨v,v1,v2,(z3.trans v3).up (by rw [List.length_cons];omega)⟩
    · rw [runA_stop e];exact ⟨z,z1,z2,z3.up (by rw [List.length_cons];omega)⟩
theorem try_wit (nb : NumK Kb) (ns : NumK Ks) (ob : ∀ t p, Kb.OkK (kk t p)) (os : ∀ t : Int, Ks.OkK (.int .u8 t)) (hE : ∀ b, EntOK b (E b)) (hE' : ∀ b, EntOK b (E' b)) (hb : [b0, c0, b1, c1].Nodup) {s : PS} {x : TT} (h : PRT Kb Ks s x) {mn : KV} {nn : List Int} (hn : NZ mn nn) {k v f : Int} {ds : List DT} (k0 : 0 <= k) (hd : ∀ d ∈ ds, dOK d) : ∃ z : Int × KV × PS, TryR Kb Ks (tryA x nn k v ds f) z := by
  unfold tryA
  split
  · exact ⟨(1,mn,s),rfl,hn,h⟩
  · split
    · exact ⟨(9,mn,s),rfl,hn,h⟩
    · split
      · exact ⟨(_,mn,s),rfl,hn,h⟩
      · obtain ⟨z,_,h',_⟩:=run_all nb ns ob os hE hE' hb (f:=f) h hd
        exact ⟨(0,_,z.2),rfl,hn.set k0 (by omega) (W_wrap _),h'⟩
end
noncomputable def tabM (m:KV):List Int:=(List.range 72).map fun j=>bal m ((j/18:Nat):Int) ((j%18:Nat):Int)
theorem DRT.tab {Kb Ks:MK} {m s:KV} {xs:List Int} (h:DRT Kb Ks m s xs):tabM m=xs:=by
  have hl:xs.length=72:=h.ok.1
  unfold tabM
  refine List.ext_getElem (by simp [hl]) fun j h1 h2=> ?_
  rw [List.getElem_map,List.getElem_range,h.bal _ _ (by omega) (by omega) (by omega) (by omega),gt_at,List.getD_eq_getElem?_getD,List.getElem?_eq_getElem h2]
  rfl
noncomputable def tabS (s:PS):TT:=(tabM s.m0,tabM s.m1)
theorem PRT.tab {Kb Ks:MK} {s:PS} {x:TT} (h:PRT Kb Ks s x):tabS s=x:=Prod.ext h.a.tab h.b.tab
noncomputable def nzOf (m:KV):List Int:=(List.range 16).map fun k:Nat=>nz m (k:Int)
theorem NZ.tab {m:KV} {ns:List Int} (h:NZ m ns):nzOf m=ns:=by
  have hl:=h.len
  unfold nzOf
  refine List.ext_getElem (by simp [hl]) fun j h1 h2=> ?_
  rw [List.getElem_map,List.getElem_range,h.eq j (by omega),List.getD_eq_getElem?_getD,List.getElem?_eq_getElem h2]
  rfl
noncomputable def slOf {X:Type} (w:World) (n:Nat) (val:X->Value) (Ok:X->Prop) (v:Value):List X:=by
  classical exact if h: ∃xs,SlX w n val Ok v xs then Classical.choose h else []
theorem slOf_eq {P:Program} {t:TypeId} {X:Type} {val:X->Value} {Ok:X->Prop} {n:Nat} (K:ElK P t n val Ok) {w:World} {v:Value} {xs:List X} (h:SlX w n val Ok v xs):slOf w n val Ok v=xs:=by
  have hx: ∃xs,SlX w n val Ok v xs:=⟨xs,h⟩
  unfold slOf
  rw [dif_pos hx]
  exact SlX.inj K (Classical.choose_spec hx) h
abbrev StT:=Int×Int×(Value×List DT)×Int
def f15 (n:Int):Int:=IntKind.i64.wrap ((BitVec.ofInt 64 n &&& BitVec.ofInt 64 15:BitVec 64).toNat:Int)
theorem f15_1:f15 1≠0:=by decide
def stepA (x:TT) (ns:List Int) (k v:Int) (ds:List DT) (f:Int):(TT×List Int)×Int:=tryA x ns k (IntKind.u64.wrap (ns.getD k.toNat 0+v)) ds (f15 f)
theorem stepA_of {x:TT} {mn:KV} {ns:List Int} (h:NZ mn ns) {k v f:Int} {ds:List DT} (k0:0<=k):tryA x ns k (IntKind.u64.wrap (nz mn k+v)) ds (f15 f)=stepA x ns k v ds f:=by
  unfold stepA
  by_cases h16:16<=k
  · unfold tryA;rw [if_pos h16,if_pos h16]
  · rw [h.at k0 (by omega)]
theorem stepA_bad (x:TT) (ns:List Int) (k v:Int) (ds:List DT):(stepA x ns k v ds 1).1=(x,ns)/\(stepA x ns k v ds 1).2≠0:=tryA_bad f15_1 ..
def fewB (ls:List StT):Bool:=ls.all (fun s=>decide (s.2.2.1.2.length<=10)) && decide (ls.length<=20)
theorem fewB_mem {ls:List StT} (h:fewB ls=true):ls.length<=20/\ ∀s∈ls,s.2.2.1.2.length<=10:=by
  unfold fewB at h
  rw [Bool.and_eq_true,List.all_eq_true] at h
  exact ⟨of_decide_eq_true h.2,fun s hs=>of_decide_eq_true (h.1 s hs)⟩
theorem fewB_no {ls:List StT} {s:StT} (h:s∈ls) (h2: ¬s.2.2.1.2.length<=10):fewB ls=false:=by
  cases e:fewB ls with
  | false=>rfl
  | true=>exact absurd ((fewB_mem e).2 s h) h2
theorem fewB_end {ls:List StT} (h: ∀s∈ls,s.2.2.1.2.length<=10):fewB ls=decide (ls.length<=20):=by
  unfold fewB
  rw [List.all_eq_true.2 fun s hs=>decide_eq_true (h s hs),Bool.true_and]
def OneR (Kb Ks:MK) (E E' :Nat->KV->Value->Ent) (b0 c0 b1 c1:Nat) (s:PS) (d:DT) (z:Int×PS):Prop:=z.1=(oneA (tabS s) d).2/\PRT Kb Ks z.2 (oneA (tabS s) d).1/\DQ Kb Ks E E' b0 c0 b1 c1 s z.2 2
def RunR (Kb Ks:MK) (E E' :Nat->KV->Value->Ent) (b0 c0 b1 c1:Nat) (s:PS) (ds:List DT) (f:Int) (z:Int×PS):Prop:=z.1=(runA (tabS s) ds f).2/\PRT Kb Ks z.2 (runA (tabS s) ds f).1/\DQ Kb Ks E E' b0 c0 b1 c1 s z.2 20
def GP (Kb Ks:MK) (s:PS):Prop:=PRT Kb Ks s (tabS s)
theorem PRT.gp {Kb Ks:MK} {s:PS} {x:TT} (h:PRT Kb Ks s x):GP Kb Ks s:=by unfold GP;rw [h.tab];exact h
theorem NZ.gn {m:KV} {ns:List Int} (h:NZ m ns):NZ m (nzOf m):=by rw [h.tab];exact h
section
variable {Kb Ks:MK} {E E' :Nat->KV->Value->Ent} {b0 c0 b1 c1:Nat}
structure RunJ (Kb Ks:MK) (E E' :Nat->KV->Value->Ent) (b0 c0 b1 c1:Nat) (s0:PS) (ds:List DT) (f:Int) (i:Nat) (s:PS):Prop where
  le:i<=ds.length
  p:GP Kb Ks s
  q:DQ Kb Ks E E' b0 c0 b1 c1 s0 s (2*i)
  run:runA (tabS s0) ds f=runA (tabS s) (ds.drop i) f
theorem RunJ.start {s:PS} {ds:List DT} {f:Int} (h:GP Kb Ks s):RunJ Kb Ks E E' b0 c0 b1 c1 s ds f 0 s:=⟨Nat.zero_le _,h,DQ.refl,rfl⟩
theorem RunJ.go {s0 s:PS} {ds:List DT} {f:Int} {i:Nat} (h:RunJ Kb Ks E E' b0 c0 b1 c1 s0 ds f i s) {d:DT} (hd:ds[i]? =some d) {z:Int×PS} (hz:OneR Kb Ks E E' b0 c0 b1 c1 s d z) (h0:z.1=0):RunJ Kb Ks E E' b0 c0 b1 c1 s0 ds f (i+1) z.2:=by
  obtain ⟨hi,rfl⟩:=List.getElem?_eq_some_iff.1 hd
  obtain ⟨z1,z2,z3⟩:=hz
  refine ⟨hi,z2.gp,(h.q.trans z3).up (by omega),?_⟩
  rw [h.run,List.drop_eq_getElem_cons hi,runA_go (z1.symm.trans h0),z2.tab]
theorem RunJ.stop {s0 s:PS} {ds:List DT} {f:Int} {i:Nat} (h:RunJ Kb Ks E E' b0 c0 b1 c1 s0 ds f i s) (h10:ds.length<=10) {d:DT} (hd:ds[i]? =some d) {z:Int×PS} (hz:OneR Kb Ks E E' b0 c0 b1 c1 s d z) (h0:z.1≠0):RunR Kb Ks E E' b0 c0 b1 c1 s0 ds f z:=by
  obtain ⟨hi,rfl⟩:=List.getElem?_eq_some_iff.1 hd
  obtain ⟨z1,z2,z3⟩:=hz
  have e:runA (tabS s0) ds f=oneA (tabS s) ds[i]:=by rw [h.run,List.drop_eq_getElem_cons hi,runA_stop (by rw [←z1];exact h0)]
  unfold RunR
  rw [e]
  exact ⟨z1,z2,(h.q.trans z3).up (by omega)⟩
theorem RunJ.fin {s0 s:PS} {ds:List DT} {f:Int} {i:Nat} (h:RunJ Kb Ks E E' b0 c0 b1 c1 s0 ds f i s) (h10:ds.length<=10) (hi:i=ds.length):RunR Kb Ks E E' b0 c0 b1 c1 s0 ds f (f,s):=by
  have e:runA (tabS s0) ds f=(tabS s,f):=by rw [h.run,hi,List.drop_eq_nil_of_le (Nat.le_refl _)];rfl
  unfold RunR
  rw [e]
  exact ⟨rfl,h.p,h.q.up (by have:=h.le;omega)⟩
theorem run_wit (nb:NumK Kb) (ns:NumK Ks) (ob: ∀t p,Kb.OkK (kk t p)) (os: ∀t:Int,Ks.OkK (.int .u8 t)) (hE: ∀b,EntOK b (E b)) (hE' : ∀b,EntOK b (E' b)) (hn: [b0,c0,b1,c1].Nodup) {ds:List DT} {s:PS} {f:Int} (h:GP Kb Ks s) (hd: ∀d∈ds,dOK d) (h10:ds.length<=10): ∃z,RunR Kb Ks E E' b0 c0 b1 c1 s ds f z:=by
  obtain ⟨z,z1,z2,z3⟩:=run_all nb ns ob os hE hE' hn (f:=f) h hd
  exact ⟨z,z1,z2,z3.up (by omega)⟩
theorem try_fin {m0 s0 m1 s1 mn:KV} {k nn f:Int} {ds:List DT} {xn:List Int} (k0:0<=k) (h: ¬16<=k) (hz:nn=nz mn k) (hn:NZ mn xn) (hp:GP Kb Ks ⟨m0,s0,m1,s1,[]⟩) {r:Int×PS} (hr:RunR Kb Ks E E' b0 c0 b1 c1 ⟨m0,s0,m1,s1,[]⟩ ds f r) {d:KV×PS}
    (hd:(r.1=0/\d.1=mset mn (.int .u8 k) (.int .u64 (IntKind.u64.wrap (nn+1)))/\d.2.m0=r.2.m0/\d.2.s0=r.2.s0/\d.2.m1=r.2.m1/\d.2.s1=r.2.s1)∨(r.1≠0/\d.1=mn/\undoAll r.2.L [(Kb,b0,r.2.m0),(Ks,c0,r.2.s0),(Kb,b1,r.2.m1),(Ks,c1,r.2.s1)]= [(Kb,b0,d.2.m0),(Ks,c0,d.2.s0),(Kb,b1,d.2.m1),(Ks,c1,d.2.s1)])):
    TryR Kb Ks (tryA (tabS ⟨m0,s0,m1,s1,[]⟩) xn k nn ds f) (r.1,d.1,d.2):=by
  obtain ⟨r1,r2,r3⟩:=hr
  rcases hd with ⟨e0,e1,q1,q2,q3,q4⟩ | ⟨e0,e1,hu⟩
  · rw [e1]
    refine TryR.yes k0 h hz r1 e0 hn ⟨?_,?_⟩
    · rw [q1,q2];exact r2.a
    · rw [q3,q4];exact r2.b
  · rw [e1]
    exact TryR.no k0 h hz r1 e0 hn (r3.back hp r2 (L2:=d.2.L) hu)
end
theorem SlX.one {X:Type} {w:World} {n:Nat} {val:X->Value} {Ok:X->Prop} {v:Value} {xs:List X} (h:SlX w n val Ok v xs):v.oneCell' =true:=by
  rcases h.sl.form with e | ⟨a,len,cap,e⟩<;>rw [e]<;>rfl
theorem one_st {k1 k2 k3:IntKind} {a b c:Int} {v:Value} (h:v.oneCell' =true): ∀u∈(Value.agg #[.int k1 a, .int k2 b,v, .int k3 c]).cells.toList,u.oneCell' =true:=by
  intro u hu
  have hu:u∈ [Value.int k1 a, .int k2 b,v, .int k3 c]:=hu
  rcases List.mem_cons.1 hu with rfl | hu
  · rfl
  · rcases List.mem_cons.1 hu with rfl | hu
    · rfl
    · rcases List.mem_cons.1 hu with rfl | hu
      · exact h
      · simp at hu;subst hu;rfl
structure PA where
  bp:Nat
  bj:Nat
  ba:Nat
  bb:Nat
  bn:Nat
  u0:Nat
  v0:Nat
  u1:Nat
  v1:Nat
def c34 (n:Nat):Int:=IntKind.u32.wrap (IntKind.i64.wrap (Int.tdiv ((n:Nat):Int) 34))
def nzB (ns:List Int):Nat->List Int
  | 0=> []
  | n+1=>nzB ns n++nb8 (ns.getD n 0)
theorem nzB_len (ns:List Int): ∀n,(nzB ns n).length=8*n
  | 0=>rfl
  | n+1=>by rw [nzB,List.length_append,nzB_len ns n];show _+8=_;omega
def bkT (xs:List Int):List Int:=nb4 (IntKind.u64.wrap (c34 (txN xs 72).length))++txN xs 72
theorem bkT_len (xs:List Int):(bkT xs).length<=2452:=by
  unfold bkT;rw [List.length_append];have:=txN_len xs 72;show 4+_<=_;omega
def pT (x:TT) (ns:List Int):List Int:=bkT x.1++bkT x.2++nzB ns 16
theorem pT_wit (x:TT) (ns:List Int): ∃y:Row,BOK y/\dg y=pT x ns:=⟨.mk 0 (bv (pT x ns)) [],bok_lit 0 _ _,bv_ci _⟩
end Go.Sx
namespace Go.Sx
open Go.RowKit Go.ChangeShapes Go.WideShapes
end Go.Sx
namespace Go.Sx
open Go.RowKit Go.ChangeShapes Go.WideShapes
theorem PRT.setL {Kb Ks:MK} {s:PS} {x:TT} (h:PRT Kb Ks s x) (L:List Ent):PRT Kb Ks ⟨s.m0,s.s0,s.m1,s.s1,L⟩ x:=⟨h.a,h.b⟩
structure PLx where
  i:Nat
  x:TT
  ns:List Int
  pm:KV
  ps:PS
  qm:KV
  qs:PS
  a:PA
  b:PA
  cb:Nat
structure PLJ (Kb Ks:MK) (n:Nat) (y:PLx):Prop where
  le:y.i<=n
  pn:NZ y.pm y.ns
  pp:PRT Kb Ks y.ps y.x
  qn:NZ y.qm y.ns
  qp:PRT Kb Ks y.qs y.x
  an: [y.a.u0,y.a.v0,y.a.u1,y.a.v1].Nodup
  bn: [y.b.u0,y.b.v0,y.b.u1,y.b.v1].Nodup
theorem TryR.bad {Kb Ks:MK} {x:TT} {ns:List Int} {k v:Int} {ds:List DT} {z:Int×KV×PS} (h:TryR Kb Ks (stepA x ns k v ds 1) z):z.1≠0/\NZ z.2.1 ns/\PRT Kb Ks z.2.2 x:=by
  obtain ⟨f1,f2⟩:=stepA_bad x ns k v ds
  refine ⟨by rw [h.e];exact f2,?_,?_⟩
  · have:=h.n;rw [f1] at this;exact this
  · have:=h.p;rw [f1] at this;exact this
theorem bytes_is {Kb Ks:MK} {s:PS} {x:TT} {m:KV} {ns:List Int} {l:List Int} (hp:PRT Kb Ks s x) (hn:NZ m ns) (h:l=pT (tabM s.m0,tabM s.m1) (nzOf m)):l=pT x ns:=by
  rw [h,hn.tab,←hp.tab];rfl
end Go.Sx
namespace Go.Sx
open Go.RowKit
def tw (xs:List Int) (o:Nat):Int:=lim (xs.getD (o/4) 0) (o%4)
theorem W_tw (xs:List Int) (o:Nat):W (tw xs o):=W_lim _ _
theorem tL_at: ∀ (xs:List Int) (o:Nat),o<xs.length*4->(tL xs)[o]? =some (.int .u64 (tw xs o))
  | [],o,h=>by simp at h
  | x::xs,0,_=>rfl
  | x::xs,1,_=>rfl
  | x::xs,2,_=>rfl
  | x::xs,3,_=>rfl
  | x :: xs, o + 4, h => by
    rw [tL_cons]
    show (tL xs)[o]? =_
    rw [tL_at xs o (by simp only [List.length_cons] at h;omega)]
    unfold tw
    rw [show (o+4)/4=o/4+1 by omega,show (o+4)%4=o%4 by omega,List.getD_cons_succ]
def nset (x:Int) (j:Nat) (v:Int):Int:=num (.agg #[.int .u64 (if j=0 then v else lim x 0), .int .u64 (if j=1 then v else lim x 1), .int .u64 (if j=2 then v else lim x 2), .int .u64 (if j=3 then v else lim x 3)])
theorem W_if {p:Prop} [Decidable p] {a b:Int} (ha:W a) (hb:W b):W (if p then a else b):=by split<;>assumption
theorem R4_nset (x:Int) (j:Nat) {v:Int} (hv:W v):R4 (nset x j v):=R4_num4 (W_if hv (W_lim _ _)) (W_if hv (W_lim _ _)) (W_if hv (W_lim _ _)) (W_if hv (W_lim _ _))
theorem lim_nset (x:Int) (j:Nat) {v:Int} (hv:W v) {i:Nat} (hi:i<4):lim (nset x j v) i=if i=j then v else lim x i:=by
  have h:=vI_num4 (W_if (p:=j=0) hv (W_lim x 0)) (W_if (p:=j=1) hv (W_lim x 1)) (W_if (p:=j=2) hv (W_lim x 2)) (W_if (p:=j=3) hv (W_lim x 3))
  have e:=fun k:Nat=>congrArg (fun z=>ci (cell z k)) h
  match i,hi with
  | 0,_=>exact (e 0).trans (by show (if j=0 then v else lim x 0)=if 0=j then v else lim x 0;by_cases q:j=0<;>simp [q,eq_comm])
  | 1,_=>exact (e 1).trans (by show (if j=1 then v else lim x 1)=if 1=j then v else lim x 1;by_cases q:j=1<;>simp [q,eq_comm])
  | 2,_=>exact (e 2).trans (by show (if j=2 then v else lim x 2)=if 2=j then v else lim x 2;by_cases q:j=2<;>simp [q,eq_comm])
  | 3,_=>exact (e 3).trans (by show (if j=3 then v else lim x 3)=if 3=j then v else lim x 3;by_cases q:j=3<;>simp [q,eq_comm])
def wset (xs:List Int) (o:Nat) (v:Int):List Int:=xs.set (o/4) (nset (xs.getD (o/4) 0) (o%4) v)
theorem wset_len (xs:List Int) (o:Nat) (v:Int):(wset xs o v).length=xs.length:=by unfold wset;simp
theorem okT.wset {m:Nat} {xs:List Int} (h:okT m xs) (o:Nat) {v:Int} (hv:W v):okT m (wset xs o v):=by
  refine ⟨by rw [wset_len,h.1],fun x hx=> ?_⟩
  unfold Sx.wset at hx
  rcases List.mem_or_eq_of_mem_set hx with q | q
  · exact h.2 x q
  · rw [q];exact R4_nset _ _ hv
theorem getD_set0 (xs:List Int) (a:Nat) (v:Int) (k:Nat) (ha:a<xs.length):(xs.set a v).getD k 0=if k=a then v else xs.getD k 0:=getD_set xs a v k ha
theorem tw_wset {xs:List Int} {o:Nat} {v:Int} (hv:W v) (ho:o<xs.length*4) (i:Nat):tw (wset xs o v) i=if i=o then v else tw xs i:=by
  unfold tw wset
  rw [getD_set0 _ _ _ _ (by omega)]
  by_cases e:i/4=o/4
  · rw [if_pos e,lim_nset _ _ hv (by omega)]
    by_cases e2:i%4=o%4
    · rw [if_pos e2,if_pos (by omega)]
    · rw [if_neg e2,if_neg (by omega),e]
  · rw [if_neg e,if_neg (by omega)]
theorem tL_wset {xs:List Int} {o:Nat} {v:Int} (hv:W v) (ho:o<xs.length*4):tL (wset xs o v)=(tL xs).set o (.int .u64 v):=by
  have hl:(tL (wset xs o v)).length=xs.length*4:=by rw [tL_len,wset_len]
  apply List.ext_getElem?
  intro i
  rw [List.getElem?_set]
  rcases Nat.lt_or_ge i (xs.length*4) with hi | hi
  · rw [tL_at _ _ (by rw [wset_len];exact hi),tw_wset hv ho]
    by_cases e:o=i
    · rw [if_pos e.symm,if_pos e,if_pos (by rw [tL_len];omega)]
    · rw [if_neg (fun q=>e q.symm),if_neg e,tL_at _ _ hi]
  · rw [List.getElem?_eq_none (by rw [hl];exact hi),if_neg (by omega),List.getElem?_eq_none (by rw [tL_len];exact hi)]
def F_tword:List Value->List Slot->Ctr:=fun vs hs=>⟨Int,fun z=> .int .u64 z,fun _=>hs,fun z=>z=tw (utn (sval (sarg hs 0))) (voff (varg vs 0))⟩
theorem xtword {P:Program} {e:TypeId} {m:Nat} (ha: ∀w,(isAgg e).run P w= .ok false w) (b:Nat) (ty:TypeId) {xs:List Int} (hx:okT m xs) (o:Nat) (ho:o<m*4):
    OpT P (do pure (.value (←Instr.loadAt e (.pointer (some ⟨b,o,none⟩))))) [tb b ty (tnV xs)] Int (fun z=> .int .u64 z) (fun _=> [tb b ty (tnV xs)]) (fun z=>z=tw (utn (sval (tb b ty (tnV xs)))) o):=by
  intro R w hw
  have hb:w.heap[b]? =some (.cells (tL xs).toArray ty (0,0)):=(tb_open R w hw).block (i:=0) rfl
  have h1:=tL_at xs o (by rw [hx.1];exact ho)
  have hc:w.cell? ⟨b,o,none⟩=some (.int .u64 (tw xs o)):=by simp [World.cell?,hb,h1]
  refine ⟨tw xs o,w,by show _=tw (utn (tnV xs)) o;rw [utn_tnV hx], .inl ?_,hw,Ext.refl w⟩
  simp [Instr.loadAt,Instr.sureAddr,loadVar,Sem.run_bind,ha,hc]
theorem etword {m:Nat} {b:Nat} {ty:TypeId} {xs:List Int} (hx:okT m xs) {o:Nat} {z:Int} (h:z=tw (utn (sval (tb b ty (tnV xs)))) o):z=tw xs o:=by
  have h2:z=tw (utn (tnV xs)) o:=h
  rwa [utn_tnV hx] at h2
def F_tputw (ty:TypeId):List Value->List Slot->Ctr:=fun vs hs=>⟨List Int,fun _=>undef,fun zs=> [tb (vblk (varg vs 0)) ty (tnV zs)],fun zs=>zs=wset (utn (sval (sarg hs 0))) (voff (varg vs 0)) (ci (varg vs 1))⟩
theorem xtputw {P:Program} {e:TypeId} {m:Nat} (hs: ∀w,(sizeOf e).run P w= .ok 1 w) (b:Nat) (ty:TypeId) {xs:List Int} (hx:okT m xs) (o:Nat) (ho:o<m*4) {v:Int} (hv:W v):
    OpT P (do Instr.storeAt e (.pointer (some ⟨b,o,none⟩)) (.int .u64 v);pure .skip) [tb b ty (tnV xs)] (List Int) (fun _=>undef) (fun zs=> [tb b ty (tnV zs)]) (fun zs=>zs=wset (utn (sval (tb b ty (tnV xs)))) o v):=by
  intro R w hw
  have hw1:=tb_open R w hw
  have hb:w.heap[b]? =some (.cells (tL xs).toArray ty (0,0)):=hw1.block (i:=0) rfl
  have ho' :o<xs.length*4:=by rw [hx.1];exact ho
  have h1:=tL_at xs o ho'
  have hc:w.cell? ⟨b,o,none⟩=some (.int .u64 (tw xs o)):=by simp [World.cell?,hb,h1]
  have hf:w.frozen? ⟨b,o,none⟩=false:=frozen_of_row w b o _ ty hb
  have hst:(store ⟨b,o,none⟩ (.int .u64 v)).run P w= .ok () (w.setCell ⟨b,o,none⟩ (.int .u64 v)):=by rw [run_store P w _ _ _ rfl,hc];simp [hf]
  have hh:=Go.heap_setCell_same w b o _ ty (.int .u64 v) hb
  have he:(tL xs).toArray.setIfInBounds o (.int .u64 v)=(tL (wset xs o v)).toArray:=by
    rw [tL_wset hv ho'];simp
  rw [he] at hh
  refine ⟨wset xs o v,w.setCell ⟨b,o,none⟩ (.int .u64 v),by show _=wset (utn (tnV xs)) o v;rw [utn_tnV hx], .inr ⟨?_,rfl⟩,?_,?_⟩
  · have h1:(Value.int .u64 v).cells= #[.int .u64 v]:=rfl
    simp [Instr.storeAt,Instr.sureAddr,storeVar,Sem.run_bind,hs,h1,storeCells,Addr.add,hst]
  · have:=hw1.set (i:=0) (b:=b) rfl hh (fun c hc=>heap_setCell_other w _ c _ hc)
    refine tb_shut R _ ((congrArg (fun H=>Own H R (w.setCell ⟨b,o,none⟩ (.int .u64 v))) ?_).mp this)
    funext i
    cases i<;>rfl
  · exact ⟨rfl,rfl,rfl,by simp,by first | exact Nat.le_refl _ | exact Nat.le_succ _ | simp⟩
theorem etputw {m:Nat} {b:Nat} {ty:TypeId} {xs:List Int} (hx:okT m xs) {o:Nat} {v:Int} {zs:List Int} (h:zs=wset (utn (sval (tb b ty (tnV xs)))) o v):zs=wset xs o v:=by
  have h2:zs=wset (utn (tnV xs)) o v:=h
  rwa [utn_tnV hx] at h2
def F_tixw:List Value->List Slot->Ctr:=fun vs hs=>⟨Int,fun z=> .int .u64 z,fun _=>hs,fun z=>z=tw (utn (varg vs 0)) (ci (varg vs 1)).toNat⟩
theorem xtixw {P:Program} {t e:TypeId} {m:Nat} (hu:P.underlying t=some (.array (m*4) e)) (hs: ∀w,(sizeOf e).run P w= .ok 1 w) (ha: ∀w,(isAgg e).run P w= .ok false w) {ys:List Int} (hy:okT m ys) (ki:IntKind) (i:Int) (h0:0<=i) (h1:i<((m*4:Nat):Int)):
    OpT P (do pure (.value (←Instr.index t (tnV ys) (.int ki i)))) [] Int (fun z=> .int .u64 z) (fun _=> []) (fun z=>z=tw (utn (tnV ys)) i.toNat):=by
  intro R w ho
  refine ⟨tw ys i.toNat,w,by rw [utn_tnV hy], .inl ?_,ho,Ext.refl w⟩
  obtain ⟨j,rfl⟩: ∃j:Nat,i=(j:Int):=⟨i.toNat,by omega⟩
  have hc:0<=(j:Int)/\(j:Int)<((m*4:Nat):Int):=⟨h0,h1⟩
  have hj:(tL ys)[j]? =some (.int .u64 (tw ys j)):=tL_at ys j (by rw [hy.1];omega)
  unfold tnV
  simp only [Instr.index,run_underlying hu,asIntOf,Sem.run_bind,Sem.run_pure,Result.andThen_ok,hs w]
  simp only [hc,and_self,if_true,Int.toNat_natCast]
  have hj2:(tL ys).toArray[j*1]? =some (.int .u64 (tw ys j)):=by rw [Nat.mul_one];simpa using hj
  simp [part,Sem.run_bind,ha w,hs w,hj2,hj]
theorem etixw {m:Nat} {ys:List Int} (hy:okT m ys) {i z:Int} (h:z=tw (utn (tnV ys)) i.toNat):z=tw ys i.toNat:=by rwa [utn_tnV hy] at h
def vstr:Value->ByteArray | .string s=>s | _=>⟨#[]⟩
def f_slen:List Value->Value:=fun vs=> .int .i64 (((vstr (varg vs 0)).size:Nat):Int)
theorem xslen {P:Program} {t:TypeId} (hu:P.underlying t=some .string) (ty:TypeId) (s:ByteArray):PureRun P (do pure (.value (←Builtin.len_ #[t] ty #[.string s]))) (.int .i64 ((s.size:Nat):Int)):=by
  intro w
  simp [Builtin.len_,run_underlying hu,goInt]
end Go.Sx
namespace Go.Sx
open Go.RowKit
def dT (zs:List Int):TT:=((zs.drop 0).take 72,(zs.drop 72).take 72)
def dN (zs:List Int):List Int:=(List.range 16).map fun k=>tw zs (576+k)
def oneT (zs:List Int) (d:DT):List Int×Int:=
  if d.1%2=0 then (tset zs 0 (actA (dT zs).1 d.2.1 d.2.2.1 d.2.2.2.1 d.2.2.2.2.1 d.2.2.2.2.2).1,(actA (dT zs).1 d.2.1 d.2.2.1 d.2.2.2.1 d.2.2.2.2.1 d.2.2.2.2.2).2)
  else (tset zs 72 (actA (dT zs).2 d.2.1 d.2.2.1 d.2.2.2.1 d.2.2.2.2.1 d.2.2.2.2.2).1,(actA (dT zs).2 d.2.1 d.2.2.1 d.2.2.2.1 d.2.2.2.2.1 d.2.2.2.2.2).2)
def runT (zs:List Int):List DT->Int->List Int×Int
  | [],f=>(zs,f)
  | d::ds,f=>if (oneT zs d).2≠0 then oneT zs d else runT (oneT zs d).1 ds f
def wantT (zs : List Int) (k v : Int) (ds : List DT) (f : Int) : List Int × Int :=
  if 15<k then (zs,1) else if v≠0 then (zs,9) else if (runT zs ds (f15 f)).2≠0 then (zs,(runT zs ds (f15 f)).2) else
    (wset (runT zs ds (f15 f)).1 (576+k.toNat*1) (IntKind.u64.wrap (tw (runT zs ds (f15 f)).1 (576+k.toNat*1)+1)),0)
theorem oneT_0 {ys z:List Int} {d:DT} {r:List Int×Int} (hs:d.1%2=0) (hz:z=(ys.drop 0).take 72) (hr:r=actA z d.2.1 d.2.2.1 d.2.2.2.1 d.2.2.2.2.1 d.2.2.2.2.2):oneT ys d=(tset ys 0 r.1,r.2):=by
  unfold oneT;rw [if_pos hs,hr,hz];rfl
theorem oneT_1 {ys z:List Int} {d:DT} {r:List Int×Int} (hs: ¬d.1%2=0) (hz:z=(ys.drop 72).take 72) (hr:r=actA z d.2.1 d.2.2.1 d.2.2.2.1 d.2.2.2.2.1 d.2.2.2.2.2):oneT ys d=(tset ys 72 r.1,r.2):=by
  unfold oneT;rw [if_neg hs,hr,hz];rfl
theorem actA_0 {xs:List Int} {k t p q n:Int} (h:k%3=0):actA xs k t p q n=rMint xs t p n:=if_pos h
theorem actA_1 {xs:List Int} {k t p q n:Int} (h: ¬k%3=0) (h1:k%3=1):actA xs k t p q n=rBurn xs t p n:=by unfold actA;rw [if_neg h,if_pos h1]
theorem actA_2 {xs:List Int} {k t p q n:Int} (h: ¬k%3=0) (h1: ¬k%3=1):actA xs k t p q n=rMove xs t p q n:=by unfold actA;rw [if_neg h,if_neg h1]
theorem runT_go {x:List Int} {d:DT} {ds:List DT} {f:Int} (h:(oneT x d).2=0):runT x (d::ds) f=runT (oneT x d).1 ds f:=if_neg (by simp [h])
theorem runT_stop {x:List Int} {d:DT} {ds:List DT} {f:Int} (h:(oneT x d).2≠0):runT x (d::ds) f=oneT x d:=if_pos h
structure WtJ (zs:List Int) (ds:List DT) (f:Int) (i:Nat) (ys:List Int):Prop where
  le:i<=ds.length
  ok:okT 148 ys
  run:runT zs ds f=runT ys (ds.drop i) f
theorem WtJ.start {zs:List Int} {ds:List DT} {f:Int} (h:okT 148 zs):WtJ zs ds f 0 zs:=⟨Nat.zero_le _,h,rfl⟩
theorem WtJ.go {zs ys:List Int} {ds:List DT} {f:Int} {i:Nat} (h:WtJ zs ds f i ys) {d:DT} (hd:ds[i]? =some d) {y2:List Int} {e:Int} (ho:oneT ys d=(y2,e)) (h0:e=0) (hk:okT 148 y2):WtJ zs ds f (i+1) y2:=by
  obtain ⟨hi,rfl⟩:=List.getElem?_eq_some_iff.1 hd
  refine ⟨hi,hk,?_⟩
  rw [h.run,List.drop_eq_getElem_cons hi,runT_go (by rw [ho];exact h0),ho]
theorem WtJ.stop {zs ys:List Int} {ds:List DT} {f:Int} {i:Nat} (h:WtJ zs ds (f15 f) i ys) {d:DT} (hd:ds[i]? =some d) {y2:List Int} {e:Int} (ho:oneT ys d=(y2,e)) (h0:e≠0) {k v:Int} (hk: ¬15<k) (hv:v=0):(zs,e)=wantT zs k v ds f:=by
  obtain ⟨hi,rfl⟩:=List.getElem?_eq_some_iff.1 hd
  have q:runT zs ds (f15 f)=(y2,e):=by rw [h.run,List.drop_eq_getElem_cons hi,runT_stop (by rw [ho];exact h0),ho]
  unfold wantT
  rw [if_neg hk,if_neg (by simp [hv]),q,if_pos h0]
theorem WtJ.end_ {zs ys:List Int} {ds:List DT} {f:Int} {i:Nat} (h:WtJ zs ds f i ys) (hi:i=ds.length):runT zs ds f=(ys,f):=by
  rw [h.run,hi,List.drop_eq_nil_of_le (Nat.le_refl _)];rfl
theorem WtJ.bad {zs ys:List Int} {ds:List DT} {f:Int} {i:Nat} (h:WtJ zs ds (f15 f) i ys) (hi:i=ds.length) (h0:f15 f≠0) {k v:Int} (hk: ¬15<k) (hv:v=0):(zs,f15 f)=wantT zs k v ds f:=by
  unfold wantT
  rw [if_neg hk,if_neg (by simp [hv]),h.end_ hi,if_pos h0]
theorem WtJ.fin {zs ys:List Int} {ds:List DT} {f:Int} {i:Nat} (h:WtJ zs ds (f15 f) i ys) (hi:i=ds.length) (h0:f15 f=0) {k v:Int} (hk: ¬15<k) (hv:v=0) {y2:List Int} {a:Int} (ha:a=tw ys (576+k.toNat*1)) (hy:y2=wset ys (576+k.toNat*1) (IntKind.u64.wrap (a+1))):(y2,0)=wantT zs k v ds f:=by
  unfold wantT
  rw [if_neg hk,if_neg (by simp [hv]),h.end_ hi,if_neg (by simp [h0]),hy,ha]
theorem wantT_arg {zs:List Int} {k v f:Int} {ds:List DT} (h:15<k):(zs,1)=wantT zs k v ds f:=(if_pos h).symm
theorem wantT_nonce {zs:List Int} {k v f:Int} {ds:List DT} (h: ¬15<k) (h2:v≠0):(zs,9)=wantT zs k v ds f:=by unfold wantT;rw [if_neg h,if_pos h2]
theorem actA_R {xs:List Int} (h:okT 72 xs) {k t p q n:Int} (hn:R4 n) (t0:0<=t) (p0:0<=p) (q0:0<=q):okT 72 (actA xs k t p q n).1:=by
  unfold actA
  split
  · exact rMint_R h hn t0 p0
  · split
    · exact rBurn_R h hn t0 p0
    · exact rMove_R h hn t0 p0 q0
theorem dT_ok {zs:List Int} (h:okT 148 zs):okT 72 (dT zs).1/\okT 72 (dT zs).2:=⟨okT_part h (by decide),okT_part h (by decide)⟩
theorem tset_getD {xs r:List Int} {n j:Nat} (hn:n+r.length<=xs.length) (hj:n+r.length<=j):(tset xs n r).getD j 0=xs.getD j 0:=by
  unfold tset
  rw [List.getD_eq_getElem?_getD,List.getD_eq_getElem?_getD,List.getElem?_append_right (by simp;omega),List.getElem?_drop]
  congr 2
  simp;omega
theorem dN_of {xs ys:List Int} (h: ∀j,144<=j->xs.getD j 0=ys.getD j 0):dN xs=dN ys:=by
  unfold dN
  refine List.map_congr_left fun k hk=> ?_
  unfold tw
  rw [h _ (by omega)]
theorem tset0 {zs r:List Int} (h:zs.length=148) (hr:r.length=72):dT (tset zs 0 r)=(r,(dT zs).2):=by
  unfold dT tset
  simp only [List.take_zero,List.nil_append,List.drop_zero,Nat.zero_add,hr]
  refine Prod.ext ?_ ?_
  · show List.take 72 (r++zs.drop 72)=r
    rw [List.take_append_of_le_length (by omega),List.take_of_length_le (by omega)]
  · show List.take 72 (List.drop 72 (r++zs.drop 72))=_
    rw [List.drop_append_of_le_length (by omega),List.drop_of_length_le (by omega),List.nil_append]
theorem tset1 {zs r:List Int} (h:zs.length=148) (hr:r.length=72):dT (tset zs 72 r)=((dT zs).1,r):=by
  unfold dT tset
  have hl:(zs.take 72).length=72:=by rw [List.length_take,h];rfl
  refine Prod.ext ?_ ?_
  · show List.take 72 (List.drop 0 (zs.take 72++r++zs.drop (72+r.length)))=List.take 72 (List.drop 0 zs)
    rw [List.drop_zero,List.drop_zero,List.append_assoc,List.take_append_of_le_length (by omega),List.take_of_length_le (by omega)]
  · show List.take 72 (List.drop 72 (zs.take 72++r++zs.drop (72+r.length)))=r
    rw [List.append_assoc,List.drop_append_of_le_length (by omega),List.drop_of_length_le (by omega),List.nil_append,List.take_append_of_le_length (by omega),List.take_of_length_le (by omega)]
theorem oneT_is {zs:List Int} (h:okT 148 zs) {d:DT} (hd:dOK d):(oneT zs d).2=(oneA (dT zs) d).2/\dT (oneT zs d).1=(oneA (dT zs) d).1/\okT 148 (oneT zs d).1/\dN (oneT zs d).1=dN zs:=by
  obtain ⟨t0,p0,q0,r⟩:=hd
  obtain ⟨o0,o1⟩:=dT_ok h
  unfold oneT oneA
  split
  · have a:=actA_R o0 (k:=d.2.1) r t0 p0 q0
    exact ⟨rfl,tset0 h.1 a.1,h.tset a.2 (by rw [a.1];decide),dN_of fun j hj=>tset_getD (by rw [a.1,h.1];decide) (by rw [a.1];omega)⟩
  · have a:=actA_R o1 (k:=d.2.1) r t0 p0 q0
    exact ⟨rfl,tset1 h.1 a.1,h.tset a.2 (by rw [a.1];decide),dN_of fun j hj=>tset_getD (by rw [a.1,h.1];decide) (by rw [a.1];omega)⟩
theorem runT_is {f:Int}: ∀ {ds:List DT} {zs:List Int},okT 148 zs->(∀d∈ds,dOK d)->(runT zs ds f).2=(runA (dT zs) ds f).2/\dT (runT zs ds f).1=(runA (dT zs) ds f).1/\okT 148 (runT zs ds f).1/\dN (runT zs ds f).1=dN zs
  | [],zs,h,_=>⟨rfl,rfl,h,rfl⟩
  | d :: ds, zs, h, hd => by
    obtain ⟨e1,e2,e3,e4⟩:=oneT_is h (hd d (List.mem_cons_self ..))
    by_cases e:(oneT zs d).2=0
    · rw [runT_go e,runA_go (e1.symm.trans e),←e2,←e4]
      exact runT_is e3 fun y hy=>hd y (List.mem_cons_of_mem _ hy)
    · rw [runT_stop e,runA_stop (by rw [←e1];exact e)]
      exact ⟨e1,e2,e3,e4⟩
theorem dN_len (zs:List Int):(dN zs).length=16:=by unfold dN;simp
theorem dN_get (zs:List Int) {k:Nat} (h:k<16):(dN zs).getD k 0=tw zs (576+k):=by
  unfold dN
  rw [List.getD_eq_getElem?_getD,List.getElem?_map,List.getElem?_range h];rfl
theorem dN_W (zs:List Int) (k:Nat):W ((dN zs).getD k 0):=by
  rcases Nat.lt_or_ge k 16 with h | h
  · rw [dN_get zs h];exact W_tw _ _
  · rw [List.getD_eq_getElem?_getD,List.getElem?_eq_none (by rw [dN_len];exact h)];unfold W;decide
theorem dN_wset {zs:List Int} (h:okT 148 zs) {k:Nat} (hk:k<16) {v:Int} (hv:W v):dN (wset zs (576+k*1) v)=(dN zs).set k v:=by
  apply List.ext_getElem?
  intro j
  rw [List.getElem?_set,dN_len]
  unfold dN
  rw [List.getElem?_map,List.getElem?_map]
  rcases Nat.lt_or_ge j 16 with hj | hj
  · rw [List.getElem?_range hj]
    simp only [Option.map_some]
    rw [tw_wset hv (by rw [h.1];omega)]
    by_cases e:k=j
    · rw [if_pos (by omega),if_pos e,if_pos hk]
    · rw [if_neg (by omega),if_neg e]
  · rw [List.getElem?_eq_none (by simpa using hj),if_neg (by omega)];rfl
theorem dT_wset {zs:List Int} {k:Nat} {v:Int}:dT (wset zs (576+k*1) v)=dT zs:=by
  unfold dT wset
  have key: ∀n m:Nat,n+m<=144->List.take m (List.drop n (zs.set ((576+k*1)/4) (nset (zs.getD ((576+k*1)/4) 0) ((576+k*1)%4) v)))=List.take m (List.drop n zs):=fun n m hm=>by
    apply List.ext_getElem?
    intro j
    rcases Nat.lt_or_ge j m with hj | hj
    · rw [List.getElem?_take_of_lt hj,List.getElem?_take_of_lt hj,List.getElem?_drop,List.getElem?_drop,List.getElem?_set,if_neg (by omega)]
    · rw [List.getElem?_take_eq_none hj,List.getElem?_take_eq_none hj]
  exact Prod.ext (key 0 72 (by decide)) (key 72 72 (by decide))
theorem wantT_R {zs:List Int} (h:okT 148 zs) {k v f:Int} {ds:List DT} (hd: ∀d∈ds,dOK d):okT 148 (wantT zs k v ds f).1:=by
  unfold wantT
  split
  · exact h
  · split
    · exact h
    · split
      · exact h
      · exact (runT_is h hd).2.2.1.wset _ (W_wrap _)
theorem want_is {zs : List Int} (h : okT 148 zs) {k v f : Int} {ds : List DT} (hd : ∀ d ∈ ds, dOK d) (k0 : 0 <= k) (v0 : 0 <= v) (v1 : v < 18446744073709551616) :
    (wantT zs k v ds f).2=(stepA (dT zs) (dN zs) k v ds f).2/\dT (wantT zs k v ds f).1=(stepA (dT zs) (dN zs) k v ds f).1.1/\dN (wantT zs k v ds f).1=(stepA (dT zs) (dN zs) k v ds f).1.2:=by
  unfold wantT stepA tryA
  by_cases h16:15<k
  · rw [if_pos h16,if_pos (show 16<=k by omega)];exact ⟨rfl,rfl,rfl⟩
  · rw [if_neg h16, if_neg (show ¬ 16 <= k by omega)]
    have ha:=dN_W zs k.toNat
    have hw: ∀n:Int,IntKind.u64.wrap n=n%18446744073709551616:=wrap_u64
    obtain ⟨r1,r2,r3,r4⟩:=runT_is (f:=f15 f) h hd
    by_cases hv:v=0
    · subst hv
      have e0:IntKind.u64.wrap ((dN zs).getD k.toNat 0+0)=(dN zs).getD k.toNat 0:=by rw [hw];unfold W at ha;omega
      rw [if_neg (show ¬ (0:Int)≠0 by decide),e0,if_neg (show ¬ ((dN zs).getD k.toNat 0≠(dN zs).getD k.toNat 0) by simp),←r1]
      split
      · exact ⟨rfl,rfl,rfl⟩
      · refine ⟨rfl,?_,?_⟩
        · rw [dT_wset];exact r2
        · rw [dN_wset r3 (by omega) (W_wrap _),r4]
          have e1:tw (runT zs ds (f15 f)).1 (576+k.toNat*1)=(dN zs).getD k.toNat 0:=by rw [←r4,dN_get _ (by omega),Nat.mul_one]
          rw [e1]
    · rw [if_pos hv,if_pos (by rw [hw];unfold W at ha;omega)]
      exact ⟨rfl,rfl,rfl⟩
def bkD (xs:List Int):List Int:=dg4 (IntKind.u64.wrap (IntKind.i64.wrap (Int.tdiv (((txN xs 72).length:Nat):Int) 34)))++txN xs 72
def nzD (ns:List Int):Nat->List Int
  | 0=> []
  | n+1=>nzD ns n++dg8 (ns.getD n 0)
def dP (x:TT) (ns:List Int):List Int:=bkD x.1++bkD x.2++nzD ns 16
theorem bkD_is (xs:List Int):bkT xs=bkD xs:=by
  have hl:=txN_len xs 72
  unfold bkT bkD c34
  have e:(Int.tdiv (((txN xs 72).length:Nat):Int) 34)=(((txN xs 72).length/34:Nat):Int):=by
    rw [Int.tdiv_eq_ediv_of_nonneg (by omega)];rfl
  have h0:IntKind.i64.wrap (((txN xs 72).length/34:Nat):Int)=(((txN xs 72).length/34:Nat):Int):=wrap_i64 _ (by omega) (by omega)
  have h1:IntKind.u32.wrap (((txN xs 72).length/34:Nat):Int)=(((txN xs 72).length/34:Nat):Int):=by
    have q:IntKind.u32.wrap (((txN xs 72).length/34:Nat):Int)=(((txN xs 72).length/34:Nat):Int)%4294967296:=by simp [IntKind.wrap,IntKind.bits,IntKind.signed]
    rw [q];omega
  rw [e,h0,h1,nb4_dg (W_wrap _)]
theorem nzD_is {ns:List Int} (h: ∀k,W (ns.getD k 0)): ∀n,nzB ns n=nzD ns n
  | 0=>rfl
  | n+1=>by rw [nzB,nzD,nzD_is h n,nb8_dg (h n)]
theorem dP_is {x:TT} {ns:List Int} (h: ∀k,W (ns.getD k 0)):pT x ns=dP x ns:=by
  unfold pT dP;rw [bkD_is,bkD_is,nzD_is h]
theorem tw_part {zs q:List Int} (hq:q=(zs.drop 144).take 4) {i:Nat} (hi:i<16):tw q i=(dN zs).getD i 0:=by
  rw [dN_get zs hi,hq]
  unfold tw
  rw [List.getD_eq_getElem?_getD,List.getD_eq_getElem?_getD,List.getElem?_take_of_lt (by omega),List.getElem?_drop,show 144+i/4=(576+i)/4 by omega,show (576+i)%4=i%4 by omega]
theorem nzD_len (ns:List Int): ∀n,(nzD ns n).length=8*n
  | 0=>rfl
  | n+1=>by rw [nzD,List.length_append,nzD_len ns n];show _+8=_;omega
theorem bkD_len (xs:List Int):(bkD xs).length<=2452:=by
  unfold bkD;rw [List.length_append];have:=txN_len xs 72;show 4+_<=_;omega
end Go.Sx
namespace Go.Sx
structure WtS where
  i:Nat
  ys:List Int
  b2:Nat
  b3:Nat
  b4:Nat
  b6:Nat
theorem cat5 (a b c d:List Int):(⟨#[]⟩:ByteArray)++strL a++strL b++strL c++strL d=strL ((a++b)++(c++d)):=by
  rw [strL_nil]
  simp only [strL_app,List.append_assoc,List.nil_append]
end Go.Sx
namespace Go.Sx
open Go.RowKit
structure PTx where
  i:Nat
  x:TT
  ns:List Int
  zs:List Int
  pm:KV
  ps:PS
  a:PA
  c3:Nat
  c4:Nat
structure PTJ (Kb Ks:MK) (n:Nat) (y:PTx):Prop where
  le:y.i<=n
  pn:NZ y.pm y.ns
  pp:PRT Kb Ks y.ps y.x
  an: [y.a.u0,y.a.v0,y.a.u1,y.a.v1].Nodup
  okz:okT 148 y.zs
  dt:dT y.zs=y.x
  dn:dN y.zs=y.ns
theorem dT_zero:dT (List.replicate 148 0)=(List.replicate 72 0,List.replicate 72 0):=by
  unfold dT
  simp only [List.drop_replicate,List.take_replicate]
  rfl
theorem dN_zero:dN (List.replicate 148 0)=List.replicate 16 0:=by
  unfold dN
  apply List.ext_getElem (by simp)
  intro j h1 h2
  rw [List.getElem_map,List.getElem_replicate]
  unfold tw
  rw [List.getD_eq_getElem?_getD,List.getElem?_replicate]
  have: ∀m:Nat,lim 0 m=0:=fun m=>by unfold lim;simp
  split<;>exact this _
theorem calls_of {mn:KV} {ns:List Int} (h:NZ mn ns) {k v c:Int} (k0:0<=k) (v0:0<=v) (v1:v<18446744073709551616) (hc:c=if 16<=k∨IntKind.u64.wrap (nz mn k+v)≠nz mn k then 0 else 1):c=if 16<=k∨v≠0 then 0 else 1:=by
  rw [hc]
  by_cases h16:16<=k
  · rw [if_pos (.inl h16),if_pos (.inl h16)]
  · have ha:=h.w k.toNat
    rw [←h.at k0 (by omega)] at ha
    have hw:IntKind.u64.wrap (nz mn k+v)=(nz mn k+v)%18446744073709551616:=wrap_u64 _
    unfold W at ha
    by_cases hv:v=0
    · rw [if_neg (by rw [hw];omega),if_neg (by omega)]
    · rw [if_pos (by rw [hw];omega),if_pos (.inr hv)]
theorem cnt_le {k v c:Int} (h:c=if 16<=k∨v≠0 then 0 else 1): ¬c>1:=by rw [h];split<;>decide
theorem cnt1 {k v c:Int} (h:c=if 16<=k∨v≠0 then 0 else 1) (hk:k>15):(c==(0:Int))=true:=by rw [h,if_pos (.inl (by omega))];rfl
theorem cnt2 {k v c:Int} (h:c=if 16<=k∨v≠0 then 0 else 1) (hk: ¬k>15):(c==(0:Int))=(v !=(0:Int)):=by
  rw [h]
  by_cases hv:v=0
  · subst hv;rw [if_neg (by omega)];rfl
  · rw [if_pos (.inr hv)];exact (bne_iff_ne.2 hv).symm
end Go.Sx
